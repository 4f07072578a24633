/- Lemmas of the walk; no conditions beyond those that each states. -/
import Derived.Lib.SplitLaws
import Derived.OpenShut
import Derived.Below
import Derived.Lib.SmallJoins
import Derived.ShutString
import Derived.Shelf.Strings.BuilderF
import Derived.Lib.ItoaNum
import Derived.Lib.Repeat
import Derived.Lib.Bytealg
import Derived.Lib.IndexAny
import Derived.Lib.TrimByte
import Derived.Lib.Strings
import Derived.Laws.RangeAny
import Derived.Lib.DecodeN
import Derived.WalkMore
import Derived.Shelf.RegionOpenPlain
import Derived.Laws.Runes
import Derived.Shelf.Strings.Runes
import Derived.Lib.Small
import Derived.Deep.LoopGhost
import Derived.Lib.IndexLaws
import Derived.Shelf.Small.Utf8
import Derived.Lib.OthersKept
import Derived.Shelf.Strings.IndexAny
import Derived.Shelf.Strings.IndexAnyAll
import Derived.Lib.Replace
import Derived.Test.YtgonkeglcehkeaaDoorD2
import Derived.Test.YtgonkeglcehkeaaDoorD3
set_option linter.unusedSimpArgs false
set_option linter.unusedVariables false
set_option linter.unnecessarySimpa false
namespace Nat32
def B : Nat := 4294967296
def nv : List Nat → Nat
  | [] => 0
  | x :: r => x + 4294967296 * nv r
def limbs (n : Nat) : List Nat := if h : n = 0 then [] else (n % 4294967296) :: limbs (n / 4294967296)
  termination_by n
  decreasing_by omega
def lim (a : List Nat) : Prop := ∀ x ∈ a, x < 4294967296
def vld (a : List Nat) : Bool := decide (a.length = 0 ∨ a.getD (a.length - 1) 0 ≠ 0)
def val (a : List Nat) : List Nat := if vld a then a else []
theorem lim_cons {x : Nat} {r : List Nat} : lim (x :: r) ↔ x < 4294967296 ∧ lim r := by
  constructor
  · intro h; exact ⟨h x (by simp), fun y hy => h y (by simp [hy])⟩
  · rintro ⟨h1, h2⟩ y hy
    rcases List.mem_cons.1 hy with e | e
    · subst e; exact h1
    · exact h2 y e
theorem lim_take {a : List Nat} (h : lim a) (n : Nat) : lim (a.take n) := fun x hx => h x (List.mem_of_mem_take hx)
theorem nv_app (a b : List Nat) : nv (a ++ b) = nv a + 4294967296 ^ a.length * nv b := by
  induction a with
  | nil => simp [nv]
  | cons x a ih =>
    simp only [List.cons_append, nv, ih, List.length_cons, Nat.pow_succ, Nat.mul_add]
    rw [← Nat.mul_assoc, Nat.mul_comm (4294967296 ^ a.length) 4294967296]
    omega
def vn (a : List Nat) : Nat := nv (val a)
theorem nv_lt {a : List Nat} (h : lim a) : nv a < 4294967296 ^ a.length := by
  induction a with
  | nil => simp [nv]
  | cons x r ih =>
    obtain ⟨hx, hr⟩ := lim_cons.1 h
    have := ih hr
    simp only [nv, List.length_cons, Nat.pow_succ]
    omega
end Nat32
namespace Nat32
open Go Go.Dat
def u32 (n : Nat) : DV := .int .u32 n
def us (xs : List Nat) : List DV := xs.map u32
theorem us_length (xs : List Nat) : (us xs).length = xs.length := by simp [us]
theorem frz_us {o len : Nat} {q : List Nat} (h : len = q.length) : frz o (us q) (.osl 1 o 0 len) = .sl 1 (us q) := by
  subst h
  rw [frz_osl_eq o (us q) 0 q.length (by decide) (by simp [us_length])]
  simp [← us_length]
end Nat32
namespace Go.Dat
open Go
end Go.Dat
namespace Nat32
theorem nv_drop {a : List Nat} {m : Nat} (h : m < a.length) : nv (a.drop m) = a.getD m 0 + 4294967296 * nv (a.drop (m + 1)) := by
  rw [List.drop_eq_getElem_cons h, List.getD_eq_getElem?_getD, List.getElem?_eq_getElem h]; rfl
end Nat32
namespace Nat32
open Go Go.Dat
def hap (o : Nat) : List Nat → Hp
  | [] => []
  | x :: r => [(o, us (x :: r))]
end Nat32
namespace Nat32
theorem nv_split_at (a : List Nat) (k : Nat) (h : k ≤ a.length) : nv a = nv (a.take k) + 4294967296 ^ k * nv (a.drop k) := by
  have := nv_app (a.take k) (a.drop k)
  rw [List.take_append_drop, List.length_take, Nat.min_eq_left h] at this
  exact this
end Nat32
namespace Nat32
open Go Go.Dat
theorem shr2 {x y z k : Nat} (hk : k ≤ 31) : ((4294967296 * y + x) / 2 ^ k) % 4294967296 = ((x + 4294967296 * (y + 4294967296 * z)) / 2 ^ k) % 4294967296 := by
  have e : (x + 4294967296 * (y + 4294967296 * z)) = (4294967296 * y + x) + 2 ^ k * (2 ^ (32 - k) * (4294967296 * z)) := by
    rw [← Nat.mul_assoc, ← Nat.pow_add, show k + (32 - k) = 32 by omega]
    omega
  rw [e, Nat.add_mul_div_left _ _ (Nat.two_pow_pos k), show 2 ^ (32 - k) * (4294967296 * z) = 4294967296 * (2 ^ (32 - k) * z) by rw [← Nat.mul_assoc, Nat.mul_comm (2 ^ (32 - k)), Nat.mul_assoc], Nat.add_mul_mod_self_left]
end Nat32
namespace Nat32
theorem nv_take_lt {a : List Nat} (h : lim a) {n : Nat} (hn : n ≤ a.length) : nv (a.take n) < 4294967296 ^ n := by
  have := nv_lt (lim_take h n)
  rwa [List.length_take, Nat.min_eq_left hn] at this
structure Step (u : List Nat) (V i n : Nat) : Prop where
  eq : nv (u.drop i) = nv ((u.drop i).take (n + 3))
  lt : nv (u.drop i) < 4294967296 * V
  cells : u = u.take i ++ (u.drop i).take (n + 3) ++ u.drop (i + (n + 3))
  slen : ((u.drop i).take (n + 3)).length = n + 3
  g2 : ((u.drop i).take (n + 3)).getD (n + 2) 0 = u.getD (i + n + 2) 0
  g1 : ((u.drop i).take (n + 3)).getD (n + 1) 0 = u.getD (i + n + 1) 0
  g0 : ((u.drop i).take (n + 3)).getD n 0 = u.getD (i + n) 0
  rest : nv (u.drop (i + (n + 3))) = 0
theorem drop_div {u : List Nat} (lu : lim u) (i : Nat) (h : i ≤ u.length) : nv u / 4294967296 ^ i = nv (u.drop i) := by
  have h1 := nv_split_at u i h
  have h2 := nv_take_lt lu h
  rw [h1, Nat.add_mul_div_left _ _ (by omega), Nat.div_eq_of_lt h2, Nat.zero_add]
theorem back {u : List Nat} (lu : lim u) {i k : Nat} (hi : i + 1 < u.length) (hk : k ≤ 31) : (u.getD (i + 1) 0 * 4294967296 + u.getD i 0) / 2 ^ k % 4294967296 = nv u / 2 ^ k / 4294967296 ^ i % 4294967296 := by
  rw [Nat.div_div_eq_div_mul, Nat.mul_comm (2 ^ k), ← Nat.div_div_eq_div_mul, drop_div lu i (by omega), nv_drop (a := u) (m := i) (by omega), nv_drop (a := u) (m := i + 1) (by omega), ← shr2 hk, Nat.mul_comm 4294967296]
end Nat32
namespace Nat32
open Go Go.Dat
def iv (neg : Bool) (a : List Nat) : Int := if neg then -((vn a : Nat) : Int) else ((vn a : Nat) : Int)
def I (z : Int) : DV := .agg [.bool (decide (z < 0)), .sl 1 (us (limbs z.natAbs))]
def X (neg : Bool) (a : List Nat) : DV := .agg [.bool neg, .sl 1 (us a)]
def vldI (neg : Bool) (a : List Nat) : Bool := vld a && (decide (0 < a.length) || !neg)
end Nat32
namespace Nat32
open Go Go.Dat
def strL (r : List (List UInt8)) : List DV := r.map DV.str
def recD (recs : List (List (List UInt8))) : List DV := recs.map fun r => .sl 1 (strL r)
end Nat32
namespace Nat32
open Go Go.Dat
def part (a z : DV) (i k : Nat) : List DV := List.replicate i a ++ List.replicate (k - i) z
end Nat32
namespace Nat32
open Go Go.Dat
abbrev Bs := List UInt8
end Nat32
namespace Nat32
open Go Go.Dat Go.RowKit Go.ChangeShapes Go.WideShapes Go.Joins Go.Deep
section
variable {H : Type} {enc : TypeId × Value → H} {P : Program} {w : World} {base : Nat} {spare : Nat → Bool} {held : Bool}
theorem vi_text {r : Reach} {b0 : Nat} {t : TypeId} {v : Value} {d : DataW H} {p : List MemPlace} (ht : P.underlying t = some .string)
    (hv : Value.okWide P w r b0 t v) (h : DataW.Trod enc P w base spare held t v d p) : ∃ s : Bs, s.length ≤ 9223372036854775807 ∧ VI w (fun _ => False) (.str s) v := by
  obtain ⟨s, rfl, rfl, rfl, hs⟩ := Go.ChangeMaps.open_string ht hv h
  refine ⟨s.data.toList, by unfold maxLen at hs; simpa using hs, ?_⟩
  have : (Value.string s) = .string ⟨s.data.toList.toArray⟩ := by cases s; simp
  rw [this]
  exact .str _
end
end Nat32
namespace Go.Dat
open Go Go.Proofs Go.RowKit Go.Shelf
section
variable {P : Program} {ρ : Ren}
theorem shape_modify (w : World) (g : Nat) (f : Obj → Obj) (k : Nat) (hf : ∀ o : Obj, (match some (f o) with
  | some (.cells c elem _) => some (elem, c.size)
  | _ => none : Option (TypeId × Nat)) = match some o with
  | some (.cells c elem _) => some (elem, c.size)
  | _ => none) : ({ w.drew with heap := w.drew.heap.modify g f } : World).shape? k = w.shape? k := by
  unfold World.shape?
  show (match (w.heap.modify g f)[k]? with
    | some (.cells c elem _) => some (elem, c.size)
    | _ => none) = _
  rw [Array.getElem?_modify]
  by_cases e : g = k
  · rw [if_pos e]
    cases h : w.heap[k]? with
    | none => rfl
    | some o => exact hf o
  · rw [if_neg e]; cases w.heap[k]? <;> rfl
theorem Ext_freeze (w : World) (g n : Nat) : Ext (fun x => x = g) w (w.drew.freeze ⟨g, 0, none⟩ n) ∧ ∀ k, (w.drew.freeze ⟨g, 0, none⟩ n).shape? k = w.shape? k := by
  unfold World.freeze
  split
  · exact ⟨⟨rfl, rfl, rfl, Nat.le_refl _, fun _ _ _ => rfl⟩, fun _ => rfl⟩
  · refine ⟨⟨rfl, rfl, rfl, (by show w.heap.size ≤ (w.heap.modify g _).size; rw [Array.size_modify]; exact Nat.le_refl _), fun b _ hb => ?_⟩, fun k => ?_⟩
    · show (w.heap.modify g _)[b]? = _
      rw [Array.getElem?_modify, if_neg (fun e => hb e.symm)]
    · exact shape_modify w g _ k (fun o => by cases o <;> rfl)
theorem Ext_sub {S T : Nat → Prop} {w w' : World} (h : Ext S w w') (hs : ∀ x, S x → T x) : Ext T w w' := h.mono fun k _ hk => hs k hk
set_option maxHeartbeats 2000000 in
set_option maxRecDepth 100000 in
theorem Str_some (L : Lays.n169 P ρ) (X : Builder.Extra P ρ) (b g cap n : Nat) (l : List UInt8) (w : World) (c0 : w.cell? ⟨b, 1, none⟩ = some (.slice (some ⟨g, 0, none⟩) l.length cap)) (hcap : cap ≠ 0)
    (hsh : w.shape? g = some (ρ.t 5, n)) (hn : l.length ≤ n) (h63 : l.length ≤ 9223372036854775807) (hcell : ∀ j x, l[j]? = some x → w.cell? ((⟨g, 0, none⟩ : Addr).add j) = some (.int .u8 x.toNat)) (h0 : l ≠ []) :
    Calls P (ρ.f 169) #[.pointer (some ⟨b, 0, none⟩)] w fun e w' => e = .returned (.string ⟨l.toArray⟩) ∧ w' = w.drew.freeze ⟨g, 0, none⟩ l.length := by
  have c1 : w.drew.cell? ⟨b, 1, none⟩ = some (.slice (some ⟨g, 0, none⟩) l.length cap) := c0
  have hSD : (Builtin.unsafeSliceData_ #[(ρ.t 37)] (ρ.t 127) #[.slice (some ⟨g, 0, none⟩) l.length cap]).run P w.drew = .ok (.pointer (some ⟨g, 0, none⟩)) w.drew :=
    Lib.run_unsafeSliceData_row _ _ _ _ _ _ hcap
  have hUS : (Builtin.unsafeString_ #[(ρ.t 127), (ρ.t 3)] (ρ.t 9) #[.pointer (some ⟨g, 0, none⟩), .int .i64 l.length]).run P w.drew = .ok (.string ⟨l.toArray⟩) (w.drew.freeze ⟨g, 0, none⟩ l.length) :=
    Lib.run_unsafeString_row w.drew (ρ.t 127) (ρ.t 3) (ρ.t 9) (ρ.t 5) L.t127 X.cellsByte g n hsh l h0 hn h63 hcell
  clear hcap hsh hn h63 hcell h0
  have mixed := L.mixed
  have t72 := L.t72; have a72 := L.a72; have z72 := L.z72; have v72 := L.v72; have u72 := run_underlying L.t72
  have t70 := L.t70; have a70 := L.a70; have z70 := L.z70; have v70 := L.v70; have u70 := run_underlying L.t70
  have t37 := L.t37; have a37 := L.a37; have z37 := L.z37; have v37 := L.v37; have u37 := run_underlying L.t37
  have t127 := L.t127; have a127 := L.a127; have z127 := L.z127; have v127 := L.v127; have u127 := run_underlying L.t127
  have t3 := L.t3; have a3 := L.a3; have z3 := L.z3; have v3 := L.v3; have u3 := run_underlying L.t3
  have t9 := L.t9; have a9 := L.a9; have z9 := L.z9; have v9 := L.v9; have u9 := run_underlying L.t9
  have t5 := X.t5; have a5 := X.a5; have z5 := X.z5; have v5 := X.v5; have u5 := run_underlying X.t5
  go_enter L.f169, Body.n169_ntmps ρ
  go_wp2
  go_region_o
  all_goals (go_wp2; go_ret; exact ⟨rfl, rfl⟩)
set_option maxHeartbeats 2000000 in
set_option maxRecDepth 100000 in
theorem Str_nil (L : Lays.n169 P ρ) (X : Builder.Extra P ρ) (b : Nat) (w : World) (c0 : w.cell? ⟨b, 1, none⟩ = some (.slice none 0 0)) :
    Calls P (ρ.f 169) #[.pointer (some ⟨b, 0, none⟩)] w fun e w' => e = .returned (.string ⟨#[]⟩) ∧ Ext (fun _ => False) w w' := by
  have hUS := Any.unsafeString_none L X
  have c1 : w.drew.cell? ⟨b, 1, none⟩ = some (.slice none 0 0) := c0
  have hSD : (Builtin.unsafeSliceData_ #[(ρ.t 37)] (ρ.t 127) #[.slice none 0 0]).run P w.drew = .ok (.pointer none) w.drew := rfl
  have mixed := L.mixed
  have t72 := L.t72; have a72 := L.a72; have z72 := L.z72; have v72 := L.v72; have u72 := run_underlying L.t72
  have t70 := L.t70; have a70 := L.a70; have z70 := L.z70; have v70 := L.v70; have u70 := run_underlying L.t70
  have t37 := L.t37; have a37 := L.a37; have z37 := L.z37; have v37 := L.v37; have u37 := run_underlying L.t37
  have t127 := L.t127; have a127 := L.a127; have z127 := L.z127; have v127 := L.v127; have u127 := run_underlying L.t127
  have t3 := L.t3; have a3 := L.a3; have z3 := L.z3; have v3 := L.v3; have u3 := run_underlying L.t3
  have t9 := L.t9; have a9 := L.a9; have z9 := L.z9; have v9 := L.v9; have u9 := run_underlying L.t9
  have t5 := X.t5; have a5 := X.a5; have z5 := X.z5; have v5 := X.v5; have u5 := run_underlying X.t5
  go_enter L.f169, Body.n169_ntmps ρ
  go_wp2
  go_region_o
  all_goals (go_wp2; go_ret; exact ⟨rfl, Ext.drew _ w⟩)
set_option maxHeartbeats 2000000 in
set_option maxRecDepth 100000 in
theorem Str_room (L : Lays.n169 P ρ) (X : Builder.Extra P ρ) (b g cap : Nat) (w : World) (c0 : w.cell? ⟨b, 1, none⟩ = some (.slice (some ⟨g, 0, none⟩) 0 cap)) (hcap : cap ≠ 0) :
    Calls P (ρ.f 169) #[.pointer (some ⟨b, 0, none⟩)] w fun e w' => e = .returned (.string ⟨#[]⟩) ∧ Ext (fun _ => False) w w' := by
  have hUS := Any.unsafeString_none L X
  have c1 : w.drew.cell? ⟨b, 1, none⟩ = some (.slice (some ⟨g, 0, none⟩) 0 cap) := c0
  have hSD : (Builtin.unsafeSliceData_ #[(ρ.t 37)] (ρ.t 127) #[.slice (some ⟨g, 0, none⟩) 0 cap]).run P w.drew = .ok (.pointer (some ⟨g, 0, none⟩)) w.drew :=
    Lib.run_unsafeSliceData_row _ _ _ _ _ _ hcap
  clear hcap
  have mixed := L.mixed
  have t72 := L.t72; have a72 := L.a72; have z72 := L.z72; have v72 := L.v72; have u72 := run_underlying L.t72
  have t70 := L.t70; have a70 := L.a70; have z70 := L.z70; have v70 := L.v70; have u70 := run_underlying L.t70
  have t37 := L.t37; have a37 := L.a37; have z37 := L.z37; have v37 := L.v37; have u37 := run_underlying L.t37
  have t127 := L.t127; have a127 := L.a127; have z127 := L.z127; have v127 := L.v127; have u127 := run_underlying L.t127
  have t3 := L.t3; have a3 := L.a3; have z3 := L.z3; have v3 := L.v3; have u3 := run_underlying L.t3
  have t9 := L.t9; have a9 := L.a9; have z9 := L.z9; have v9 := L.v9; have u9 := run_underlying L.t9
  have t5 := X.t5; have a5 := X.a5; have z5 := X.z5; have v5 := X.v5; have u5 := run_underlying X.t5
  go_enter L.f169, Body.n169_ntmps ρ
  go_wp2
  go_region_o
  all_goals (go_wp2; go_ret; exact ⟨rfl, Ext.drew _ w⟩)
set_option maxHeartbeats 2000000 in
set_option maxRecDepth 100000 in
theorem Str_noroom (L : Lays.n169 P ρ) (X : Builder.Extra P ρ) (b g n : Nat) (w : World) (hlt : b < w.heap.size) (c0 : w.cell? ⟨b, 1, none⟩ = some (.slice (some ⟨g, 0, none⟩) 0 0)) (hsh : w.shape? g = some (ρ.t 5, n)) :
    Calls P (ρ.f 169) #[.pointer (some ⟨b, 0, none⟩)] w fun e w' => e = .returned (.string ⟨#[]⟩) ∧ Ext (fun _ => False) w w' := by
  have hUS := Any.unsafeString_none L X
  have c1 : w.drew.cell? ⟨b, 1, none⟩ = some (.slice (some ⟨g, 0, none⟩) 0 0) := c0
  have hSD : (Builtin.unsafeSliceData_ #[(ρ.t 37)] (ρ.t 127) #[.slice (some ⟨g, 0, none⟩) 0 0]).run P w.drew = .ok (.pointer (some ⟨w.drew.heap.size, 0, none⟩)) (w.drew.alloc (.view ⟨g, 0, none⟩ (ρ.t 5))) :=
    Lib.run_unsafeSliceData_zero w.drew _ _ (ρ.t 5) L.t127 ⟨g, 0, none⟩ 0 ((ρ.t 5), n) hsh
  have c2 : (w.drew.alloc (.view ⟨g, 0, none⟩ (ρ.t 5))).cell? ⟨b, 1, none⟩ = some (.slice (some ⟨g, 0, none⟩) 0 0) := by
    rw [← c1]
    exact World.cell?_of_block (Lib.alloc_old w.drew _ b hlt)
  have c3 : (w.alloc (.view ⟨g, 0, none⟩ (ρ.t 5))).drew.cell? ⟨b, 1, none⟩ = some (.slice (some ⟨g, 0, none⟩) 0 0) := c2
  have mixed := L.mixed
  have t72 := L.t72; have a72 := L.a72; have z72 := L.z72; have v72 := L.v72; have u72 := run_underlying L.t72
  have t70 := L.t70; have a70 := L.a70; have z70 := L.z70; have v70 := L.v70; have u70 := run_underlying L.t70
  have t37 := L.t37; have a37 := L.a37; have z37 := L.z37; have v37 := L.v37; have u37 := run_underlying L.t37
  have t127 := L.t127; have a127 := L.a127; have z127 := L.z127; have v127 := L.v127; have u127 := run_underlying L.t127
  have t3 := L.t3; have a3 := L.a3; have z3 := L.z3; have v3 := L.v3; have u3 := run_underlying L.t3
  have t9 := L.t9; have a9 := L.a9; have z9 := L.z9; have v9 := L.v9; have u9 := run_underlying L.t9
  have t5 := X.t5; have a5 := X.a5; have z5 := X.z5; have v5 := X.v5; have u5 := run_underlying X.t5
  go_enter L.f169, Body.n169_ntmps ρ
  go_wp2
  go_region_o
  all_goals (go_wp2; go_ret; exact ⟨rfl, (Ext.drew _ w).trans (Ext.alloc _ w.drew _)⟩)
theorem Str_calls (L : Lays.n169 P ρ) (X : Builder.Extra P ρ) (N M : Nat) (hN : 2097152 ≤ N) (hM : 786432 ≤ M ∧ M < 851968) (hMt : (M - 786432) / 16 = ρ.t 5) (l : List UInt8) (h63 : l.length ≤ 9223372036854775807) (c0 : DV) :
    MRel P (ρ.f 169) [.ptr N 0] (BH N M c0 l) fun r H' => r = .str l ∧ H' = [(N, [.undef, .undef])] := by
  intro S Lm w us hT hTb hH hS hs hv
  have hNM : N ≠ M := by omega
  obtain ⟨v0, hv0⟩ := exists_aget (l := us) (k := 0) (by rw [hs]; exact Nat.zero_lt_succ 0)
  obtain ⟨b, hL, rfl⟩ := (hv 0 _ v0 rfl hv0).inv_ptr
  obtain rfl : us = #[.pointer (some ⟨b, 0, none⟩)] := by
    have h1 : us.size = 1 := by simpa using hs
    apply Array.ext_getElem?
    intro i
    match i with
    | 0 => rw [hv0]; rfl
    | i + 1 => rw [Array.getElem?_eq_none (by omega), Array.getElem?_eq_none (by simp)]
  obtain ⟨cells, cs, T, hc, hb, hl, hp⟩ := hH.at_ hL
  rw [lkH_BH hNM, if_pos rfl] at hc
  cases hc
  have hl2 : 2 ≤ cs.size := hl
  obtain ⟨u1, hu1⟩ := exists_aget (l := cs) (k := 1) (by omega)
  have hV1 := hp 1 _ u1 rfl hu1
  have hc1 : w.cell? ⟨b, 1, none⟩ = some u1 := by rw [cell_of_row w b 1 cs T (0, 0) hb]; exact hu1
  have hlt := hH.lt hL
  have hfin : ∀ (w' : World) (s : Value), s = .string ⟨l.toArray⟩ → (∃ g, (g = b → False) ∧ (∀ o, Lm o = some g → o = M) ∧ (∃ o, Lm o = some g) ∧ Ext (fun x => x = g) w w' ∧ ∀ k, k < w.heap.size → w'.shape? k = w.shape? k) ∨ Ext (fun _ => False) w w' →
      ∃ v L' r H', (r = .str l ∧ H' = [(N, [.undef, .undef])]) ∧ Ending.returned s = .returned v ∧ HOK w' S L' (lkH H') ∧ V w' L' (Av S L') r v ∧ Ext (fun x => ∃ o, Lm o = some x) w w' ∧
      (∀ o b, Lm o = some b → 1048576 ≤ o → L' o = some b) ∧ (∀ o b, L' o = some b → (∃ p, Lm p = some b) ∨ w.heap.size ≤ b) ∧ (∀ b, b < w.heap.size → w'.shape? b = w.shape? b) := by
    intro w' s hs2 hx
    subst hs2
    have hx1 : w'.heap[b]? = w.heap[b]? ∧ Ext (fun x => ∃ o, Lm o = some x) w w' ∧ ∀ k, k < w.heap.size → w'.shape? k = w.shape? k := by
      rcases hx with ⟨g, h1, _, h2, h3, h4⟩ | h
      · exact ⟨h3.block b hlt (fun e => h1 e.symm), Ext_sub h3 fun x e => e ▸ h2, h4⟩
      · exact ⟨h.block b hlt id, Ext_sub h fun x e => e.elim, fun k hk => shape_of_block (h.block k hk id)⟩
    obtain ⟨g1, g2, g3⟩ := hx1
    have hdom : ∀ o x, Lm o = some x → o = N ∨ o = M := fun o x ho => by
      obtain ⟨c, hc⟩ := hH.dom o x ho
      rw [lkH_BH hNM] at hc
      by_cases e : o = N
      · exact .inl e
      · rw [if_neg e] at hc
        by_cases e2 : o = M
        · exact .inr e2
        · rw [if_neg e2] at hc; cases hc
    have hN1 : ∀ o x, (if o = N then some b else none) = some x → o = N ∧ x = b := fun o x h => by
      split at h
      · rename_i e; exact ⟨e, (Option.some.inj h).symm⟩
      · cases h
    refine ⟨_, fun o => if o = N then some b else none, .str l, _, ⟨rfl, rfl⟩, rfl, ⟨fun o x ho => ?_, fun o c ho => ?_, fun o p x h1 h2 => ?_, fun o x ho => ?_, fun o x ho => ?_⟩, .imm (.str l), g2, fun o x ho hge => ?_, fun o x ho => ?_, g3⟩
    · obtain ⟨rfl, rfl⟩ := hN1 o x ho
      exact ⟨[.undef, .undef], by rw [lkH_one, if_pos rfl]⟩
    · rw [lkH_one] at ho
      split at ho
      · rename_i e
        subst e
        cases ho
        exact .inr ⟨b, cs, T, by rw [if_pos rfl], g1.trans hb, hl, fun k d v hk _ => by
          match k with
          | 0 => simp at hk; subst hk; exact .imm (.undef _)
          | 1 => simp at hk; subst hk; exact .imm (.undef _)
          | k + 2 => simp at hk⟩
      · cases ho
    · rw [(hN1 o x h1).1, (hN1 p x h2).1]
    · rw [(hN1 o x ho).2]; exact hH.notS N b hL
    · obtain ⟨rfl, rfl⟩ := hN1 o x ho
      exact (hH.ty o x hL).imm_shape (g3 x hlt)
    · rcases hdom o x ho with rfl | rfl
      · rw [hL] at ho; cases ho; exact if_pos rfl
      · omega
    · obtain ⟨rfl, rfl⟩ := hN1 o x ho
      exact .inl ⟨o, hL⟩
  rcases hV1.inv_osl with ⟨g, cap, T1, m, hLM, e1, hc, hsh, hm⟩ | ⟨hz, e1⟩
  · subst e1
    obtain ⟨cells2, cs2, T2, hc2, hb2, hl3, hp2⟩ := hH.at_ hLM
    rw [lkH_BH hNM, if_neg (Ne.symm hNM), if_pos rfl] at hc2
    cases hc2
    have hbl : (bys l).length = l.length := by simp [bys]
    have hsh2 : w.shape? g = some (T2, cs2.size) := by simp [World.shape?, hb2]
    obtain ⟨T3, m3, h5, h6⟩ := hH.ty M g hLM (.inr hM)
    rw [hsh2] at h5
    cases h5
    have hT2 : @Eq Nat T2 (ρ.t 5) := Eq.trans (h6.2 hM.1 hM.2) hMt
    have hgb : g = b → False := fun e => hNM (hH.inj N M b hL (e ▸ hLM))
    by_cases hl0 : l = []
    · subst hl0
      by_cases hcap : cap = 0
      · subst hcap
        refine (Str_noroom L X b g cs2.size w hlt hc1 (by rw [hsh2, hT2])).mono ?_
        rintro e w' ⟨rfl, hx⟩
        exact hfin w' _ rfl (.inr hx)
      · refine (Str_room L X b g cap w hc1 hcap).mono ?_
        rintro e w' ⟨rfl, hx⟩
        exact hfin w' _ rfl (.inr hx)
    · have hpos : 0 < l.length := List.length_pos_iff.2 hl0
      refine (Str_some L X b g cap cs2.size l w hc1 (by omega) (by rw [hsh2, hT2]) (by omega) h63 (fun j x hj => ?_) hl0).mono ?_
      · have hj2 : (bys l)[j]? = some (byteD x) := by simp [bys, hj]
        obtain ⟨u, hu⟩ := exists_aget (l := cs2) (k := j) (by have := (List.getElem?_eq_some_iff.1 hj2).1; omega)
        rw [add_lit, Nat.zero_add, cell_of_row w g j cs2 T2 (0, 0) hb2, hu, (hp2 j _ u hj2 hu).inv_int]
      · rintro e w' ⟨rfl, rfl⟩
        obtain ⟨hx, hy⟩ := Ext_freeze w g l.length
        exact hfin _ _ rfl (.inl ⟨g, hgb, fun o ho => hH.inj o M g ho hLM, ⟨M, hLM⟩, hx, fun k _ => hy k⟩)
  · subst e1
    have hl0 : l = [] := List.eq_nil_of_length_eq_zero hz
    subst hl0
    refine (Str_nil L X b w hc1).mono ?_
    rintro e w' ⟨rfl, hx⟩
    exact hfin w' _ rfl (.inr hx)
end
end Go.Dat
namespace Nat32
open Go Go.Dat
def dn (d : Nat) : List Nat := if d = 1 then [] else limbs d
def Q (r : Rat) : DV := .agg [.bool (decide (r.num < 0)), .sl 1 (us (limbs r.num.natAbs)), .sl 1 (us (dn r.den))]
def vldQ (neg : Bool) (a d : List Nat) : Bool := vldI neg a && vld d && (decide (d.length = 0) || (decide (0 < a.length) && decide (¬ vn d = 1) && decide (1 = Nat.gcd (vn a) (vn d))))
def rv (neg : Bool) (a d : List Nat) : Rat := if vldQ neg a d then mkRat (iv neg a) (if d.length = 0 then 1 else vn d) else 0
def RB (r : Rat) (m : Nat) : Prop := (limbs r.num.natAbs).length ≤ m ∧ (limbs r.den).length ≤ m
theorem RB.mono {r : Rat} {m n : Nat} (h : RB r m) (hm : m ≤ n) : RB r n := ⟨Nat.le_trans h.1 hm, Nat.le_trans h.2 hm⟩
end Nat32
namespace Nat32
open Go Go.Dat
open Go.Lib (decDigits)
def fi (p : UInt8 → Bool) : List UInt8 → Nat
  | [] => 0
  | c :: t => if p c then 0 else fi p t + 1
end Nat32
namespace Nat32
open Go Go.Dat
open Go.Lib (decDigits)
def idx (p : UInt8 → Bool) (l : List UInt8) : Int := if fi p l < l.length then (fi p l : Int) else -1
end Nat32
namespace Go.Proofs
open Go.Shelf Go.RowKit Go.Lib
variable {P : Program} {ρ : Ren}
theorem indexByte_no : ∀ (l : List UInt8) (y : UInt8), (∀ x ∈ l, x ≠ y) → Lib.indexByte l y = -1
  | [], _, _ => rfl
  | x :: l, y, h => by
    have h1 : (x == y) = false := beq_eq_false_iff_ne.2 (h x (List.mem_cons_self ..))
    have h2 := indexByte_no l y (fun z hz => h z (List.mem_cons_of_mem _ hz))
    unfold Lib.indexByte
    rw [h1, h2]
    rfl
theorem bytes_ascii {s : ByteArray} (has : ∀ (j : Nat) (hj : j < s.size), (s[j]'hj).toNat < 128) {a b : Nat} : ∀ z ∈ (s.extract a b).data.toList, z.toNat < 128 := by
  intro z hz
  obtain ⟨k, hk⟩ := List.mem_iff_getElem?.1 hz
  have h1 : (s.extract a b).data[k]? = some z := by rw [← Array.getElem?_toList]; exact hk
  rw [ByteArray.data_extract, Array.getElem?_extract] at h1
  split at h1
  · obtain ⟨h2, h3⟩ := Array.getElem?_eq_some_iff.1 h1
    have := has (a + k) h2
    rw [← h3]
    exact this
  · cases h1
set_option maxHeartbeats 8000000 in
set_option maxRecDepth 1000000 in
theorem IRa_hi (L : Lays.n152 P ρ) (s : ByteArray) (has : ∀ (j : Nat) (hj : j < s.size), (s[j]'hj).toNat < 128) (hs : s.size < 4294967281) (r : Int) (w : World) (h0 : 128 ≤ r) (h1 : r ≠ 65533) :
    Calls P (ρ.f 152) #[.string s, .int .i32 r] w fun e w' => e = .returned (.int .i64 (-1)) ∧ Below w.heap.size w w' := by
  have mixed := L.mixed
  have t3 := L.t3; have a3 := L.a3; have z3 := L.z3; have v3 := L.v3
  have t4 := L.t4; have a4 := L.a4; have z4 := L.z4; have v4 := L.v4
  have t5 := L.t5; have a5 := L.a5; have z5 := L.z5; have v5 := L.v5
  have t9 := L.t9; have a9 := L.a9; have z9 := L.z9; have v9 := L.v9
  have t21 := L.t21; have a21 := L.a21; have z21 := L.z21; have v21 := L.v21
  have e119 : ∀ args w, (callFunc (ρ.f 119) args).run P w = .ok (.enter (ρ.f 119) args) w := enters_of L.f119 (by kernel_rfl) rfl
  have e137 : ∀ args w, (callFunc (ρ.f 137) args).run P w = .ok (.enter (ρ.f 137) args) w := enters_of L.f137 (by kernel_rfl) rfl
  have d0 : decide ((0 : Int) ≤ r) = true := decide_eq_true (by omega)
  have d1 : decide (r < 128) = false := decide_eq_false (by omega)
  have hne : (r == 65533) = false := beq_eq_false_iff_ne.2 h1
  have hcv : ∀ w, (convert (ρ.t 21) (ρ.t 9) (.int .i32 r)).run P w = .ok (.string (Utf8.encode r)) w := fun w => run_convert_int_string w _ _ .i32 r (by rw [L.t21]; rfl) L.t9
  have hfacts : Lib.validRune r = true → 2 ≤ (Utf8.encode r).size ∧ (Utf8.encode r).size ≤ 4 ∧ ∀ h : (Utf8.encode r).size - 1 < (Utf8.encode r).size, 128 ≤ ((Utf8.encode r)[(Utf8.encode r).size - 1]'h).toNat := fun h => by
    have h2 : Utf8.valid r = true := by
      simp only [Lib.validRune, decide_eq_true_eq] at h
      simp only [Utf8.valid, Bool.or_eq_true, Bool.and_eq_true, decide_eq_true_eq]
      omega
    exact encode_facts r h2 h0
  go_enter L.f152, Body.n152_ntmps ρ
  cases hv : Lib.validRune r
  · go_wp2_with (go_at_fn (ρ.f 119); refine (Any.utf8_ValidRune { L with } _ _).mono ?_; rintro e w' ⟨rfl, hw⟩; rw [hw, hv])
    go_ret
    exact ⟨rfl, Below.refl _ _⟩
  · go_wp2_with (go_at_fn (ρ.f 119); refine (Any.utf8_ValidRune { L with } _ _).mono ?_; rintro e w' ⟨rfl, hw⟩; rw [hw, hv])
    apply wp_scope_straight
    obtain ⟨y2, y4, yb⟩ := hfacts hv
    clear hfacts
    obtain ⟨n, hn⟩ : ∃ n, (Utf8.encode r).size = n + 1 := ⟨(Utf8.encode r).size - 1, by omega⟩
    have hnn : n < (Utf8.encode r).size := by omega
    have hw : wrap64 (((Utf8.encode r).size : Int) - 1) = (n : Int) := by rw [hn]; unfold wrap64; omega
    obtain ⟨y, hy⟩ : ∃ y : UInt8, (Utf8.encode r)[n]'hnn = y := ⟨_, rfl⟩
    have hyb : 128 ≤ y.toNat := by
      have := yb (by omega)
      simp only [hn, Nat.add_sub_cancel] at this
      rw [← hy]; exact this
    by_cases hlen : n < s.size
    · obtain ⟨x, hx⟩ : ∃ x : UInt8, s[n]'hlen = x := ⟨_, rfl⟩
      have hxb : x.toNat < 128 := by rw [← hx]; exact has n hlen
      have hne2 : (x == y) = false := beq_eq_false_iff_ne.2 (fun e => by rw [e] at hxb; omega)
      have hib : Lib.indexByte (s.extract (n + 1) s.size).data.toList y = -1 := by
        refine indexByte_no _ _ fun z hz e => ?_
        have := bytes_ascii has z hz
        rw [e] at this
        omega
      have hib2 : Lib.indexByte (List.take (s.size - (n + 1)) (List.drop (n + 1) s.data.toList)) y = -1 := by
        have := hib
        simpa using this
      clear yb hcv
      go_wp2
      go_loopg [9] 1 (fun g s9 wx => g = 1 ∧ s9 = .int .i64 (n : Int) ∧ wx = w)
      case atStart => exact ⟨rfl, rfl, rfl⟩
      case round =>
        obtain ⟨rfl, rfl, rfl⟩ := hrel
        have hlt : decide ((n : Int) < (s.size : Int)) = true := decide_eq_true (by omega)
        clear hn y2 y4
        have hi1 : n < s.size := hlen
        have hi2 : n < (Utf8.encode r).size := hnn
        have hw3 : IntKind.i64.wrap ((n : Int) + 1) = (n : Int) + 1 := by rw [Go.Dat.w64 (by omega) (by omega)]
        have hsl : ∀ w, (Instr.slice (ρ.t 9) (.string s) (some (.int .i64 ((n : Int) + 1))) none none).run P w = .ok (.string (s.extract (n + 1) s.size)) w := fun w => by
          rw [run_slice_string_from_if w _ _ _ _ L.t9, if_pos ⟨by omega, by omega⟩, show ((n : Int) + 1).toNat = n + 1 by omega]
        go_wp2
        apply wp_scope_straight
        go_wp2_with fail
        go_wp2_with fail
        go_quiet_o (fail)
        go_wp2_with fail
        go_quiet_o (first | (refine (Any.strings_IndexByte { L with } _ _ _).mono ?_; rintro e w'' ⟨rfl, rfl⟩; exact ⟨rfl, _, rfl⟩))
        go_wp2_with fail
        simp (config := {zetaDelta := true}) only [Exit.noGoto_ret, Exit.inBlock, Exit.then]
        go_ret
        exact ⟨rfl, ⟨rfl, rfl, rfl, Nat.le_refl _, fun _ _ => rfl⟩⟩
    · have hw2 : True := trivial
      clear yb hcv
      go_wp2
      go_loopg [9] 1 (fun g s9 wx => g = 1 ∧ s9 = .int .i64 (n : Int) ∧ wx = w)
      case atStart => exact ⟨rfl, rfl, rfl⟩
      case round =>
        obtain ⟨rfl, rfl, rfl⟩ := hrel
        have hlt : decide ((n : Int) < (s.size : Int)) = false := decide_eq_false (by omega)
        go_wp2
        simp (config := {zetaDelta := true}) only [Exit.noGoto_ret, Exit.inBlock, Exit.then]
        go_ret
        exact ⟨rfl, Below.refl _ _⟩
theorem CRa_hi (L : Lays.n151 P ρ) (s : ByteArray) (has : ∀ (j : Nat) (hj : j < s.size), (s[j]'hj).toNat < 128) (hs : s.size < 4294967281) (r : Int) (w : World) (h0 : 128 ≤ r) (h1 : r ≠ 65533) :
    Calls P (ρ.f 151) #[.string s, .int .i32 r] w fun e w' => e = .returned (.bool false) ∧ Below w.heap.size w w' := by
  have t3 := L.t3; have a3 := L.a3; have z3 := L.z3; have v3 := L.v3
  have t4 := L.t4; have a4 := L.a4; have z4 := L.z4; have v4 := L.v4
  have t9 := L.t9; have a9 := L.a9; have z9 := L.z9; have v9 := L.v9
  have t21 := L.t21; have a21 := L.a21; have z21 := L.z21; have v21 := L.v21
  have e152 : ∀ args w, (callFunc (ρ.f 152) args).run P w = .ok (.enter (ρ.f 152) args) w := enters_of L.f152 (by kernel_rfl) rfl
  go_enter L.f151, Body.n151_ntmps ρ
  go_wp2_with (go_at_fn (ρ.f 152); refine (IRa_hi { L with } _ has hs _ _ h0 h1).mono ?_; rintro e w' ⟨rfl, hw⟩)
  go_ret
  exact ⟨rfl, hw⟩
end Go.Proofs
namespace Nat32
open Go Go.Dat
def qrn (c : UInt8) : Bool := c == 34 || c == 13 || c == 10
def stp (d c : UInt8) : Bool := c == d || qrn c
def plN (d : UInt8) : Bs → Nat
  | [] => 0
  | c :: r => if stp d c = true then 0 else plN d r + 1
theorem pl_le (d : UInt8) : ∀ s, plN d s ≤ s.length
  | [] => Nat.le_refl _
  | c :: r => by
    have := pl_le d r
    simp only [plN, List.length_cons]
    split <;> omega
theorem pl_lt (d : UInt8) : ∀ (s : Bs) (k : Nat), k < plN d s → stp d (s.getD k 0) = false
  | [], k, h => by simp [plN] at h
  | c :: r, k, h => by
    simp only [plN] at h
    split at h
    · omega
    · rename_i hc
      cases k with
      | zero => simpa using hc
      | succ k => simpa using pl_lt d r k (by omega)
theorem pl_at (d : UInt8) : ∀ (s : Bs), plN d s < s.length → stp d (s.getD (plN d s) 0) = true
  | [], h => by simp [plN] at h
  | c :: r, h => by
    simp only [plN] at h ⊢
    split
    · rename_i hc; simpa using hc
    · rename_i hc
      rw [if_neg hc] at h
      have := pl_at d r (by simpa using h)
      simpa using this
def qs : Bs → Option (Bs × Nat)
  | [] => none
  | [c] => if c = 34 then some ([], 1) else none
  | c :: e :: r => if c = 34 then (if e = 34 then (qs r).map (fun p => (34 :: p.1, p.2 + 2)) else some ([], 1)) else (qs (e :: r)).map (fun p => (c :: p.1, p.2 + 1))
theorem qs_c {c : UInt8} (h : c ≠ 34) (r : Bs) : qs (c :: r) = (qs r).map (fun p => (c :: p.1, p.2 + 1)) := by
  cases r with
  | nil => simp [qs, h]
  | cons e r => simp [qs, h]
theorem qs_qq (r : Bs) : qs (34 :: 34 :: r) = (qs r).map (fun p => (34 :: p.1, p.2 + 2)) := by simp [qs]
theorem qs_q {r : Bs} (h : Lib.hasPrefix (34 :: r) [34, 34] = false) : qs (34 :: r) = some ([], 1) := by
  cases r with
  | nil => simp [qs]
  | cons e r =>
    have : e ≠ 34 := by
      rintro rfl
      rw [show Lib.hasPrefix (34 :: 34 :: r) [34, 34] = true by simp [Lib.hasPrefix]] at h
      cases h
    simp [qs, this]
def fieldS (d : UInt8) (s : Bs) : Option (Bs × Nat) := if s.head? = some 34 then (qs (s.drop 1)).map (fun p => (p.1, p.2 + 1)) else some (s.take (plN d s), plN d s)
def leN (s : Bs) : Nat := if Lib.hasPrefix s [10] = true then 1 else if Lib.hasPrefix s [13, 10] = true then 2 else 0
theorem qs_le : ∀ (n : Nat) (s : Bs), s.length ≤ n → ∀ v k, qs s = some (v, k) → k ≤ s.length ∧ v.length ≤ k
  | _, [], _, v, k, h => by simp [qs] at h
  | n, [c], _, v, k, h => by
    simp only [qs] at h
    split at h
    · cases h; exact ⟨Nat.le_refl _, Nat.zero_le _⟩
    · cases h
  | 0, c :: e :: r, hn, v, k, h => by simp at hn
  | n + 1, c :: e :: r, hn, v, k, h => by
    simp only [List.length_cons] at hn
    simp only [qs] at h
    split at h
    · split at h
      · rw [Option.map_eq_some_iff] at h
        obtain ⟨⟨v', k'⟩, h1, h2⟩ := h
        have := qs_le n r (by omega) v' k' h1
        cases h2
        simp only [List.length_cons]
        omega
      · cases h; simp
    · rw [Option.map_eq_some_iff] at h
      obtain ⟨⟨v', k'⟩, h1, h2⟩ := h
      have := qs_le n (e :: r) (by simp; omega) v' k' h1
      cases h2
      simp only [List.length_cons] at this ⊢
      omega
theorem fieldS_le {d : UInt8} {s : Bs} {v : Bs} {k : Nat} (h : fieldS d s = some (v, k)) : k ≤ s.length ∧ v.length ≤ k := by
  unfold fieldS at h
  split at h
  · rw [Option.map_eq_some_iff] at h
    obtain ⟨⟨v', k'⟩, h1, h2⟩ := h
    have := qs_le _ _ (Nat.le_refl _) v' k' h1
    cases h2
    rename_i hh
    cases s with
    | nil => simp at hh
    | cons c r => simp at this ⊢; omega
  · cases h
    have := pl_le d s
    simp; omega
inductive RS (α : Type) where
  | ok (fs : List α) (k : Nat)
  | err (e k : Nat)
def RS.mv {α : Type} (n : Nat) (f : Option α) : RS α → RS α
  | .ok fs k => .ok (match f with | some x => x :: fs | none => fs) (n + k)
  | .err e k => .err e (n + k)
def RS.mvs {α : Type} (n : Nat) (gs : List α) : RS α → RS α
  | .ok fs k => .ok (gs ++ fs) (n + k)
  | .err e k => .err e (n + k)
theorem RS.mvs_mv {α : Type} (n k : Nat) (gs : List α) (f : α) (r : RS α) : (r.mv k (some f)).mvs n gs = r.mvs (n + k) (gs ++ [f]) := by
  cases r <;> simp [RS.mv, RS.mvs, Nat.add_assoc]
theorem RS.mvs_0 {α : Type} (r : RS α) : r.mvs 0 [] = r := by cases r <;> simp [RS.mvs]
def recS (d : UInt8) : Nat → Bs → RS Bs
  | 0, _ => .err 0 0
  | m + 1, s => match fieldS d s with
    | none => .err 3 s.length
    | some (f, k) =>
      if s.drop k = [] ∨ 0 < leN (s.drop k) then .ok [f] (k + leN (s.drop k))
      else if (s.drop k).getD 0 0 ≠ d then .err 3 k
      else if m = 0 then .err 2 k
      else (recS d m (s.drop (k + 1))).mv (k + 1) (some f)
def parS (d : UInt8) : Nat → Bs → RS (List Bs)
  | 0, s => if s = [] then .ok [] 0 else .err 2 0
  | m + 1, s => if s = [] then .ok [] 0 else match recS d 32 s with
    | .err e k => .err e k
    | .ok fs k => (parS d m (s.drop k)).mv k (some fs)
def nl (s : Bs) : Nat := s.count 10
def delB (d : UInt8) : Bool := d == 44 || d == 59 || d == 9 || d == 124
def dpD (T : Bs) (d : UInt8) : DV :=
  if delB d = false then .tup [.nils, .int .i64 (0 : Nat), .int .i64 (1 : Nat)]
  else if 65536 < T.length then .tup [.nils, .int .i64 (0 : Nat), .int .i64 (2 : Nat)]
  else match parS d 1024 T with
    | .err e k => .tup [.nils, .int .i64 (1 + nl (T.take k) : Nat), .int .i64 (e : Nat)]
    | .ok rs _ => .tup [.sl 1 (recD rs), .int .i64 (0 : Nat), .int .i64 (0 : Nat)]
end Nat32
namespace Nat32
open Go Go.Dat
def dbl (s : Bs) : Bs := s.flatMap fun c => if c = 34 then [34, 34] else [c]
def needQ (d : UInt8) (s : Bs) : Bool := s.any (stp d)
def quoteS (d : UInt8) (s : Bs) : Bs := if needQ d s = true then 34 :: (dbl s ++ [34]) else s
def fmtF (d : UInt8) : List Bs → Bs
  | [] => []
  | [f] => quoteS d f
  | f :: g :: r => quoteS d f ++ d :: fmtF d (g :: r)
def fmtR (d : UInt8) (r : List Bs) : Bs := fmtF d r ++ [10]
def fmtS (d : UInt8) (R : List (List Bs)) : Bs := R.flatMap (fmtR d)
def fmtD (R : List (List Bs)) (d : UInt8) : DV :=
  if delB d = false then .tup [.str [], .int .i64 (1 : Nat)]
  else if R.any (fun r => r.isEmpty) = true then .tup [.str [], .int .i64 (4 : Nat)]
  else if 1024 < R.length ∨ R.any (fun r => decide (32 < r.length)) = true ∨ 65536 < (fmtS d R).length then .tup [.str [], .int .i64 (2 : Nat)]
  else .tup [.str (fmtS d R), .int .i64 (0 : Nat)]
theorem dbl_q (s : Bs) : dbl (34 :: s) = 34 :: 34 :: dbl s := by simp [dbl]
theorem dbl_c {c : UInt8} (h : c ≠ 34) (s : Bs) : dbl (c :: s) = c :: dbl s := by simp [dbl, h]
theorem dbl_le (s : Bs) : (dbl s).length ≤ 2 * s.length := by
  induction s with
  | nil => simp [dbl]
  | cons c s ih =>
    by_cases h : c = 34
    · subst h; rw [dbl_q]; simp; omega
    · rw [dbl_c h]; simp; omega
theorem quoteS_le (d : UInt8) (s : Bs) : (quoteS d s).length ≤ 2 * s.length + 2 := by
  unfold quoteS
  have := dbl_le s
  split
  · simp; omega
  · omega
theorem plN_no (d : UInt8) {c : UInt8} (hc : stp d c = true) (X : Bs) : ∀ s : Bs, needQ d s = false → plN d (s ++ c :: X) = s.length
  | [], _ => by simp [plN, hc]
  | a :: s, h => by
    unfold needQ at h
    rw [List.any_cons, Bool.or_eq_false_iff] at h
    have ih := plN_no d hc X s h.2
    simp [plN, h.1, ih]
theorem qs_dbl {c : UInt8} (hc : c ≠ 34) (X : Bs) : ∀ s : Bs, qs (dbl s ++ 34 :: c :: X) = some (s, (dbl s).length + 1)
  | [] => by simp [dbl, qs, hc]
  | a :: s => by
    have ih := qs_dbl hc X s
    by_cases h : a = 34
    · subst h
      rw [dbl_q, List.cons_append, List.cons_append, qs_qq, ih]
      simp
    · rw [dbl_c h, List.cons_append, qs_c h, ih]
      simp
theorem fieldS_quote {d c : UInt8} (hc : stp d c = true) (hc34 : c ≠ 34) (s X : Bs) : fieldS d (quoteS d s ++ c :: X) = some (s, (quoteS d s).length) := by
  unfold quoteS
  by_cases hn : needQ d s = true
  · rw [if_pos hn]
    unfold fieldS
    have hh : (34 :: (dbl s ++ [34]) ++ c :: X).head? = some 34 := rfl
    rw [if_pos hh]
    have e : (34 :: (dbl s ++ [34]) ++ c :: X).drop 1 = dbl s ++ 34 :: c :: X := by simp
    rw [e, qs_dbl hc34]
    simp
  · rw [if_neg hn]
    have hn : needQ d s = false := by simpa using hn
    unfold fieldS
    rw [plN_no d hc X s hn]
    have hh : ¬ (s ++ c :: X).head? = some 34 := by
      cases s with
      | nil => simpa using hc34
      | cons a s =>
        intro h
        simp at h
        subst h
        unfold needQ at hn
        simp [stp, qrn] at hn
    rw [if_neg hh, List.take_left']
    rfl
theorem delB_ne {d : UInt8} (h : delB d = true) : d ≠ 10 ∧ d ≠ 13 ∧ d ≠ 34 := by
  refine ⟨?_, ?_, ?_⟩ <;> (rintro rfl; revert h; decide)
theorem recS_fmt {d : UInt8} (hd : delB d = true) (X : Bs) : ∀ (r : List Bs) (m : Nat), r ≠ [] → r.length ≤ m → recS d m (fmtF d r ++ 10 :: X) = .ok r ((fmtF d r).length + 1)
  | [], _, h, _ => absurd rfl h
  | [f], m, _, hm => by
    obtain ⟨h10, h13, h34⟩ := delB_ne hd
    cases m with
    | zero => simp at hm
    | succ m =>
      have hf := fieldS_quote (d := d) (c := 10) (by simp [stp, qrn]) (by decide) f X
      have e : fmtF d [f] ++ 10 :: X = quoteS d f ++ 10 :: X := rfl
      have e2 : (quoteS d f ++ 10 :: X).drop (quoteS d f).length = 10 :: X := List.drop_left' rfl
      have h1 : leN (10 :: X) = 1 := by simp [leN, Lib.hasPrefix]
      rw [e, recS, hf]
      simp only
      rw [e2, h1, if_pos (.inr (by decide))]
      rfl
  | f :: g :: r, m, _, hm => by
    obtain ⟨h10, h13, h34⟩ := delB_ne hd
    cases m with
    | zero => simp at hm
    | succ m =>
      rw [recS]
      have e : fmtF d (f :: g :: r) ++ 10 :: X = quoteS d f ++ d :: (fmtF d (g :: r) ++ 10 :: X) := by simp [fmtF]
      have hf := fieldS_quote (d := d) (c := d) (by simp [stp]) h34 f (fmtF d (g :: r) ++ 10 :: X)
      rw [e, hf]
      simp only
      have e2 : (quoteS d f ++ d :: (fmtF d (g :: r) ++ 10 :: X)).drop (quoteS d f).length = d :: (fmtF d (g :: r) ++ 10 :: X) := List.drop_left' rfl
      have e3 : (quoteS d f ++ d :: (fmtF d (g :: r) ++ 10 :: X)).drop ((quoteS d f).length + 1) = fmtF d (g :: r) ++ 10 :: X := by
        rw [← List.drop_drop, e2]; rfl
      rw [e2, e3]
      have hle : leN (d :: (fmtF d (g :: r) ++ 10 :: X)) = 0 := by
        unfold leN
        rw [if_neg (by simp [Lib.hasPrefix]; exact fun h => h10 h.symm)]
        rw [if_neg (by simp [Lib.hasPrefix]; exact fun h => absurd h.symm h13)]
      rw [hle, if_neg (by simp), if_neg (by simp), if_neg (by simp at hm; omega)]
      rw [recS_fmt hd X (g :: r) m (by simp) (by simpa using hm)]
      simp [RS.mv, fmtF]; omega
theorem parS_fmt {d : UInt8} (hd : delB d = true) (X : Bs) : ∀ (R : List (List Bs)) (N : Nat), (∀ r ∈ R, r ≠ [] ∧ r.length ≤ 32) → R.length ≤ N → parS d N (fmtS d R ++ X) = (parS d (N - R.length) X).mvs (fmtS d R).length R
  | [], N, _, _ => by simp [fmtS, RS.mvs_0]
  | r :: R, N, h, hN => by
    cases N with
    | zero => simp at hN
    | succ N =>
      obtain ⟨h1, h2⟩ := h r (List.mem_cons_self ..)
      have e : fmtS d (r :: R) ++ X = fmtF d r ++ 10 :: (fmtS d R ++ X) := by simp [fmtS, fmtR]
      have hl : (fmtS d (r :: R)).length = (fmtF d r).length + 1 + (fmtS d R).length := by simp [fmtS, fmtR]; omega
      have hr := recS_fmt hd (fmtS d R ++ X) r 32 h1 h2
      rw [e, parS, if_neg (by simp), hr]
      simp only
      have e2 : (fmtF d r ++ 10 :: (fmtS d R ++ X)).drop ((fmtF d r).length + 1) = fmtS d R ++ X := by
        rw [← List.drop_drop, List.drop_left' rfl]; rfl
      rw [e2, parS_fmt hd X R N (fun x hx => h x (List.mem_cons_of_mem _ hx)) (by simpa using hN)]
      rw [hl, show N + 1 - (r :: R).length = N - R.length by simp]
      cases parS d (N - R.length) X <;> simp [RS.mvs, RS.mv, Nat.add_assoc]
theorem parS_back {d : UInt8} (hd : delB d = true) {R : List (List Bs)} (h : ∀ r ∈ R, r ≠ [] ∧ r.length ≤ 32) (hN : R.length ≤ 1024) : parS d 1024 (fmtS d R) = .ok R (fmtS d R).length := by
  have := parS_fmt hd [] R 1024 h hN
  rw [List.append_nil] at this
  rw [this]
  have h0 : ∀ m, parS d m [] = .ok [] 0 := fun m => by cases m <;> simp [parS]
  rw [h0]
  simp [RS.mvs]
def wgt (r : List Bs) : Nat := (r.map (fun f => f.length + 1)).sum
def wgts (R : List (List Bs)) : Nat := (R.map wgt).sum
theorem fmtF_le (d : UInt8) : ∀ r : List Bs, (fmtF d r).length ≤ 3 * wgt r
  | [] => by simp [fmtF, wgt]
  | [f] => by have := quoteS_le d f; simp [fmtF, wgt]; omega
  | f :: g :: r => by
    have h1 := quoteS_le d f
    have h2 := fmtF_le d (g :: r)
    simp only [fmtF, wgt, List.map_cons, List.sum_cons, List.length_append, List.length_cons] at h2 ⊢
    omega
theorem fmtS_le (d : UInt8) : ∀ R : List (List Bs), (fmtS d R).length ≤ 3 * wgts R + R.length
  | [] => by simp [fmtS]
  | r :: R => by
    have h1 := fmtF_le d r
    have h2 := fmtS_le d R
    have hl : (fmtS d (r :: R)).length = (fmtF d r).length + 1 + (fmtS d R).length := by simp [fmtS, fmtR]; omega
    rw [hl]
    simp only [wgts, List.map_cons, List.sum_cons, List.length_cons] at h2 ⊢
    omega
end Nat32
namespace Nat32
open Go Go.Dat
theorem fmtF_snoc (d : UInt8) (f : Bs) : ∀ l : List Bs, fmtF d (l ++ [f]) = if l = [] then quoteS d f else fmtF d l ++ d :: quoteS d f
  | [] => by simp [fmtF]
  | [g] => by simp [fmtF]
  | g :: h :: r => by
    have ih := fmtF_snoc d f (h :: r)
    rw [if_neg (by simp)] at ih ⊢
    rw [List.cons_append, List.cons_append, fmtF, ← List.cons_append, ih, fmtF]
    simp
theorem fmtS_snoc (d : UInt8) (R : List (List Bs)) (r : List Bs) : fmtS d (R ++ [r]) = fmtS d R ++ fmtR d r := by simp [fmtS]
theorem take_snoc' {α : Type} (T : List α) (z : α) {i : Nat} (hi : i < T.length) : T.take (i + 1) = T.take i ++ [T.getD i z] := by
  rw [List.take_add_one]
  simp [List.getD_eq_getElem?_getD, List.getElem?_eq_getElem hi]
theorem fmtS_take_le (d : UInt8) (R : List (List Bs)) (i : Nat) : (fmtS d (R.take i)).length ≤ (fmtS d R).length := by
  conv => rhs; rw [← List.take_append_drop i R]
  unfold fmtS
  rw [List.flatMap_append, List.length_append]
  omega
theorem wgt_le {B : Nat} : ∀ r : List Bs, (∀ f ∈ r, f.length ≤ B) → wgt r ≤ (B + 1) * r.length
  | [], _ => by simp [wgt]
  | f :: r, h => by
    have h1 := h f (List.mem_cons_self ..)
    have h2 := wgt_le r fun x hx => h x (List.mem_cons_of_mem _ hx)
    simp only [wgt, List.map_cons, List.sum_cons, List.length_cons] at h2 ⊢
    rw [Nat.mul_add, Nat.mul_one]
    omega
theorem wgts_le {B : Nat} : ∀ R : List (List Bs), (∀ r ∈ R, wgt r ≤ B) → wgts R ≤ B * R.length
  | [], _ => by simp [wgts]
  | r :: R, h => by
    have h1 := h r (List.mem_cons_self ..)
    have h2 := wgts_le R fun x hx => h x (List.mem_cons_of_mem _ hx)
    simp only [wgts, List.map_cons, List.sum_cons, List.length_cons] at h2 ⊢
    rw [Nat.mul_add, Nat.mul_one]
    omega
end Nat32
namespace Go.Proofs
open Go.Shelf Go.RowKit Go.Lib
variable {P : Program} {ρ : Ren}
set_option maxHeartbeats 8000000 in
set_option maxRecDepth 1000000 in
theorem IRa_err (L : Lays.n152 P ρ) (s : ByteArray) (has : ∀ (j : Nat) (hj : j < s.size), (s[j]'hj).toNat < 128) (w : World) :
    Calls P (ρ.f 152) #[.string s, .int .i32 65533] w fun e w' => e = .returned (.int .i64 (-1)) ∧ Below w.heap.size w w' := by
  have HA : Aside (∀ (j : Nat) (hj : j < s.size), (s[j]'hj).toNat < 128) := has
  clear has
  have mixed := L.mixed
  have t3 := L.t3; have a3 := L.a3; have z3 := L.z3; have v3 := L.v3
  have t4 := L.t4; have a4 := L.a4; have z4 := L.z4; have v4 := L.v4
  have t5 := L.t5; have a5 := L.a5; have z5 := L.z5; have v5 := L.v5
  have t9 := L.t9; have a9 := L.a9; have z9 := L.z9; have v9 := L.v9
  have t21 := L.t21; have a21 := L.a21; have z21 := L.z21; have v21 := L.v21
  go_enter L.f152, Body.n152_ntmps ρ
  go_wp2
  go_loopg [5, 6] s.size (fun g _ _ wx => ∃ i : Nat, i + g = s.size ∧ wx = w.iter s i)
  case atStart => exact ⟨0, by omega, rfl⟩
  case round =>
    obtain ⟨i, hig, rfl⟩ := hrel
    cases gk with
    | zero =>
      obtain rfl : i = s.size := by omega
      have hnx := run_next_end (P := P) w s s.size
      go_wp2
      go_ret
      exact ⟨rfl, (Below.refl _ _).alloc (Nat.le_refl _) _⟩
    | succ g =>
      have hi : i < s.size := by omega
      obtain ⟨x, hx⟩ : ∃ x : UInt8, s[i]'hi = x := ⟨_, rfl⟩
      have hx128 : x.toNat < 128 := by
        rw [← hx]
        exact HA.out i hi
      have hnx := fun ty => run_next_ascii (P := P) w s i ty hi (by rw [hx]; exact hx128)
      rw [hx] at hnx
      have hne : ((x.toNat : Int) == 65533) = false := beq_eq_false_iff_ne.2 (by omega)
      clear hx
      go_wp2
      go_roundg g
      case measure => omega
      case rel => exact ⟨i + 1, by omega, rfl⟩
theorem get!_at' (s : ByteArray) (i : Nat) (h : i < s.size) : s.get! i = s[i]'h := by
  cases s with
  | mk d =>
    show d[i]! = d[i]
    exact getElem!_pos d i h
set_option maxRecDepth 100000 in
set_option maxHeartbeats 2000000 in
theorem decodeN_hi' (n b0 b1 b2 b3 : Nat) (hn : 1 ≤ n) (h0 : 128 ≤ b0) : 128 ≤ (decodeN n b0 b1 b2 b3).1 ∧ 1 ≤ (decodeN n b0 b1 b2 b3).2 ∧ (decodeN n b0 b1 b2 b3).2 ≤ n ∧ (decodeN n b0 b1 b2 b3).2 ≤ 4 ∧
    (1 < (decodeN n b0 b1 b2 b3).2 → 128 ≤ b1) ∧ (2 < (decodeN n b0 b1 b2 b3).2 → 128 ≤ b2) ∧ (3 < (decodeN n b0 b1 b2 b3).2 → 128 ≤ b3) := by
  unfold decodeN
  repeat' split
  all_goals (try simp only)
  all_goals omega
theorem dec_hi' (s : ByteArray) (i : Nat) (h : i < s.size) (h0 : 128 ≤ (s[i]'h).toNat) : 128 ≤ (Utf8.decode s i).1 ∧ 1 ≤ (Utf8.decode s i).2 ∧ i + (Utf8.decode s i).2 ≤ s.size ∧
    ∀ j (hj : j < s.size), i ≤ j → j < i + (Utf8.decode s i).2 → 128 ≤ (s[j]'hj).toNat := by
  have e := decode_at s i
  rw [← get!_at' s i h] at h0
  obtain ⟨a1, a2, a3, a4, a5, a6, a7⟩ := decodeN_hi' (s.size - i) (s.get! i).toNat (s.get! (i + 1)).toNat (s.get! (i + 2)).toNat (s.get! (i + 3)).toNat (by omega) h0
  rw [← e] at a1 a2 a3 a4 a5 a6 a7
  refine ⟨a1, a2, by omega, fun j hj h1 h2 => ?_⟩
  rw [← get!_at' s j hj]
  have : j = i ∨ j = i + 1 ∨ j = i + 2 ∨ j = i + 3 := by omega
  rcases this with rfl | rfl | rfl | rfl
  · exact h0
  · exact a5 (by omega)
  · exact a6 (by omega)
  · exact a7 (by omega)
theorem noany_hi' {s : ByteArray} {chars : ByteArray} {i k : Nat} (hc : ∀ (j : Nat) (hj : j < chars.size), (chars[j]'hj).toNat < 128) (h : NoAny s.data.toList chars.data.toList i) (hi : ∀ j (hj : j < s.size), i ≤ j → j < i + k → 128 ≤ (s[j]'hj).toNat) : NoAny s.data.toList chars.data.toList (i + k) := fun j b hj hb => by
  rcases Nat.lt_or_ge j i with h1 | h1
  · exact h j b h1 hb
  · have hlt : j < s.size := by have := (List.getElem?_eq_some_iff.1 hb).1; rwa [← Lib.size_eq] at this
    have h2 := hi j hlt h1 hj
    rw [Lib.data_getElem? s j hlt, Option.some.injEq] at hb
    rw [hb] at h2
    cases h3 : chars.data.toList.contains b with
    | false => rfl
    | true =>
      rw [List.contains_iff_mem] at h3
      obtain ⟨k, hk⟩ := List.mem_iff_getElem?.1 h3
      have hkl : k < chars.size := by have := (List.getElem?_eq_some_iff.1 hk).1; rwa [← Lib.size_eq] at this
      have := hc k hkl
      rw [Lib.data_getElem? chars k hkl, Option.some.injEq] at hk
      rw [hk] at this
      omega
theorem Below_iterAt' {w W : World} {s : ByteArray} {p q : Nat} (hb : Below w.heap.size w W) (hk : W.heap[w.heap.size]? = some (.stringIter s p)) : Below w.heap.size w (W.iterAt w.heap.size s q) := by
  refine ⟨hb.os, hb.tape, hb.output, ?_, fun k hk => ?_⟩
  · show w.heap.size ≤ (W.heap.setIfInBounds _ _).size
    rw [Array.size_setIfInBounds]; exact hb.size
  · show (W.heap.setIfInBounds _ _)[k]? = _
    rw [Array.getElem?_setIfInBounds, if_neg (by omega)]
    exact hb.block k hk
set_option maxHeartbeats 8000000 in
set_option maxRecDepth 1000000 in
theorem IAc_short (L : Lays.n153 P ρ) (s chars : ByteArray) (w : World) (h2 : 2 ≤ chars.size) (hcs : chars.size < 4294967281) (hac : ∀ (j : Nat) (hj : j < chars.size), (chars[j]'hj).toNat < 128) (h8 : s.size ≤ 8) :
    Calls P (ρ.f 153) #[.string s, .string chars] w fun e w' => e = .returned (.int .i64 (Lib.indexAny s.data.toList chars.data.toList)) ∧ Below w.heap.size w w' := by
  have hemp : chars.toList.isEmpty = false := by
    rw [Lib.toList_data]
    cases h : chars.data.toList with
    | nil => have := Lib.size_eq chars; rw [h, List.length_nil] at this; omega
    | cons _ _ => rfl
  have HC : Aside (∀ (j : Nat) (hj : j < chars.size), (chars[j]'hj).toNat < 128) := hac
  have HS : Aside (chars.size < 4294967281) := hcs
  clear hac hcs
  have hn1 : ((chars.size : Int) == 1) = false := beq_eq_false_iff_ne.2 (by omega)
  have h8z : decide ((8 : Int) < (s.size : Int)) = false := decide_eq_false (by omega)
  have t3 := L.t3; have a3 := L.a3; have z3 := L.z3; have v3 := L.v3
  have t4 := L.t4; have a4 := L.a4; have z4 := L.z4; have v4 := L.v4
  have t5 := L.t5; have a5 := L.a5; have z5 := L.z5; have v5 := L.v5
  have t9 := L.t9; have a9 := L.a9; have z9 := L.z9; have v9 := L.v9
  have t21 := L.t21; have a21 := L.a21; have z21 := L.z21; have v21 := L.v21
  have e152 : ∀ args w, (callFunc (ρ.f 152) args).run P w = .ok (.enter (ρ.f 152) args) w := enters_of L.f152 (by kernel_rfl) rfl
  have e226 : ∀ args w, (callFunc (ρ.f 226) args).run P w = .ok (.enter (ρ.f 226) args) w := enters_of L.f226 (by kernel_rfl) rfl
  go_enter L.f153, Body.n153_ntmps ρ
  go_wp2_with (go_at_fn (ρ.f 226); refine (Any.strings_shouldUseASCIISet { L with } _ _).mono ?_; rintro e w' ⟨rfl, hw⟩; rw [hw, h8z])
  go_loopg [9, 10] s.size (fun g _ _ wx => ∃ i : Nat, i + g = s.size ∧ wx.heap[w.heap.size]? = some (.stringIter s i) ∧ Below w.heap.size w wx ∧ Lib.NoAny s.data.toList chars.data.toList i)
  case atStart => exact ⟨0, by omega, World.iter_heap _ _ _, (Below.refl _ _).alloc (Nat.le_refl _) _, Lib.NoAny.zero _ _⟩
  case round =>
    obtain ⟨i, hig, hit, hbel, hno⟩ := hrel
    have HN : Aside (NoAny s.data.toList chars.data.toList i) := hno
    have HB : Aside (Below w.heap.size w wr) := hbel
    have hsw : w.heap.size < wr.heap.size := (Array.getElem?_eq_some_iff.1 hit).1
    clear hno hbel
    cases gk with
    | zero =>
      obtain rfl : i = s.size := by omega
      have hnx := fun ty => run_next_end_at (P := P) wr w.heap.size s s.size ty hit (Nat.lt_irrefl _)
      go_wp2
      go_ret
      exact ⟨by rw [Lib.indexAny_none (by rw [← Lib.size_eq]; exact HN.out)]; rfl, HB.out⟩
    | succ g =>
      have hi : i < s.size := by omega
      by_cases hx128 : (s[i]'hi).toNat < 128
      · have HB2 : Aside (Below w.heap.size w (wr.iterAt w.heap.size s (i + 1))) := Below_iterAt' HB.out hit
        have HI2 := iterAt_heap wr w.heap.size s i (i + 1) hit
        have hnx := fun ty => run_next_ascii_at (P := P) wr w.heap.size s i ty hit hi hx128
        obtain ⟨x, hx⟩ : ∃ x : UInt8, s[i]'hi = x := ⟨_, rfl⟩
        have hxl : s.data.toList[i]? = some x := by rw [← hx]; exact Lib.data_getElem? s i hi
        rw [hx] at hnx hx128
        have Hx : Aside (s.data.toList[i]? = some x) := hxl
        clear hxl hx
        have hcon := Lib.contains_iff_indexByte chars.data.toList x
        have hback : ((x.toNat : Int)).toNat.toUInt8 = x := by simp
        cases hin : chars.data.toList.contains x
        · rw [hin] at hcon
          have hlt : ¬ ((0 : Int) ≤ Lib.indexByte chars.data.toList x) := of_decide_eq_false hcon.symm
          clear hcon
          go_wp2_with (go_at_fn (ρ.f 152); refine (Any.strings_IndexRune_ascii { L with } _ _ _ (by omega) (by omega)).mono ?_; rintro e w' ⟨rfl, hw⟩; rw [hw, hback])
          go_roundg g
          case measure => omega
          case rel => exact ⟨i + 1, by omega, HI2, HB2.out, HN.out.succ Hx.out hin⟩
        · rw [hin] at hcon
          have hge : (0 : Int) ≤ Lib.indexByte chars.data.toList x := of_decide_eq_true hcon.symm
          clear hcon
          go_wp2_with (go_at_fn (ρ.f 152); refine (Any.strings_IndexRune_ascii { L with } _ _ _ (by omega) (by omega)).mono ?_; rintro e w' ⟨rfl, hw⟩; rw [hw, hback])
          go_ret
          exact ⟨by rw [Lib.indexAny_hit HN.out Hx.out hin]; rfl, HB2.out⟩
      · obtain ⟨c1, c2, c3, c4⟩ := dec_hi' s i hi (by omega)
        have hnx := fun ty => run_next_any_at (P := P) wr w.heap.size s i ty hit hi
        have hno2 := noany_hi' HC.out HN.out c4
        clear c4
        generalize (Utf8.decode s i).2 = k at *
        generalize (Utf8.decode s i).1 = c at *
        have HN2 : Aside (NoAny s.data.toList chars.data.toList (i + k)) := hno2
        clear hno2
        have HB2 : Aside (Below w.heap.size w (wr.iterAt w.heap.size s (i + k))) := Below_iterAt' HB.out hit
        have HI2 := iterAt_heap wr w.heap.size s i (i + k) hit
        have hsw2 : w.heap.size < (wr.iterAt w.heap.size s (i + k)).heap.size := (Array.getElem?_eq_some_iff.1 HI2).1
        generalize wr.iterAt w.heap.size s (i + k) = W2 at *
        have hm1 : ¬ ((0 : Int) ≤ -1) := by omega
        by_cases hc : c = 65533
        · subst hc
          go_wp2_with (go_at_fn (ρ.f 152); refine (IRa_err { L with } _ HC.out _).mono ?_; rintro e w' ⟨rfl, hw⟩)
          go_roundg (g + 1 - k)
          case measure => omega
          case rel => exact ⟨i + k, by omega, (hw.block _ hsw2).trans HI2, HB2.out.trans ⟨hw.os, hw.tape, hw.output, hw.size, fun j hj => hw.block j (by omega)⟩, HN2.out⟩
        · have hcz : (c : Int) ≠ 65533 := by omega
          go_wp2_with (go_at_fn (ρ.f 152); refine (IRa_hi { L with } _ HC.out HS.out _ _ (by omega) hcz).mono ?_; rintro e w' ⟨rfl, hw⟩)
          go_roundg (g + 1 - k)
          case measure => omega
          case rel => exact ⟨i + k, by omega, (hw.block _ hsw2).trans HI2, HB2.out.trans ⟨hw.os, hw.tape, hw.output, hw.size, fun j hj => hw.block j (by omega)⟩, HN2.out⟩
theorem IAc (L : Lays.n153 P ρ) (h116 : (P.info? (ρ.t 116)).map (fun i => (i.zero, i.size)) = some (some (.agg (Array.replicate 256 (.bool false))), 256)) (s chars : ByteArray) (w : World) (hs : s.size < 4294967281) (h2 : 2 ≤ chars.size) (hcs : chars.size < 4294967281) (hac : ∀ (j : Nat) (hj : j < chars.size), (chars[j]'hj).toNat < 128) :
    Calls P (ρ.f 153) #[.string s, .string chars] w fun e w' => e = .returned (.int .i64 (Lib.indexAny s.data.toList chars.data.toList)) ∧ Below w.heap.size w w' := by
  by_cases h8 : s.size ≤ 8
  · exact IAc_short L s chars w h2 hcs hac h8
  · refine (Any.strings_IndexAny_long L (zero_of_info h116).1 (zero_of_info h116).2 s chars w h2 (by omega) hs hcs (fun j b hb => ?_)).mono fun e w' ⟨h1, h2⟩ => ⟨h1, ?_⟩
    · have hkl : j < chars.size := by have := (List.getElem?_eq_some_iff.1 hb).1; rwa [← Lib.size_eq] at this
      have := hac j hkl
      rw [Lib.data_getElem? chars j hkl, Option.some.injEq] at hb
      rwa [hb] at this
    · rw [h2]
      exact ((Below.refl _ _).alloc (Nat.le_refl _) _).alloc (by simp) _
set_option maxHeartbeats 1000000 in
theorem CAc (L : Lays.n150 P ρ) (h116 : (P.info? (ρ.t 116)).map (fun i => (i.zero, i.size)) = some (some (.agg (Array.replicate 256 (.bool false))), 256)) (s chars : ByteArray) (w : World) (hs : s.size < 4294967281) (h2 : 2 ≤ chars.size) (hcs : chars.size < 4294967281) (hac : ∀ (j : Nat) (hj : j < chars.size), (chars[j]'hj).toNat < 128) :
    Calls P (ρ.f 150) #[.string s, .string chars] w fun e w' => e = .returned (.bool (Lib.containsAny s.data.toList chars.data.toList)) ∧ Below w.heap.size w w' := by
  have c := IAc { L with } h116 s chars w hs h2 hcs hac
  have t3 := L.t3; have a3 := L.a3; have z3 := L.z3; have v3 := L.v3
  have t4 := L.t4; have a4 := L.a4; have z4 := L.z4; have v4 := L.v4
  have t9 := L.t9; have a9 := L.a9; have z9 := L.z9; have v9 := L.v9
  have e153 : ∀ args w, (callFunc (ρ.f 153) args).run P w = .ok (.enter (ρ.f 153) args) w := enters_of L.f153 (by kernel_rfl) rfl
  go_enter L.f150, Body.n150_ntmps ρ
  go_wp2_with (go_at_fn (ρ.f 153); refine c.mono ?_; rintro e w' ⟨rfl, hw⟩)
  go_ret
  exact ⟨rfl, hw⟩
theorem containsAny_any (s chars : List UInt8) : Lib.containsAny s chars = s.any (fun b => chars.contains b) := by
  unfold Lib.containsAny
  induction s with
  | nil => simp [Lib.indexAny]
  | cons b l ih =>
    have hge := Lib.indexAny_ge chars l
    have hst : Lib.indexAny (b :: l) chars = if chars.contains b then 0 else if Lib.indexAny l chars == -1 then -1 else Lib.indexAny l chars + 1 := by rw [Lib.indexAny]
    rw [List.any_cons, ← ih, hst]
    cases hb : chars.contains b
    · by_cases hm : Lib.indexAny l chars = -1
      · rw [hm]; rfl
      · have h1 : (Lib.indexAny l chars == -1) = false := beq_eq_false_iff_ne.2 hm
        rw [h1]
        simp only [Bool.false_eq_true, if_false, Bool.false_or]
        rw [decide_eq_decide]
        omega
    · simp
end Go.Proofs
namespace Nat32
open Go Go.Dat
theorem replK_c {c : UInt8} (h : c ≠ 34) (new l : Bs) : ∀ k, Lib.replaceK [34] new k (c :: l) = c :: Lib.replaceK [34] new k l
  | 0 => rfl
  | k + 1 => by
    have hc : (c == 34) = false := beq_eq_false_iff_ne.2 h
    have hge := Lib.indexByte_ge l 34
    by_cases hm : Lib.indexByte l 34 = -1
    · have h1 : Lib.index (c :: l) [34] = -1 := by rw [Lib.index_one, Lib.indexByte, hc, hm]; rfl
      have h2 : Lib.index l [34] = -1 := by rw [Lib.index_one, hm]
      rw [Lib.replaceK, Lib.replaceK, h1, h2]
      rfl
    · obtain ⟨j, hj⟩ : ∃ j : Nat, Lib.indexByte l 34 = j := ⟨(Lib.indexByte l 34).toNat, by omega⟩
      have hb : (Lib.indexByte l 34 == -1) = false := beq_eq_false_iff_ne.2 hm
      have h1 : Lib.index (c :: l) [34] = ((j + 1 : Nat) : Int) := by
        rw [Lib.index_one, Lib.indexByte, hc, hb, hj]
        push_cast; rfl
      have h2 : Lib.index l [34] = (j : Int) := by rw [Lib.index_one, hj]
      rw [Lib.replaceK_hit _ _ _ _ _ h1, Lib.replaceK_hit _ _ _ _ _ h2]
      simp
theorem replK_dbl : ∀ s : Bs, Lib.replaceK [34] [34, 34] (s.count 34) s = dbl s
  | [] => rfl
  | c :: l => by
    have ih := replK_dbl l
    by_cases h : c = 34
    · subst h
      have h1 : Lib.index (34 :: l) [34] = ((0 : Nat) : Int) := by rw [Lib.index_one, Lib.indexByte]; rfl
      rw [List.count_cons_self, Lib.replaceK_hit _ _ _ _ _ h1, dbl_q]
      simp [ih]
    · rw [List.count_cons_of_ne h, replK_c h, ih, dbl_c h]
theorem replAll_dbl (s : Bs) : Lib.replaceAll s [34] [34, 34] = dbl s := by
  unfold Lib.replaceAll Lib.replace Lib.replaceNum
  rw [if_neg (by decide), if_pos (.inl (by decide)), Lib.count_one, replK_dbl]
end Nat32
namespace Nat32
open Go Go.Dat
theorem leN_le (s : Bs) : leN s ≤ s.length := by
  unfold leN Lib.hasPrefix
  match s with
  | [] => simp
  | [a] => simp; split <;> omega
  | a :: b :: r => simp only [List.length_cons]; split <;> (try split) <;> omega
end Nat32
