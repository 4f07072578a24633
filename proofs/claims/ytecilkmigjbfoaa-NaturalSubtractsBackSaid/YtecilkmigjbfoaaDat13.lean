/- The walk at the data level, step by step: the equations that 'simp only' goes by. Over any program. -/
import Derived.Test.YtecilkmigjbfoaaDat12
set_option linter.unusedSimpArgs false
set_option linter.unusedVariables false
namespace Go.Dat
open Go

section
variable (F : FnD) (os : List DOper) (dst : Dst) (te fr : Fr) (H : Hp) (K : Fr → Fr → Hp → Prop)

def stepW (x : Option (DV × Eff)) : Prop := OW x fun r => regW F os (dst.onT (r.2.onF te) r.1) (dst.onX (r.2.onF fr) r.1) (r.2.onL H) K
def goW : DOp → Prop
  | .call f args => callR F f (args.map (ev te fr)) te fr H fun d te' fr' H' => regW F os (dst.onT te' d) (dst.onX fr' d) H' K
  | p => stepW F os dst te fr H K (opE F.nb dst.slot (ev te fr) (lkH H) p)
def regG (op : DOp) (want : Bool) : DV → Prop
  | .bool b => (b = want → goW F os dst te fr H K op) ∧ (b = !want → regW F os (dst.onT te (.tup [])) (dst.onX fr (.tup [])) H K)
  | .tup [] => regW F os (dst.onT te (.tup [])) (dst.onX fr (.tup [])) H K
  | _ => False

theorem regW_nil : regW F [] te fr H K = K te fr H := rfl
theorem regW_none (op : DOp) : regW F (⟨dst, op, none⟩ :: os) te fr H K = goW F os dst te fr H K op := by
  cases op <;> rfl
theorem regW_some (op : DOp) (g : Opd) (want : Bool) : regW F (⟨dst, op, some (g, want)⟩ :: os) te fr H K = regG F os dst te fr H K op want (ev te fr g) := by
  simp only [regW, regG]
  cases op <;> rfl
theorem stepW_none : stepW F os dst te fr H K none = False := by simp [stepW, OW]
theorem stepW_no (d : DV) : stepW F os dst te fr H K (some (d, .no)) = regW F os (dst.onT te d) (dst.onX fr d) H K := by simp [stepW, OW, Eff.onF, Eff.onL]
theorem stepW_set (d : DV) (o : Nat) (c : List DV) : stepW F os dst te fr H K (some (d, .set o c)) = regW F os (dst.onT te d) (dst.onX fr d) (setH H o c) K := by simp [stepW, OW, Eff.onF, Eff.onL]
theorem stepW_new (d : DV) (o : Nat) (c : List DV) : stepW F os dst te fr H K (some (d, .new o c)) = regW F os (dst.onT te d) (dst.onX fr d) (setH H o c) K := by simp [stepW, OW, Eff.onF, Eff.onL]
theorem stepW_app (d : DV) (o : Nat) (c : List DV) : stepW F os dst te fr H K (some (d, .app o c)) =
    regW F os (dst.onT (mapF (purge o) te) d) (dst.onX (mapF (purge o) fr) d) (setH (mapH (purge o) H) o c) K := by simp [stepW, OW, Eff.onF, Eff.onL]
theorem stepW_gd (c : Prop) (x : Option (DV × Eff)) : stepW F os dst te fr H K (gd c x) = (c ∧ stepW F os dst te fr H K x) := by
  unfold stepW; rw [propext (OW_gd c x _)]
theorem regG_tt (op : DOp) : regG F os dst te fr H K op true (.bool true) = goW F os dst te fr H K op := by simp [regG]
theorem regG_ff (op : DOp) : regG F os dst te fr H K op false (.bool false) = goW F os dst te fr H K op := by simp [regG]
theorem regG_tf (op : DOp) : regG F os dst te fr H K op true (.bool false) = regW F os (dst.onT te (.tup [])) (dst.onX fr (.tup [])) H K := by simp [regG]
theorem regG_ft (op : DOp) : regG F os dst te fr H K op false (.bool true) = regW F os (dst.onT te (.tup [])) (dst.onX fr (.tup [])) H K := by simp [regG]
theorem regG_u (op : DOp) (w : Bool) : regG F os dst te fr H K op w (.tup []) = regW F os (dst.onT te (.tup [])) (dst.onX fr (.tup [])) H K := by simp [regG]
end
theorem regG_split {F : FnD} {os : List DOper} {dst : Dst} {te fr : Fr} {H : Hp} {K : Fr → Fr → Hp → Prop} {op : DOp} {w b : Bool}
    (ht : b = true → regG F os dst te fr H K op w (.bool true)) (hf : b = false → regG F os dst te fr H K op w (.bool false)) : regG F os dst te fr H K op w (.bool b) := by
  cases b
  · exact hf rfl
  · exact ht rfl
theorem gd_map {α β : Type} (c : Prop) (x : Option α) (f : α → β) : (gd c x).map f = gd c (x.map f) := by unfold gd; split <;> rfl
theorem gd_bind {α β : Type} (c : Prop) (x : Option α) (f : α → Option β) : (gd c x).bind f = gd c (x.bind f) := by unfold gd; split <;> rfl
theorem gd_true {α : Type} (x : Option α) : gd True x = x := by unfold gd; simp
theorem gd_pos {α : Type} {c : Prop} (x : Option α) (h : c) : gd c x = x := by unfold gd; simp [h]
theorem seqQ_norm (F : FnD) (b : DC) (Q : Ex → Fr → Hp → Prop) (fr : Fr) (H : Hp) : seqQ F b Q .norm fr H = W F b Q fr H := rfl
theorem seqQ_ret (F : FnD) (b : DC) (Q : Ex → Fr → Hp → Prop) (fr : Fr) (H : Hp) : seqQ F b Q .ret fr H = Q .ret fr H := rfl
theorem seqQ_exit (F : FnD) (b : DC) (Q : Ex → Fr → Hp → Prop) (fr : Fr) (H : Hp) (i : Nat) : seqQ F b Q (.exit i) fr H = Q (.exit i) fr H := rfl
theorem blkQ_norm (i : Nat) (Q : Ex → Fr → Hp → Prop) (fr : Fr) (H : Hp) : blkQ i Q .norm fr H = Q .norm fr H := rfl
theorem blkQ_ret (i : Nat) (Q : Ex → Fr → Hp → Prop) (fr : Fr) (H : Hp) : blkQ i Q .ret fr H = Q .ret fr H := rfl

/-! ### Wraps -/
theorem w64 {x : Int} (h1 : -9223372036854775808 ≤ x) (h2 : x ≤ 9223372036854775807) : IntKind.i64.wrap x = x := by rw [IntKind.wrap_i64]; omega
theorem wu64 {x : Int} (h1 : 0 ≤ x) (h2 : x ≤ 18446744073709551615) : IntKind.u64.wrap x = x := by rw [IntKind.wrap_u64]; omega
theorem wu32 {x : Int} (h1 : 0 ≤ x) (h2 : x ≤ 4294967295) : IntKind.u32.wrap x = x := by rw [IntKind.wrap_u32]; omega
theorem wu8 {x : Int} (h1 : 0 ≤ x) (h2 : x ≤ 255) : IntKind.u8.wrap x = x := by rw [IntKind.wrap_u8]; omega
theorem wu64' (x : Int) : IntKind.u64.wrap x = x % 18446744073709551616 := by rw [IntKind.wrap_u64]
theorem wu32' (x : Int) : IntKind.u32.wrap x = x % 4294967296 := by rw [IntKind.wrap_u32]
end Go.Dat
