import Derived.Test.YtecilkmigjbfoaaT10
import Derived.OpenShut
import Derived.Below
set_option linter.unusedSimpArgs false
set_option linter.unusedVariables false
namespace Go.Proofs.Ytecilkmigjbfoaa
open Go Go.Dat Go.Proofs Nat32 Go.RowKit

/-- A row of numbers that came in, as data. -/
theorem row_vi {w : World} {a : Option Addr} {len cap : Nat} {zs : List Int}
    (h : (a = none ∧ len = 0 ∧ cap = 0 ∧ zs = []) ∨ ∃ x, a = some x ∧ len ≤ cap ∧ cap ≤ maxLen ∧ zs.length = cap ∧ (∀ i, i < zs.length → w.cell? (x.add i) = some (.int .u32 (zs.getD i 0))) ∧ ∀ n ∈ zs, (Lit.int .u32 n).wf = true) :
    ∃ xs : List Nat, lim xs ∧ VI w (fun _ => False) (.sl 1 (us xs)) (.slice a len cap) := by
  rcases h with ⟨rfl, rfl, rfl, rfl⟩ | ⟨x, rfl, hl, hm, hz, hcell, hwf⟩
  · exact ⟨[], lim_nil, .sl0 _ _ _⟩
  · by_cases h0 : len = 0
    · subst h0; exact ⟨[], lim_nil, .sl0 _ _ _⟩
    · have hb : ∀ n ∈ zs, 0 ≤ n ∧ n < 4294967296 := fun n hn => by
        have := bounds_u32 (hwf n hn); omega
      have hlen : ((zs.take len).map Int.toNat).length = len := by simp; omega
      have hget : ∀ (k : Nat) d, (us ((zs.take len).map Int.toNat))[k]? = some d → k < len ∧ d = .int .u32 (zs.getD k 0) := by
        intro k d hk
        have hlt : k < len := by have := (List.getElem?_eq_some_iff.1 hk).1; rw [us_length, hlen] at this; exact this
        refine ⟨hlt, ?_⟩
        have hkz : k < zs.length := by omega
        simp only [us, u32, List.getElem?_map, List.getElem?_take, hlt, if_true, List.getElem?_eq_getElem hkz, Option.map_some, Option.some.injEq] at hk
        rw [← hk, List.getD_eq_getElem?_getD, List.getElem?_eq_getElem hkz]
        have := hb zs[k] (List.getElem_mem hkz)
        simp only [Option.getD_some]
        congr 1
        omega
      refine ⟨(zs.take len).map Int.toNat, ?_, .sl (fun k => .int .u32 (zs.getD k 0)) ?_ ?_ hl (fun h => h) (fun k d hk => ?_) (fun k d hk => ?_)⟩
      · intro y hy
        obtain ⟨z, hz', rfl⟩ := List.mem_map.1 hy
        have := hb z (List.mem_of_mem_take hz')
        omega
      · intro e
        have := congrArg List.length e
        rw [us_length, hlen] at this
        exact h0 (by simpa using this)
      · rw [us_length, hlen]; omega
      · exact hcell k (by have := (hget k d hk).1; omega)
      · rw [(hget k d hk).2]; exact .int _ _

/-- A pure contract that answers true, as the rows want it. -/
theorem law_of {f : Nat} {ds : List DV} {vs : Array Value} {w : World} (hc : PCalls Try.prog f ds (.bool true)) (hs : vs.size = ds.length) (hv : ∀ (k : Nat) d v, ds[k]? = some d → vs[k]? = some v → VI w (fun _ => False) d v) :
    Calls Try.prog f vs w fun e w' => e = .returned (.bool true) ∧ Below w.heap.size w w' := by
  refine (hc (fun _ => False) w vs (fun b h => h.elim) hs hv).mono ?_
  rintro e w' ⟨v, rfl, hvi, hx⟩
  refine ⟨?_, hx.os, hx.tape, hx.output, hx.size, fun k hk => hx.block k hk id⟩
  cases hvi; rfl
end Go.Proofs.Ytecilkmigjbfoaa
