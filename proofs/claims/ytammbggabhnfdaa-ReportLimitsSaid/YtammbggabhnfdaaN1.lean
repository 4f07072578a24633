/- Lemmas of the walk; no conditions beyond those that each states. -/
import Derived.Test.YtammbggabhnfdaaD2
set_option linter.unusedSimpArgs false
set_option linter.unusedVariables false
set_option linter.unnecessarySimpa false
namespace Nat32
def B : Nat := 4294967296
def vld (a : List Nat) : Bool := decide (a.length = 0 ∨ a.getD (a.length - 1) 0 ≠ 0)
def val (a : List Nat) : List Nat := if vld a then a else []
end Nat32
namespace Nat32
open Go Go.Dat
def u32 (n : Nat) : DV := .int .u32 n
def us (xs : List Nat) : List DV := xs.map u32
theorem us_length (xs : List Nat) : (us xs).length = xs.length := by simp [us]
theorem frz_us {o len : Nat} {q : List Nat} (h : len = q.length) : frz o (us q) (.osl 1 o 0 len) = .sl 1 (us q) := by
  subst h
  rw [frz_osl_eq o (us q) 0 q.length (by decide) (by simp [us_length])]
  simp [← us_length]
end Nat32
namespace Nat32
open Go Go.Dat
def cellC (c : UInt8) : Bool := decide (33 ≤ c.toNat) && decide (c.toNat ≤ 126)
def cellB (s : List UInt8) : Bool := s.all cellC && (decide (1 ≤ s.length) && decide (s.length ≤ 32))
def wdT (recs : List (List (List UInt8))) (i j : Nat) : Nat := ((recs.take i).map fun r => (r.getD j []).length).foldl max 0
def cellT (wd : Nat → Nat) (j : Nat) (s : List UInt8) : List UInt8 := (if 0 < j then [32, 32] else []) ++ (List.replicate (wd j - s.length) 32 ++ s)
def rowT (wd : Nat → Nat) (r : List (List UInt8)) (k : Nat) : List UInt8 := (List.range k).flatMap fun j => cellT wd j (r.getD j [])
def colT (wd : Nat → Nat) (recs : List (List (List UInt8))) (n i : Nat) : List UInt8 := (List.range i).flatMap fun i => rowT wd (recs.getD i []) n ++ [10]
theorem rowT_zero (wd : Nat → Nat) (r : List (List UInt8)) : rowT wd r 0 = [] := rfl
theorem rowT_succ (wd : Nat → Nat) (r : List (List UInt8)) (k : Nat) : rowT wd r (k + 1) = rowT wd r k ++ cellT wd k (r.getD k []) := by
  unfold rowT; rw [List.range_succ, List.flatMap_append]; simp
theorem colT_succ (wd : Nat → Nat) (recs : List (List (List UInt8))) (n i : Nat) : colT wd recs n (i + 1) = colT wd recs n i ++ (rowT wd (recs.getD i []) n ++ [10]) := by
  unfold colT; rw [List.range_succ, List.flatMap_append]; simp
def shapeB (recs : List (List (List UInt8))) : Bool := recs.all fun r => decide (r.length = (recs.headD []).length) && (decide (1 ≤ (recs.headD []).length) && decide ((recs.headD []).length ≤ 32))
def formB (recs : List (List (List UInt8))) : Bool := recs.all fun r => r.all cellB
def shapeOk (recs : List (List (List UInt8))) : Bool := (decide (1 ≤ recs.length) && decide (recs.length ≤ 1024)) && shapeB recs
def colR (recs : List (List (List UInt8))) : DV :=
  if shapeOk recs then
    if formB recs then .tup [.str (colT (wdT recs recs.length) recs (recs.headD []).length recs.length), .int .i64 0]
    else .tup [.str [], .int .i64 4]
  else .tup [.str [], .int .i64 6]
def strL (r : List (List UInt8)) : List DV := r.map DV.str
def recD (recs : List (List (List UInt8))) : List DV := recs.map fun r => .sl 1 (strL r)
end Nat32
namespace Nat32
theorem cellT_len {wd : Nat → Nat} {j : Nat} {s : List UInt8} (h : s.length ≤ wd j) (h2 : wd j ≤ 32) : (cellT wd j s).length ≤ 34 := by
  unfold cellT
  rw [List.length_append, List.length_append, List.length_replicate]
  split
  · rw [List.length_cons, List.length_cons, List.length_nil]; omega
  · rw [List.length_nil]; omega
theorem rowT_len {wd : Nat → Nat} {r : List (List UInt8)} (h : ∀ j, (r.getD j []).length ≤ wd j) (h2 : ∀ j, wd j ≤ 32) : ∀ k, (rowT wd r k).length ≤ 34 * k
  | 0 => Nat.le_refl _
  | k + 1 => by
    rw [rowT_succ, List.length_append]
    have := rowT_len h h2 k
    have := cellT_len (h k) (h2 k)
    omega
theorem colT_len {wd : Nat → Nat} {recs : List (List (List UInt8))} {n : Nat} (hn : n ≤ 32) (h : ∀ i j, ((recs.getD i []).getD j []).length ≤ wd j) (h2 : ∀ j, wd j ≤ 32) : ∀ i, (colT wd recs n i).length ≤ 1089 * i
  | 0 => Nat.le_refl _
  | i + 1 => by
    rw [colT_succ, List.length_append, List.length_append]
    have := colT_len hn h h2 i
    have := rowT_len (h i) h2 n
    simp only [List.length_singleton]
    omega
end Nat32
namespace Nat32
open Go Go.Dat
theorem foldl_max_ge (l : List Nat) : ∀ a, a ≤ l.foldl max a := by
  induction l with
  | nil => intro a; exact Nat.le_refl _
  | cons x t ih => intro a; exact Nat.le_trans (Nat.le_max_left a x) (ih _)
theorem foldl_max_mem {l : List Nat} {x : Nat} : ∀ a, x ∈ l → x ≤ l.foldl max a := by
  induction l with
  | nil => intro a h; cases h
  | cons y t ih =>
    intro a h
    rcases List.mem_cons.1 h with rfl | h
    · exact Nat.le_trans (Nat.le_max_right a x) (foldl_max_ge t _)
    · exact ih _ h
theorem foldl_max_le {l : List Nat} {b : Nat} : ∀ a, a ≤ b → (∀ x ∈ l, x ≤ b) → l.foldl max a ≤ b := by
  induction l with
  | nil => intro a h _; exact h
  | cons y t ih => intro a h h2; exact ih _ (Nat.max_le.2 ⟨h, h2 y (by simp)⟩) fun x hx => h2 x (by simp [hx])
theorem wdT_succ {recs : List (List (List UInt8))} {i : Nat} (h : i < recs.length) (j : Nat) : wdT recs (i + 1) j = max (wdT recs i j) ((recs.getD i []).getD j []).length := by
  unfold wdT
  rw [List.take_add_one, List.getElem?_eq_getElem h, Option.toList_some, List.map_append, List.foldl_append, List.getD_eq_getElem?_getD (l := recs), List.getElem?_eq_getElem h]
  rfl
theorem wdT_ge {recs : List (List (List UInt8))} (i j : Nat) : ((recs.getD i []).getD j []).length ≤ wdT recs recs.length j := by
  rcases Nat.lt_or_ge i recs.length with h | h
  · unfold wdT
    refine foldl_max_mem 0 ?_
    rw [List.take_length, List.getD_eq_getElem?_getD (l := recs), List.getElem?_eq_getElem h]
    exact List.mem_map_of_mem (f := fun r : List (List UInt8) => (r.getD j []).length) (List.getElem_mem h)
  · rw [List.getD_eq_getElem?_getD (l := recs), List.getElem?_eq_none h]
    simp
theorem formB_len {recs : List (List (List UInt8))} (h : formB recs = true) (i j : Nat) : ((recs.getD i []).getD j []).length ≤ 32 := by
  rcases Nat.lt_or_ge i recs.length with h1 | h1
  · rw [List.getD_eq_getElem?_getD (l := recs), List.getElem?_eq_getElem h1]
    simp only [Option.getD_some]
    rcases Nat.lt_or_ge j (recs[i]).length with h2 | h2
    · rw [List.getD_eq_getElem?_getD, List.getElem?_eq_getElem h2]
      simp only [Option.getD_some]
      have := List.all_eq_true.1 (List.all_eq_true.1 h _ (List.getElem_mem h1)) _ (List.getElem_mem h2)
      unfold cellB at this
      simp only [Bool.and_eq_true, decide_eq_true_eq] at this
      exact this.2.2
    · rw [List.getD_eq_getElem?_getD, List.getElem?_eq_none h2]; simp
  · rw [List.getD_eq_getElem?_getD (l := recs), List.getElem?_eq_none h1]; simp
theorem wdT_le {recs : List (List (List UInt8))} (h : formB recs = true) (j : Nat) : wdT recs recs.length j ≤ 32 := by
  unfold wdT
  refine foldl_max_le 0 (by omega) fun x hx => ?_
  rw [List.take_length] at hx
  obtain ⟨r, hr, rfl⟩ := List.mem_map.1 hx
  obtain ⟨i, hi, rfl⟩ := List.mem_iff_getElem.1 hr
  have := formB_len h i j
  rwa [List.getD_eq_getElem?_getD (l := recs), List.getElem?_eq_getElem hi] at this
def wmix (recs : List (List (List UInt8))) (i j c : Nat) : Nat := if c < j then wdT recs (i + 1) c else wdT recs i c
def wcells (f : Nat → Nat) (m : Nat) : List DV := (List.range m).map fun c => DV.int .i64 (f c : Nat)
theorem wcells_len (f : Nat → Nat) (m : Nat) : (wcells f m).length = m := by unfold wcells; simp
theorem wcells_get {f : Nat → Nat} {m j : Nat} (h : j < m) : (wcells f m)[j]? = some (.int .i64 (f j : Nat)) := by
  unfold wcells; rw [List.getElem?_map, List.getElem?_range h]; rfl
theorem wcells_getD {f : Nat → Nat} {m j : Nat} (h : j < m) : (wcells f m).getD j .undef = .int .i64 (f j : Nat) := by
  rw [List.getD_eq_getElem?_getD, wcells_get h]; rfl
theorem wcells_congr {f g : Nat → Nat} {m : Nat} (h : ∀ c, c < m → f c = g c) : wcells f m = wcells g m := by
  unfold wcells
  exact List.map_congr_left fun c hc => by rw [h c (List.mem_range.1 hc)]
theorem wcells_set {recs : List (List (List UInt8))} {i j m : Nat} (hi : i < recs.length) (hj : j < m) :
    (wcells (wmix recs i j) m).set j (.int .i64 ((max (wdT recs i j) ((recs.getD i []).getD j []).length : Nat) : Int)) = wcells (wmix recs i (j + 1)) m := by
  apply List.ext_getElem?
  intro c
  rw [List.getElem?_set, wcells_len]
  rcases Nat.lt_or_ge c m with hc | hc
  · rw [wcells_get hc, wcells_get hc]
    by_cases e : j = c
    · subst e
      rw [if_pos rfl, if_pos hj]
      unfold wmix
      rw [if_pos (by omega), wdT_succ hi]
    · rw [if_neg e]
      unfold wmix
      by_cases h1 : c < j
      · rw [if_pos h1, if_pos (by omega)]
      · rw [if_neg h1, if_neg (by omega)]
  · rw [List.getElem?_eq_none (by rw [wcells_len]; exact hc), List.getElem?_eq_none (by rw [wcells_len]; exact hc), if_neg (by omega)]
theorem wmix_zero (recs : List (List (List UInt8))) (i : Nat) (m : Nat) : wcells (wmix recs i 0) m = wcells (wdT recs i) m := wcells_congr fun c _ => by unfold wmix; rw [if_neg (by omega)]
theorem wmix_full (recs : List (List (List UInt8))) (i : Nat) (m : Nat) : wcells (wmix recs i m) m = wcells (wdT recs (i + 1)) m := wcells_congr fun c hc => by unfold wmix; rw [if_pos hc]
theorem wcells_rep (recs : List (List (List UInt8))) (m : Nat) : List.replicate m (DV.int .i64 0) = wcells (wdT recs 0) m := by
  apply List.ext_getElem?
  intro c
  rw [List.getElem?_replicate]
  rcases Nat.lt_or_ge c m with hc | hc
  · rw [wcells_get hc, if_pos hc]; rfl
  · rw [List.getElem?_eq_none (by rw [wcells_len]; exact hc), if_neg (by omega)]
end Nat32
namespace Nat32
open Go Go.Dat
def badE (k most : Nat) : Int := if k = 0 ∨ most < k then 6 else 0
theorem colR_many (k : Nat) : ∃ T, colR (List.replicate k [[97]]) = .tup [.str T, .int .i64 (badE k 1024)] := by
  unfold colR badE
  by_cases h : k = 0 ∨ 1024 < k
  · rw [if_pos h]
    have : shapeOk (List.replicate k [[97]]) = false := by
      unfold shapeOk
      rw [List.length_replicate]
      rcases h with h | h
      · rw [decide_eq_false (show ¬ 1 ≤ k by omega)]; rfl
      · rw [decide_eq_false (show ¬ k ≤ 1024 by omega), Bool.and_false]; rfl
    rw [this]
    exact ⟨[], rfl⟩
  · rw [if_neg h]
    have h0 : 0 < k := by omega
    have hh : (List.replicate k [[(97 : UInt8)]]).headD [] = [[97]] := by
      obtain ⟨n, rfl⟩ : ∃ n, k = n + 1 := ⟨k - 1, by omega⟩
      rfl
    have h1 : shapeOk (List.replicate k [[97]]) = true := by
      unfold shapeOk shapeB
      rw [List.length_replicate, decide_eq_true (show 1 ≤ k by omega), decide_eq_true (show k ≤ 1024 by omega), hh]
      refine List.all_eq_true.2 fun r hr => ?_
      rw [List.eq_of_mem_replicate hr]; rfl
    have h2 : formB (List.replicate k [[97]]) = true := by
      unfold formB
      refine List.all_eq_true.2 fun r hr => ?_
      rw [List.eq_of_mem_replicate hr]; decide
    rw [h1, h2]
    exact ⟨_, rfl⟩
theorem colR_wide (k : Nat) : ∃ T, colR [List.replicate k [98]] = .tup [.str T, .int .i64 (badE k 32)] := by
  unfold colR badE
  have hsk : shapeOk [List.replicate k [98]] = (decide (1 ≤ k) && decide (k ≤ 32)) := by
    unfold shapeOk shapeB
    simp
  by_cases h : k = 0 ∨ 32 < k
  · rw [if_pos h, hsk]
    rcases h with h | h
    · rw [decide_eq_false (show ¬ 1 ≤ k by omega)]; exact ⟨[], rfl⟩
    · rw [decide_eq_false (show ¬ k ≤ 32 by omega), Bool.and_false]; exact ⟨[], rfl⟩
  · rw [if_neg h, hsk, decide_eq_true (show 1 ≤ k by omega), decide_eq_true (show k ≤ 32 by omega)]
    have h2 : formB [List.replicate k [98]] = true := by
      unfold formB
      rw [List.all_cons, List.all_nil, Bool.and_true]
      refine List.all_eq_true.2 fun r hr => ?_
      rw [List.eq_of_mem_replicate hr]; decide
    rw [h2]
    exact ⟨_, rfl⟩
def part (a z : DV) (i k : Nat) : List DV := List.replicate i a ++ List.replicate (k - i) z
theorem part_zero (a z : DV) (k : Nat) : part a z 0 k = List.replicate k z := by unfold part; simp
theorem part_full (a z : DV) (k : Nat) : part a z k k = List.replicate k a := by unfold part; simp
theorem part_len (a z : DV) {i k : Nat} (h : i ≤ k) : (part a z i k).length = k := by unfold part; simp; omega
theorem part_set (a z : DV) {i k : Nat} (h : i < k) : (part a z i k).set i a = part a z (i + 1) k := by
  unfold part
  rw [List.set_append, if_neg (by simp), List.length_replicate, Nat.sub_self, show k - i = (k - (i + 1)) + 1 by omega, List.replicate_succ, List.set_cons_zero, List.replicate_succ', List.append_assoc]
  rfl
end Nat32
