/- Lemmas of the walk; no conditions beyond those that each states. -/
import Derived.Lib.SplitLaws
import Derived.OpenShut
import Derived.Below
import Derived.Lib.SmallJoins
import Derived.Test.YtammbggabhnfdaaDoorD2
set_option linter.unusedSimpArgs false
set_option linter.unusedVariables false
set_option linter.unnecessarySimpa false
namespace Nat32
def B : Nat := 4294967296
def nv : List Nat → Nat
  | [] => 0
  | x :: r => x + 4294967296 * nv r
def limbs (n : Nat) : List Nat := if h : n = 0 then [] else (n % 4294967296) :: limbs (n / 4294967296)
  termination_by n
  decreasing_by omega
def lim (a : List Nat) : Prop := ∀ x ∈ a, x < 4294967296
def vld (a : List Nat) : Bool := decide (a.length = 0 ∨ a.getD (a.length - 1) 0 ≠ 0)
def val (a : List Nat) : List Nat := if vld a then a else []
theorem lim_cons {x : Nat} {r : List Nat} : lim (x :: r) ↔ x < 4294967296 ∧ lim r := by
  constructor
  · intro h; exact ⟨h x (by simp), fun y hy => h y (by simp [hy])⟩
  · rintro ⟨h1, h2⟩ y hy
    rcases List.mem_cons.1 hy with e | e
    · subst e; exact h1
    · exact h2 y e
theorem lim_take {a : List Nat} (h : lim a) (n : Nat) : lim (a.take n) := fun x hx => h x (List.mem_of_mem_take hx)
theorem nv_app (a b : List Nat) : nv (a ++ b) = nv a + 4294967296 ^ a.length * nv b := by
  induction a with
  | nil => simp [nv]
  | cons x a ih =>
    simp only [List.cons_append, nv, ih, List.length_cons, Nat.pow_succ, Nat.mul_add]
    rw [← Nat.mul_assoc, Nat.mul_comm (4294967296 ^ a.length) 4294967296]
    omega
theorem nv_lt {a : List Nat} (h : lim a) : nv a < 4294967296 ^ a.length := by
  induction a with
  | nil => simp [nv]
  | cons x r ih =>
    obtain ⟨hx, hr⟩ := lim_cons.1 h
    have := ih hr
    simp only [nv, List.length_cons, Nat.pow_succ]
    omega
end Nat32
namespace Nat32
open Go Go.Dat
def u32 (n : Nat) : DV := .int .u32 n
def us (xs : List Nat) : List DV := xs.map u32
theorem us_length (xs : List Nat) : (us xs).length = xs.length := by simp [us]
theorem frz_us {o len : Nat} {q : List Nat} (h : len = q.length) : frz o (us q) (.osl 1 o 0 len) = .sl 1 (us q) := by
  subst h
  rw [frz_osl_eq o (us q) 0 q.length (by decide) (by simp [us_length])]
  simp [← us_length]
end Nat32
namespace Nat32
open Go Go.Dat
def cellC (c : UInt8) : Bool := decide (33 ≤ c.toNat) && decide (c.toNat ≤ 126)
def cellB (s : List UInt8) : Bool := s.all cellC && (decide (1 ≤ s.length) && decide (s.length ≤ 32))
def wdT (recs : List (List (List UInt8))) (i j : Nat) : Nat := ((recs.take i).map fun r => (r.getD j []).length).foldl max 0
def cellT (wd : Nat → Nat) (j : Nat) (s : List UInt8) : List UInt8 := (if 0 < j then [32, 32] else []) ++ (List.replicate (wd j - s.length) 32 ++ s)
def rowT (wd : Nat → Nat) (r : List (List UInt8)) (k : Nat) : List UInt8 := (List.range k).flatMap fun j => cellT wd j (r.getD j [])
def colT (wd : Nat → Nat) (recs : List (List (List UInt8))) (n i : Nat) : List UInt8 := (List.range i).flatMap fun i => rowT wd (recs.getD i []) n ++ [10]
theorem rowT_zero (wd : Nat → Nat) (r : List (List UInt8)) : rowT wd r 0 = [] := rfl
theorem rowT_succ (wd : Nat → Nat) (r : List (List UInt8)) (k : Nat) : rowT wd r (k + 1) = rowT wd r k ++ cellT wd k (r.getD k []) := by
  unfold rowT; rw [List.range_succ, List.flatMap_append]; simp
theorem colT_succ (wd : Nat → Nat) (recs : List (List (List UInt8))) (n i : Nat) : colT wd recs n (i + 1) = colT wd recs n i ++ (rowT wd (recs.getD i []) n ++ [10]) := by
  unfold colT; rw [List.range_succ, List.flatMap_append]; simp
def shapeB (recs : List (List (List UInt8))) : Bool := recs.all fun r => decide (r.length = (recs.headD []).length) && (decide (1 ≤ (recs.headD []).length) && decide ((recs.headD []).length ≤ 32))
def formB (recs : List (List (List UInt8))) : Bool := recs.all fun r => r.all cellB
def shapeOk (recs : List (List (List UInt8))) : Bool := (decide (1 ≤ recs.length) && decide (recs.length ≤ 1024)) && shapeB recs
def colR (recs : List (List (List UInt8))) : DV :=
  if shapeOk recs then
    if formB recs then .tup [.str (colT (wdT recs recs.length) recs (recs.headD []).length recs.length), .int .i64 0]
    else .tup [.str [], .int .i64 4]
  else .tup [.str [], .int .i64 6]
def strL (r : List (List UInt8)) : List DV := r.map DV.str
def recD (recs : List (List (List UInt8))) : List DV := recs.map fun r => .sl 1 (strL r)
end Nat32
namespace Nat32
theorem cellT_len {wd : Nat → Nat} {j : Nat} {s : List UInt8} (h : s.length ≤ wd j) (h2 : wd j ≤ 32) : (cellT wd j s).length ≤ 34 := by
  unfold cellT
  rw [List.length_append, List.length_append, List.length_replicate]
  split
  · rw [List.length_cons, List.length_cons, List.length_nil]; omega
  · rw [List.length_nil]; omega
theorem rowT_len {wd : Nat → Nat} {r : List (List UInt8)} (h : ∀ j, (r.getD j []).length ≤ wd j) (h2 : ∀ j, wd j ≤ 32) : ∀ k, (rowT wd r k).length ≤ 34 * k
  | 0 => Nat.le_refl _
  | k + 1 => by
    rw [rowT_succ, List.length_append]
    have := rowT_len h h2 k
    have := cellT_len (h k) (h2 k)
    omega
theorem colT_len {wd : Nat → Nat} {recs : List (List (List UInt8))} {n : Nat} (hn : n ≤ 32) (h : ∀ i j, ((recs.getD i []).getD j []).length ≤ wd j) (h2 : ∀ j, wd j ≤ 32) : ∀ i, (colT wd recs n i).length ≤ 1089 * i
  | 0 => Nat.le_refl _
  | i + 1 => by
    rw [colT_succ, List.length_append, List.length_append]
    have := colT_len hn h h2 i
    have := rowT_len (h i) h2 n
    simp only [List.length_singleton]
    omega
end Nat32
namespace Nat32
open Go Go.Dat
theorem foldl_max_ge (l : List Nat) : ∀ a, a ≤ l.foldl max a := by
  induction l with
  | nil => intro a; exact Nat.le_refl _
  | cons x t ih => intro a; exact Nat.le_trans (Nat.le_max_left a x) (ih _)
theorem foldl_max_mem {l : List Nat} {x : Nat} : ∀ a, x ∈ l → x ≤ l.foldl max a := by
  induction l with
  | nil => intro a h; cases h
  | cons y t ih =>
    intro a h
    rcases List.mem_cons.1 h with rfl | h
    · exact Nat.le_trans (Nat.le_max_right a x) (foldl_max_ge t _)
    · exact ih _ h
theorem foldl_max_le {l : List Nat} {b : Nat} : ∀ a, a ≤ b → (∀ x ∈ l, x ≤ b) → l.foldl max a ≤ b := by
  induction l with
  | nil => intro a h _; exact h
  | cons y t ih => intro a h h2; exact ih _ (Nat.max_le.2 ⟨h, h2 y (by simp)⟩) fun x hx => h2 x (by simp [hx])
theorem wdT_succ {recs : List (List (List UInt8))} {i : Nat} (h : i < recs.length) (j : Nat) : wdT recs (i + 1) j = max (wdT recs i j) ((recs.getD i []).getD j []).length := by
  unfold wdT
  rw [List.take_add_one, List.getElem?_eq_getElem h, Option.toList_some, List.map_append, List.foldl_append, List.getD_eq_getElem?_getD (l := recs), List.getElem?_eq_getElem h]
  rfl
theorem wdT_ge {recs : List (List (List UInt8))} (i j : Nat) : ((recs.getD i []).getD j []).length ≤ wdT recs recs.length j := by
  rcases Nat.lt_or_ge i recs.length with h | h
  · unfold wdT
    refine foldl_max_mem 0 ?_
    rw [List.take_length, List.getD_eq_getElem?_getD (l := recs), List.getElem?_eq_getElem h]
    exact List.mem_map_of_mem (f := fun r : List (List UInt8) => (r.getD j []).length) (List.getElem_mem h)
  · rw [List.getD_eq_getElem?_getD (l := recs), List.getElem?_eq_none h]
    simp
theorem formB_len {recs : List (List (List UInt8))} (h : formB recs = true) (i j : Nat) : ((recs.getD i []).getD j []).length ≤ 32 := by
  rcases Nat.lt_or_ge i recs.length with h1 | h1
  · rw [List.getD_eq_getElem?_getD (l := recs), List.getElem?_eq_getElem h1]
    simp only [Option.getD_some]
    rcases Nat.lt_or_ge j (recs[i]).length with h2 | h2
    · rw [List.getD_eq_getElem?_getD, List.getElem?_eq_getElem h2]
      simp only [Option.getD_some]
      have := List.all_eq_true.1 (List.all_eq_true.1 h _ (List.getElem_mem h1)) _ (List.getElem_mem h2)
      unfold cellB at this
      simp only [Bool.and_eq_true, decide_eq_true_eq] at this
      exact this.2.2
    · rw [List.getD_eq_getElem?_getD, List.getElem?_eq_none h2]; simp
  · rw [List.getD_eq_getElem?_getD (l := recs), List.getElem?_eq_none h1]; simp
theorem wdT_le {recs : List (List (List UInt8))} (h : formB recs = true) (j : Nat) : wdT recs recs.length j ≤ 32 := by
  unfold wdT
  refine foldl_max_le 0 (by omega) fun x hx => ?_
  rw [List.take_length] at hx
  obtain ⟨r, hr, rfl⟩ := List.mem_map.1 hx
  obtain ⟨i, hi, rfl⟩ := List.mem_iff_getElem.1 hr
  have := formB_len h i j
  rwa [List.getD_eq_getElem?_getD (l := recs), List.getElem?_eq_getElem hi] at this
def wmix (recs : List (List (List UInt8))) (i j c : Nat) : Nat := if c < j then wdT recs (i + 1) c else wdT recs i c
def wcells (f : Nat → Nat) (m : Nat) : List DV := (List.range m).map fun c => DV.int .i64 (f c : Nat)
theorem wcells_len (f : Nat → Nat) (m : Nat) : (wcells f m).length = m := by unfold wcells; simp
theorem wcells_get {f : Nat → Nat} {m j : Nat} (h : j < m) : (wcells f m)[j]? = some (.int .i64 (f j : Nat)) := by
  unfold wcells; rw [List.getElem?_map, List.getElem?_range h]; rfl
theorem wcells_getD {f : Nat → Nat} {m j : Nat} (h : j < m) : (wcells f m).getD j .undef = .int .i64 (f j : Nat) := by
  rw [List.getD_eq_getElem?_getD, wcells_get h]; rfl
theorem wcells_congr {f g : Nat → Nat} {m : Nat} (h : ∀ c, c < m → f c = g c) : wcells f m = wcells g m := by
  unfold wcells
  exact List.map_congr_left fun c hc => by rw [h c (List.mem_range.1 hc)]
theorem wcells_set {recs : List (List (List UInt8))} {i j m : Nat} (hi : i < recs.length) (hj : j < m) :
    (wcells (wmix recs i j) m).set j (.int .i64 ((max (wdT recs i j) ((recs.getD i []).getD j []).length : Nat) : Int)) = wcells (wmix recs i (j + 1)) m := by
  apply List.ext_getElem?
  intro c
  rw [List.getElem?_set, wcells_len]
  rcases Nat.lt_or_ge c m with hc | hc
  · rw [wcells_get hc, wcells_get hc]
    by_cases e : j = c
    · subst e
      rw [if_pos rfl, if_pos hj]
      unfold wmix
      rw [if_pos (by omega), wdT_succ hi]
    · rw [if_neg e]
      unfold wmix
      by_cases h1 : c < j
      · rw [if_pos h1, if_pos (by omega)]
      · rw [if_neg h1, if_neg (by omega)]
  · rw [List.getElem?_eq_none (by rw [wcells_len]; exact hc), List.getElem?_eq_none (by rw [wcells_len]; exact hc), if_neg (by omega)]
theorem wmix_zero (recs : List (List (List UInt8))) (i : Nat) (m : Nat) : wcells (wmix recs i 0) m = wcells (wdT recs i) m := wcells_congr fun c _ => by unfold wmix; rw [if_neg (by omega)]
theorem wmix_full (recs : List (List (List UInt8))) (i : Nat) (m : Nat) : wcells (wmix recs i m) m = wcells (wdT recs (i + 1)) m := wcells_congr fun c hc => by unfold wmix; rw [if_pos hc]
theorem wcells_rep (recs : List (List (List UInt8))) (m : Nat) : List.replicate m (DV.int .i64 0) = wcells (wdT recs 0) m := by
  apply List.ext_getElem?
  intro c
  rw [List.getElem?_replicate]
  rcases Nat.lt_or_ge c m with hc | hc
  · rw [wcells_get hc, if_pos hc]; rfl
  · rw [List.getElem?_eq_none (by rw [wcells_len]; exact hc), if_neg (by omega)]
end Nat32
namespace Nat32
open Go Go.Dat
def part (a z : DV) (i k : Nat) : List DV := List.replicate i a ++ List.replicate (k - i) z
end Nat32
namespace Nat32
open Go Go.Dat
abbrev Bs := List UInt8
def spl1 (c : UInt8) : Bs → List Bs
  | [] => [[]]
  | x :: r => if x = c then [] :: spl1 c r else match spl1 c r with
    | h :: t => (x :: h) :: t
    | [] => [[x]]
theorem spl1_ne (c : UInt8) : ∀ l, ∃ h t, spl1 c l = h :: t
  | [] => ⟨[], [], rfl⟩
  | x :: r => by
    obtain ⟨h, t, e⟩ := spl1_ne c r
    rw [spl1]
    split
    · exact ⟨_, _, rfl⟩
    · rw [e]; exact ⟨_, _, rfl⟩
theorem spl1_eq (c : UInt8) (r : Bs) : spl1 c (c :: r) = [] :: spl1 c r := by rw [spl1, if_pos rfl]
theorem spl1_oth {c x : UInt8} {r h : Bs} {t : List Bs} (hx : x ≠ c) (e : spl1 c r = h :: t) : spl1 c (x :: r) = (x :: h) :: t := by rw [spl1, if_neg hx, e]
theorem index_self (c : UInt8) (r : Bs) : Lib.index (c :: r) [c] = 0 := by unfold Lib.index; simp [List.isPrefixOf]
theorem index_oth {c x : UInt8} (hx : x ≠ c) (r : Bs) : Lib.index (x :: r) [c] = if Lib.index r [c] == -1 then -1 else Lib.index r [c] + 1 := by
  conv => lhs; unfold Lib.index
  have : ([c] : Bs).isPrefixOf (x :: r) = false := by simp [List.isPrefixOf, Ne.symm hx]
  rw [this]; simp
theorem splitK_spl1 (c : UInt8) : ∀ l : Bs, Lib.splitK [c] 0 (l.count c) l = spl1 c l
  | [] => rfl
  | x :: r => by
    have ih := splitK_spl1 c r
    by_cases hx : x = c
    · subst hx
      rw [List.count_cons_self, Lib.splitK, index_self, spl1_eq, ← ih]
      rfl
    · rw [List.count_cons_of_ne hx]
      cases hk : r.count c with
      | zero =>
        rw [hk] at ih
        rw [Lib.splitK] at ih ⊢
        rw [spl1_oth hx ih.symm]
      | succ k =>
        rw [hk, Lib.splitK] at ih
        rw [Lib.splitK, index_oth hx]
        by_cases hi : (Lib.index r [c] == -1) = true
        · rw [if_pos hi] at ih ⊢
          rw [spl1_oth hx ih.symm]; rfl
        · rw [if_neg hi] at ih ⊢
          have h1 := Lib.index_ge r [c]
          have h2 : Lib.index r [c] ≠ -1 := fun e => hi (beq_iff_eq.2 e)
          obtain ⟨i, hi2⟩ : ∃ i : Nat, Lib.index r [c] = i := ⟨(Lib.index r [c]).toNat, by omega⟩
          rw [hi2] at ih ⊢
          have e1 : ((i : Int) + 1).toNat = i + 1 := by omega
          have e2 : (i : Int).toNat = i := by omega
          have e3 : (((i : Int) + 1) == -1) = false := by rw [beq_eq_false_iff_ne]; omega
          rw [e2] at ih
          rw [e3, e1, spl1_oth hx ih.symm]
          rfl
theorem splitB_spl1 (c : UInt8) (s : Bs) : (Lib.splitB ⟨#[c]⟩ 0 (Lib.countB ⟨s.toArray⟩ ⟨#[c]⟩) ⟨s.toArray⟩).map (·.data.toList) = spl1 c s := by
  rw [Lib.splitB_data]
  have : Lib.countB ⟨s.toArray⟩ ⟨#[c]⟩ = s.count c := Lib.count_one c s
  rw [this]
  exact splitK_spl1 c s
abbrev WS := List (List Bs) × List Bs × Bs
def addW (row : List Bs) (word : Bs) : List Bs := if word = [] then row else row ++ [word]
def wstep (s : WS) (c : UInt8) : WS :=
  if c ≠ 32 ∧ c ≠ 10 then (s.1, s.2.1, s.2.2 ++ [c])
  else if c = 10 then (s.1 ++ [addW s.2.1 s.2.2], [], []) else (s.1, addW s.2.1 s.2.2, [])
def wordsL (t : Bs) : List (List Bs) := (t.foldl wstep ([], [], [])).1
def fl (ps : List Bs) : List Bs := ps.filter fun p => decide (p ≠ [])
def lineW (l : Bs) : List Bs := fl (spl1 32 l)
def prep (w : Bs) : List Bs → List Bs
  | p :: ps => (w ++ p) :: ps
  | [] => []
def glue (row : List Bs) (w : Bs) : List Bs → List (List Bs)
  | h :: r => (row ++ fl (prep w (spl1 32 h))) :: r.map lineW
  | [] => []
theorem prep_nil (ps : List Bs) : prep [] ps = ps := by cases ps <;> rfl
theorem fl_cons (p : Bs) (ps : List Bs) : fl (p :: ps) = (if p = [] then [] else [p]) ++ fl ps := by
  unfold fl
  rw [List.filter_cons]
  by_cases h : p = []
  · rw [if_neg (by simp [h]), if_pos h]; rfl
  · rw [if_pos (by simp [h]), if_neg h]; rfl
theorem addW_fl (row : List Bs) (w : Bs) (ps : List Bs) : row ++ fl (w :: ps) = addW row w ++ fl ps := by
  rw [fl_cons]
  unfold addW
  split
  · simp
  · simp
theorem words_glue : ∀ (t : Bs) (out : List (List Bs)) (row : List Bs) (w : Bs), ((t ++ [10]).foldl wstep (out, row, w)) = (out ++ glue row w (spl1 10 t), [], [])
  | [], out, row, w => by
    show wstep (out, row, w) 10 = _
    have : glue row w (spl1 10 []) = [addW row w] := by
      show [row ++ fl (prep w [[]])] = _
      show [row ++ fl [w ++ []]] = _
      rw [List.append_nil, addW_fl]; simp [fl]
    rw [this]
    simp [wstep]
  | x :: t, out, row, w => by
    rw [List.cons_append, List.foldl_cons]
    obtain ⟨h, r, e⟩ := spl1_ne 10 t
    by_cases hx : x = 10
    · subst hx
      have hs : wstep (out, row, w) 10 = (out ++ [addW row w], [], []) := by simp [wstep]
      rw [hs, words_glue t, spl1_eq, e]
      show (out ++ [addW row w] ++ (([] ++ fl (prep [] (spl1 32 h))) :: r.map lineW), _, _) = (out ++ ((row ++ fl (prep w [[]])) :: (h :: r).map lineW), _, _)
      have h2 : row ++ fl (prep w [[]]) = addW row w := by
        show row ++ fl [w ++ []] = _
        rw [List.append_nil, addW_fl]; simp [fl]
      rw [h2, prep_nil, List.nil_append, List.map_cons, List.append_assoc]
      rfl
    · by_cases h32 : x = 32
      · subst h32
        have hs : wstep (out, row, w) 32 = (out, addW row w, []) := by simp [wstep]
        rw [hs, words_glue t, spl1_oth hx e, e]
        show (out ++ ((addW row w ++ fl (prep [] (spl1 32 h))) :: r.map lineW), _, _) = (out ++ ((row ++ fl (prep w (spl1 32 (32 :: h)))) :: r.map lineW), _, _)
        rw [spl1_eq, prep_nil]
        show _ = (out ++ ((row ++ fl ((w ++ []) :: spl1 32 h)) :: r.map lineW), _, _)
        rw [List.append_nil, addW_fl]
      · have hs : wstep (out, row, w) x = (out, row, w ++ [x]) := by simp [wstep, hx, h32]
        rw [hs, words_glue t, spl1_oth hx e, e]
        obtain ⟨p, ps, e2⟩ := spl1_ne 32 h
        show (out ++ ((row ++ fl (prep (w ++ [x]) (spl1 32 h))) :: r.map lineW), _, _) = (out ++ ((row ++ fl (prep w (spl1 32 (x :: h)))) :: r.map lineW), _, _)
        rw [spl1_oth h32 e2, e2]
        show (out ++ ((row ++ fl ((w ++ [x] ++ p) :: ps)) :: r.map lineW), _, _) = (out ++ ((row ++ fl ((w ++ x :: p) :: ps)) :: r.map lineW), _, _)
        rw [List.append_assoc]; rfl
theorem words_lines (t : Bs) : wordsL (t ++ [10]) = (spl1 10 t).map lineW := by
  unfold wordsL
  rw [words_glue]
  obtain ⟨h, r, e⟩ := spl1_ne 10 t
  rw [e]
  show [] ++ (([] ++ fl (prep [] (spl1 32 h))) :: r.map lineW) = _
  rw [prep_nil]; rfl
def colP (recs : List (List Bs)) : Option Bs := if shapeOk recs = true then (if formB recs = true then some (colT (wdT recs recs.length) recs (recs.headD []).length recs.length) else none) else none
def parD (t : Bs) : DV := if colP (wordsL t) = some t then .tup [.sl 1 (recD (wordsL t)), .int .i64 0] else .tup [.nils, .int .i64 3]
theorem colR_some {recs : List (List Bs)} {s : Bs} (h : colP recs = some s) : colR recs = .tup [.str s, .int .i64 0] := by
  unfold colP at h
  unfold colR
  split at h
  · rename_i h1
    rw [if_pos h1]
    split at h
    · rename_i h2
      rw [if_pos h2]; cases h; rfl
    · cases h
  · cases h
theorem colR_none {recs : List (List Bs)} (h : colP recs = none) : ∃ e : Int, e ≠ 0 ∧ colR recs = .tup [.str [], .int .i64 e] := by
  unfold colP at h
  unfold colR
  split at h
  · rename_i h1
    rw [if_pos h1]
    split at h
    · cases h
    · rename_i h2
      rw [if_neg h2]; exact ⟨4, by decide, rfl⟩
  · rename_i h1
    rw [if_neg h1]; exact ⟨6, by decide, rfl⟩
theorem colP_end {recs : List (List Bs)} {s : Bs} (h : colP recs = some s) : ∃ t, s = t ++ [10] := by
  unfold colP at h
  split at h
  · rename_i h1
    split at h
    · cases h
      have h2 : 1 ≤ recs.length := by
        unfold shapeOk at h1
        simp only [Bool.and_eq_true, decide_eq_true_eq] at h1
        exact h1.1.1
      obtain ⟨k, hk⟩ : ∃ k, recs.length = k + 1 := ⟨recs.length - 1, by omega⟩
      generalize wdT recs recs.length = wd
      rw [hk, colT_succ, ← List.append_assoc]
      exact ⟨_, rfl⟩
    · cases h
  · cases h
theorem parD_bad {t : Bs} (h : ¬ ∃ u, t = u ++ [10]) : parD t = .tup [.nils, .int .i64 3] := by
  unfold parD
  rw [if_neg fun e => h (colP_end e)]
theorem colP_many {recs : List (List Bs)} (h : 1024 < recs.length) : colP recs = none := by
  unfold colP shapeOk
  rw [decide_eq_false (show ¬ recs.length ≤ 1024 by omega), Bool.and_false, Bool.false_and, if_neg (by decide)]
end Nat32
namespace Go.Dat
open Go Go.RowKit Nat32
theorem strL_nth {ps : List (List UInt8)} {k : Nat} {d : DV} (h : (strL ps)[k]? = some d) : ∃ p, ps[k]? = some p ∧ d = .str p := by
  unfold strL at h
  rw [List.getElem?_map, Option.map_eq_some_iff] at h
  obtain ⟨p, hp, rfl⟩ := h
  exact ⟨p, hp, rfl⟩
theorem PCalls_split {P : Program} {f g : Nat} {T : TypeId} {s : List UInt8} {c : UInt8} (hg : P.globalNamed maxName = some g)
    (h : ∀ (m : Int) (w : World), w.cell? ⟨g, 0, none⟩ = some (.int .i64 m) → Calls P f #[.string ⟨s.toArray⟩, .string ⟨#[c]⟩] w fun e w' =>
      e = .returned (.slice (some ⟨w.heap.size, 0, none⟩) (Lib.countB ⟨s.toArray⟩ ⟨#[c]⟩ + 1) (Lib.countB ⟨s.toArray⟩ ⟨#[c]⟩ + 1)) ∧
        w' = w.alloc (.cells ((Lib.splitB ⟨#[c]⟩ 0 (Lib.countB ⟨s.toArray⟩ ⟨#[c]⟩) ⟨s.toArray⟩).map Value.string).toArray T)) :
    PCalls P f [.str s, .str [c]] (.sl 1 (strL (spl1 c s))) := by
  intro A w us hT hA hs hv
  obtain ⟨us⟩ := us
  match us, hs with
  | [v, u], _ =>
    have h0 := hv 0 _ v rfl rfl
    have h1 := hv 1 _ u rfl rfl
    cases h0; cases h1
    obtain ⟨_, m, hm⟩ := hT.2 g hg
    refine (h m w hm).mono ?_
    rintro e w' ⟨rfl, rfl⟩
    have hps := splitB_spl1 c s
    have hlen := Lib.splitB_all ⟨#[c]⟩ (Nat.le_refl 1) 0 _ ⟨s.toArray⟩ rfl
    generalize Lib.countB ⟨s.toArray⟩ ⟨#[c]⟩ = n at *
    generalize Lib.splitB ⟨#[c]⟩ 0 n ⟨s.toArray⟩ = bs at *
    have hsl : (strL (spl1 c s)).length = n + 1 := by rw [← hps]; unfold strL; simp [hlen]
    refine ⟨_, rfl, .sl (fun k => .string ⟨((spl1 c s).getD k []).toArray⟩) ?_ (by rw [hsl, Nat.mul_one]) (Nat.le_refl _) (fun ha => Nat.lt_irrefl _ (hA _ ha)) (fun k d hk => ?_) (fun k d hk => ?_), Ext.alloc _ _ _⟩
    · intro e; rw [e] at hsl; cases hsl
    · obtain ⟨p, hp, rfl⟩ := strL_nth hk
      rw [← hps, List.getElem?_map, Option.map_eq_some_iff] at hp
      obtain ⟨b, hb, rfl⟩ := hp
      rw [add_lit, Nat.zero_add, cell_of_row _ w.heap.size k _ T (0, 0) (heap_alloc_new w _)]
      have e2 : (spl1 c s).getD k [] = b.data.toList := by rw [← hps, List.getD_eq_getElem?_getD, List.getElem?_map, hb]; rfl
      rw [e2, List.getElem?_toArray, List.getElem?_map, hb]
      simp
    · obtain ⟨p, hp, rfl⟩ := strL_nth hk
      have e2 : (spl1 c s).getD k [] = p := by rw [List.getD_eq_getElem?_getD, hp]; rfl
      rw [e2]
      exact .str p
theorem PCalls_suffix {P : Program} {f : Nat} {s p : List UInt8} {b : Bool}
    (h : ∀ w, Calls P f #[.string ⟨s.toArray⟩, .string ⟨p.toArray⟩] w fun e w' => e = .returned (.bool b) ∧ w' = w) : PCalls P f [.str s, .str p] (.bool b) := by
  intro A w us hT hA hs hv
  obtain ⟨us⟩ := us
  match us, hs with
  | [v, u], _ =>
    have h0 := hv 0 _ v rfl rfl
    have h1 := hv 1 _ u rfl rfl
    cases h0; cases h1
    refine (h w).mono ?_
    rintro e w' ⟨rfl, rfl⟩
    exact ⟨_, rfl, .bool _, Ext.refl _ _⟩
theorem suffix_10 (s : List UInt8) : Lib.hasSuffix s [10] = true ↔ ∃ t, s = t ++ [10] := by
  unfold Lib.hasSuffix
  rw [List.isSuffixOf_iff_suffix]
  constructor
  · rintro ⟨t, h⟩; exact ⟨t, h.symm⟩
  · rintro ⟨t, h⟩; exact ⟨t, h.symm⟩
end Go.Dat
namespace Nat32
open Go Go.Dat
theorem spl1_len (c : UInt8) : ∀ l : Bs, (spl1 c l).length ≤ l.length + 1
  | [] => Nat.le_refl _
  | x :: r => by
    have ih := spl1_len c r
    by_cases hx : x = c
    · subst hx; rw [spl1_eq]; simp only [List.length_cons]; omega
    · obtain ⟨h, t, e⟩ := spl1_ne c r
      rw [spl1_oth hx e]
      rw [e] at ih
      simp only [List.length_cons] at ih ⊢; omega
theorem spl1_mem (c : UInt8) : ∀ (l : Bs), ∀ p ∈ spl1 c l, p.length ≤ l.length
  | [], p, hp => by
    have : p = [] := by simpa [spl1] using hp
    rw [this]; exact Nat.le_refl _
  | x :: r, p, hp => by
    have ih := spl1_mem c r
    by_cases hx : x = c
    · subst hx
      rw [spl1_eq] at hp
      rcases List.mem_cons.1 hp with rfl | h
      · exact Nat.zero_le _
      · have := ih p h; simp only [List.length_cons]; omega
    · obtain ⟨h, t, e⟩ := spl1_ne c r
      rw [spl1_oth hx e] at hp
      rw [e] at ih
      rcases List.mem_cons.1 hp with rfl | h2
      · have := ih h (by simp); simp only [List.length_cons]; omega
      · have := ih p (by simp [h2]); simp only [List.length_cons]; omega
theorem fl_len (ps : List Bs) : (fl ps).length ≤ ps.length := List.length_filter_le ..
theorem fl_app (ps : List Bs) (p : Bs) : fl (ps ++ [p]) = if p = [] then fl ps else fl ps ++ [p] := by
  unfold fl
  rw [List.filter_append]
  by_cases h : p = []
  · rw [if_pos h, List.filter_cons_of_neg (by simp [h])]; simp
  · rw [if_neg h, List.filter_cons_of_pos (by simp [h])]; rfl
def wst (t : Bs) (i : Nat) : WS := (t.take i).foldl wstep ([], [], [])
theorem wst_succ {t : Bs} {i : Nat} (h : i < t.length) : wst t (i + 1) = wstep (wst t i) (t.getD i 0) := by
  unfold wst
  rw [List.take_add_one, List.getElem?_eq_getElem h, Option.toList_some, List.foldl_append, List.getD_eq_getElem?_getD, List.getElem?_eq_getElem h]
  rfl
theorem wst_full (t : Bs) : (wst t t.length).1 = wordsL t := by unfold wst wordsL; rw [List.take_length]
theorem addW_len (row : List Bs) (w : Bs) : (addW row w).length ≤ row.length + 1 := by
  unfold addW
  split
  · omega
  · simp
def wbd (n : Nat) (s : WS) : Prop := s.1.length ≤ n ∧ (s.2.1.length ≤ n ∧ ∀ x ∈ s.2.1, x.length ≤ n) ∧ s.2.2.length ≤ n ∧ ∀ r ∈ s.1, r.length ≤ n ∧ ∀ x ∈ r, x.length ≤ n
theorem addW_mem {row : List Bs} {w : Bs} {n : Nat} (h1 : ∀ x ∈ row, x.length ≤ n) (h2 : w.length ≤ n) : ∀ x ∈ addW row w, x.length ≤ n := by
  intro x hx
  unfold addW at hx
  split at hx
  · exact h1 x hx
  · rcases List.mem_append.1 hx with h | h
    · exact h1 x h
    · rw [List.mem_singleton.1 h]; exact h2
theorem wst_bd (t : Bs) : ∀ i, i ≤ t.length → wbd i (wst t i)
  | 0, _ => ⟨Nat.le_refl _, ⟨Nat.le_refl _, fun x h => by cases h⟩, Nat.le_refl _, fun r h => by cases h⟩
  | i + 1, h => by
    obtain ⟨h1, ⟨h2, h3⟩, h4, h5⟩ := wst_bd t i (by omega)
    rw [wst_succ (by omega)]
    have ha := addW_len (wst t i).2.1 (wst t i).2.2
    have hm := addW_mem h3 h4
    unfold wstep
    split
    · exact ⟨by simp only; omega, ⟨by simp only; omega, fun x hx => Nat.le_succ_of_le (h3 x hx)⟩, by simp only [List.length_append, List.length_singleton]; omega, fun r hr => ⟨Nat.le_succ_of_le (h5 r hr).1, fun x hx => Nat.le_succ_of_le ((h5 r hr).2 x hx)⟩⟩
    · split
      · refine ⟨by simp only [List.length_append, List.length_singleton]; omega, ⟨Nat.zero_le _, fun x hx => by cases hx⟩, Nat.zero_le _, fun r hr => ?_⟩
        rcases List.mem_append.1 hr with h6 | h6
        · exact ⟨Nat.le_succ_of_le (h5 r h6).1, fun x hx => Nat.le_succ_of_le ((h5 r h6).2 x hx)⟩
        · rw [List.mem_singleton.1 h6]
          exact ⟨by omega, fun x hx => Nat.le_succ_of_le (hm x hx)⟩
      · exact ⟨by simp only; omega, ⟨by simp only; omega, fun x hx => Nat.le_succ_of_le (hm x hx)⟩, Nat.zero_le _, fun r hr => ⟨Nat.le_succ_of_le (h5 r hr).1, fun x hx => Nat.le_succ_of_le ((h5 r hr).2 x hx)⟩⟩
theorem words_bd (t : Bs) : (wordsL t).length ≤ t.length ∧ ∀ r ∈ wordsL t, r.length ≤ t.length ∧ ∀ x ∈ r, x.length ≤ t.length := by
  obtain ⟨h1, _, _, h2⟩ := wst_bd t t.length (Nat.le_refl _)
  rw [wst_full] at h1 h2
  exact ⟨h1, h2⟩
theorem getD_bd' {α : Type} {p : α → Prop} {l : List α} {d : α} (hd : p d) (h : ∀ x ∈ l, p x) (i : Nat) : p (l.getD i d) := by
  rw [List.getD_eq_getElem?_getD]
  cases hi : l[i]? with
  | none => exact hd
  | some x => exact h x (List.mem_of_getElem? hi)
def recB (n : Nat) (rs : List (List Bs)) : Prop := rs.length ≤ n ∧ (∀ i, (rs.getD i []).length ≤ n) ∧ ∀ i j, ((rs.getD i []).getD j []).length ≤ n
theorem recB_of {n : Nat} {rs : List (List Bs)} (h1 : rs.length ≤ n) (h2 : ∀ r ∈ rs, r.length ≤ n ∧ ∀ x ∈ r, x.length ≤ n) : recB n rs :=
  ⟨h1, fun i => getD_bd' (p := fun r : List Bs => r.length ≤ n) (Nat.zero_le _) (fun r hr => (h2 r hr).1) i,
    fun i j => getD_bd' (p := fun r : List Bs => (r.getD j []).length ≤ n) (by simp) (fun r hr => getD_bd' (p := fun x : Bs => x.length ≤ n) (Nat.zero_le _) (h2 r hr).2 j) i⟩
theorem recB_words (t : Bs) : recB t.length (wordsL t) := recB_of (words_bd t).1 (words_bd t).2
end Nat32
namespace Go.Dat
open Go
end Go.Dat
namespace Nat32
theorem nv_drop {a : List Nat} {m : Nat} (h : m < a.length) : nv (a.drop m) = a.getD m 0 + 4294967296 * nv (a.drop (m + 1)) := by
  rw [List.drop_eq_getElem_cons h, List.getD_eq_getElem?_getD, List.getElem?_eq_getElem h]; rfl
end Nat32
namespace Nat32
open Go Go.Dat
def hap (o : Nat) : List Nat → Hp
  | [] => []
  | x :: r => [(o, us (x :: r))]
end Nat32
namespace Nat32
theorem nv_split_at (a : List Nat) (k : Nat) (h : k ≤ a.length) : nv a = nv (a.take k) + 4294967296 ^ k * nv (a.drop k) := by
  have := nv_app (a.take k) (a.drop k)
  rw [List.take_append_drop, List.length_take, Nat.min_eq_left h] at this
  exact this
end Nat32
namespace Nat32
open Go Go.Dat
theorem shr2 {x y z k : Nat} (hk : k ≤ 31) : ((4294967296 * y + x) / 2 ^ k) % 4294967296 = ((x + 4294967296 * (y + 4294967296 * z)) / 2 ^ k) % 4294967296 := by
  have e : (x + 4294967296 * (y + 4294967296 * z)) = (4294967296 * y + x) + 2 ^ k * (2 ^ (32 - k) * (4294967296 * z)) := by
    rw [← Nat.mul_assoc, ← Nat.pow_add, show k + (32 - k) = 32 by omega]
    omega
  rw [e, Nat.add_mul_div_left _ _ (Nat.two_pow_pos k), show 2 ^ (32 - k) * (4294967296 * z) = 4294967296 * (2 ^ (32 - k) * z) by rw [← Nat.mul_assoc, Nat.mul_comm (2 ^ (32 - k)), Nat.mul_assoc], Nat.add_mul_mod_self_left]
end Nat32
namespace Nat32
theorem nv_take_lt {a : List Nat} (h : lim a) {n : Nat} (hn : n ≤ a.length) : nv (a.take n) < 4294967296 ^ n := by
  have := nv_lt (lim_take h n)
  rwa [List.length_take, Nat.min_eq_left hn] at this
structure Step (u : List Nat) (V i n : Nat) : Prop where
  eq : nv (u.drop i) = nv ((u.drop i).take (n + 3))
  lt : nv (u.drop i) < 4294967296 * V
  cells : u = u.take i ++ (u.drop i).take (n + 3) ++ u.drop (i + (n + 3))
  slen : ((u.drop i).take (n + 3)).length = n + 3
  g2 : ((u.drop i).take (n + 3)).getD (n + 2) 0 = u.getD (i + n + 2) 0
  g1 : ((u.drop i).take (n + 3)).getD (n + 1) 0 = u.getD (i + n + 1) 0
  g0 : ((u.drop i).take (n + 3)).getD n 0 = u.getD (i + n) 0
  rest : nv (u.drop (i + (n + 3))) = 0
theorem drop_div {u : List Nat} (lu : lim u) (i : Nat) (h : i ≤ u.length) : nv u / 4294967296 ^ i = nv (u.drop i) := by
  have h1 := nv_split_at u i h
  have h2 := nv_take_lt lu h
  rw [h1, Nat.add_mul_div_left _ _ (by omega), Nat.div_eq_of_lt h2, Nat.zero_add]
theorem back {u : List Nat} (lu : lim u) {i k : Nat} (hi : i + 1 < u.length) (hk : k ≤ 31) : (u.getD (i + 1) 0 * 4294967296 + u.getD i 0) / 2 ^ k % 4294967296 = nv u / 2 ^ k / 4294967296 ^ i % 4294967296 := by
  rw [Nat.div_div_eq_div_mul, Nat.mul_comm (2 ^ k), ← Nat.div_div_eq_div_mul, drop_div lu i (by omega), nv_drop (a := u) (m := i) (by omega), nv_drop (a := u) (m := i + 1) (by omega), ← shr2 hk, Nat.mul_comm 4294967296]
end Nat32
namespace Nat32
open Go Go.Dat
def I (z : Int) : DV := .agg [.bool (decide (z < 0)), .sl 1 (us (limbs z.natAbs))]
def X (neg : Bool) (a : List Nat) : DV := .agg [.bool neg, .sl 1 (us a)]
end Nat32
namespace Nat32
open Go Go.Dat Go.RowKit Go.ChangeShapes Go.WideShapes Go.Joins Go.Deep
section
variable {H : Type} {enc : TypeId × Value → H} {P : Program} {w : World} {base : Nat} {spare : Nat → Bool} {held : Bool}
theorem cells1 {a : Addr} {cs : List Value} (h : w.cells? base a 1 = some cs) : ∃ v, cs = [v] ∧ w.cell? a = some v := by
  obtain ⟨h1, h2, h3⟩ := World.cells?_some h
  match cs, h2 with
  | [v], _ =>
    have := h3 0 (by omega)
    exact ⟨v, rfl, by simpa [Addr.add] using this⟩
theorem vi_slice {α : Type} (f : α → DV) (p : α → Prop) {t e : TypeId} (ht : P.underlying t = some (.slice e)) (hc : P.cellsOf e = 1)
    (hel : ∀ n u y, DataW.trod enc P w base spare held n e [u] = some y → ∃ a : α, p a ∧ VI w (fun _ => False) (f a) u) {n : Nat} {u : Value} {y : DataW H × List MemPlace}
    (h : DataW.trod enc P w base spare held n t [u] = some y) : ∃ as : List α, (∀ a ∈ as, p a) ∧ as.length ≤ 9223372036854775807 ∧ VI w (fun _ => False) (.sl 1 (as.map f)) u := by
  rcases DataW.trod_slice ht h with ⟨h0, _⟩ | ⟨a, len, cap, elems, rest, m, _, h0, _, hb, hl, hm, hlen, hcells, _, _⟩
  · simp only [List.cons.injEq, and_true] at h0
    subst h0
    exact ⟨[], (fun a h => by cases h), Nat.zero_le _, .sl0 _ _ _⟩
  · simp only [List.cons.injEq, and_true] at h0
    subst h0
    have each : ∀ i, i < len → ∃ (x : α) (v : Value), p x ∧ w.cell? (a.add i) = some v ∧ VI w (fun _ => False) (f x) v := fun i hi => by
      have h1 := hcells i hi
      rw [hc, Nat.mul_one] at h1
      obtain ⟨z, hz⟩ : ∃ z, elems[i]? = some z := ⟨_, List.getElem?_eq_getElem (by omega)⟩
      rw [hz, Option.bind_eq_some_iff] at h1
      obtain ⟨cs, h2, h3⟩ := h1
      obtain ⟨v, rfl, hv⟩ := cells1 h2
      obtain ⟨x, hx, hvi⟩ := hel _ _ _ h3
      exact ⟨x, v, hx, hv, hvi⟩
    have hk : ∀ n, n ≤ len → ∃ as : List α, as.length = n ∧ (∀ x ∈ as, p x) ∧ ∀ (k : Nat) x, as[k]? = some x → ∃ v, w.cell? (a.add k) = some v ∧ VI w (fun _ => False) (f x) v := by
      intro n
      induction n with
      | zero => intro _; exact ⟨[], rfl, (fun a h => by cases h), fun k x h => by simp at h⟩
      | succ n ih =>
        intro hn
        obtain ⟨as, h1, h2, h3⟩ := ih (by omega)
        obtain ⟨x, v, hx, hv, hvi⟩ := each n (by omega)
        refine ⟨as ++ [x], by simp [h1], fun y hy => ?_, fun k y hy => ?_⟩
        · rcases List.mem_append.1 hy with h | h
          · exact h2 y h
          · rw [List.mem_singleton.1 h]; exact hx
        · rw [List.getElem?_append] at hy
          split at hy
          · exact h3 k y hy
          · rename_i hge
            have hkn : k = n := by
              rcases Nat.lt_or_ge (k - as.length) 1 with h | h
              · omega
              · rw [List.getElem?_eq_none (by simpa using h)] at hy; cases hy
            subst hkn
            rw [h1, Nat.sub_self] at hy
            cases hy
            exact ⟨v, hv, hvi⟩
    obtain ⟨as, h1, h2, h3⟩ := hk len (Nat.le_refl _)
    refine ⟨as, h2, by unfold maxLen at hm; omega, ?_⟩
    by_cases h0 : len = 0
    · have : as = [] := List.eq_nil_of_length_eq_zero (by omega)
      subst this
      subst h0
      exact .sl0 _ _ _
    · obtain ⟨vs, hvs⟩ : ∃ vs : Nat → Value, ∀ k, k < len → w.cell? (a.add k) = some (vs k) := ⟨fun k => (w.cell? (a.add k)).getD undef, fun k hk2 => by
        obtain ⟨_, v, _, hv, _⟩ := each k hk2
        simp [hv]⟩
      refine .sl vs (fun e => ?_) (by rw [List.length_map, h1, Nat.mul_one]) hl (fun h => h) (fun k d hk2 => ?_) (fun k d hk2 => ?_)
      · have := congrArg List.length e
        rw [List.length_map, h1] at this
        exact h0 (by simpa using this)
      · have hlt := (List.getElem?_eq_some_iff.1 hk2).1
        rw [List.length_map, h1] at hlt
        exact hvs k hlt
      · rw [List.getElem?_map, Option.map_eq_some_iff] at hk2
        obtain ⟨x, hx, rfl⟩ := hk2
        obtain ⟨v, hv, hvi⟩ := h3 k x hx
        have hlt := (List.getElem?_eq_some_iff.1 hx).1
        have := hvs k (by omega)
        rw [hv] at this
        cases this
        exact hvi
theorem vi_ints {r : Reach} {b0 : Nat} {t e : TypeId} {v : Value} {d : DataW H} {p : List MemPlace} (ht : P.underlying t = some (.slice e)) (he : P.underlying e = some (.int .i64)) (hc : P.cellsOf e = 1)
    (hv : Value.okWide P w r b0 t v) (h : DataW.Trod enc P w base spare held t v d p) : ∃ l : List Int, l.length ≤ 9223372036854775807 ∧ VI w (fun _ => False) (.sl 1 (l.map (.int .i64))) v := by
  obtain ⟨a, len, cap, rfl⟩ := okWide_slice ht hv
  obtain ⟨fuel, hf⟩ := h
  obtain ⟨l, _, h2, h3⟩ := vi_slice (w := w) (enc := enc) (base := base) (spare := spare) (held := held) (DV.int .i64) (fun _ => True) ht hc (fun n u y hy => by
    obtain ⟨z, hz, _, _⟩ := DataW.trod_int he hy
    simp only [List.cons.injEq, and_true] at hz
    subst hz
    exact ⟨z, trivial, .int _ _⟩) (by simpa [Value.cells] using hf)
  exact ⟨l, h2, h3⟩
theorem vi_str1 {e : TypeId} (he : P.underlying e = some .string) (n : Nat) (u : Value) (y : DataW H × List MemPlace) (hy : DataW.trod enc P w base spare held n e [u] = some y) : ∃ s : Bs, s.length ≤ 9223372036854775807 ∧ VI w (fun _ => False) (.str s) u := by
  obtain ⟨s, hs, _, hl⟩ := DataW.trod_string he hy
  simp only [List.cons.injEq, and_true] at hs
  subst hs
  refine ⟨s.data.toList, by unfold maxLen at hl; simpa using hl, ?_⟩
  have : (Value.string s) = .string ⟨s.data.toList.toArray⟩ := by cases s; simp
  rw [this]
  exact .str _
theorem vi_recs {r : Reach} {b0 : Nat} {t t1 e : TypeId} {v : Value} {d : DataW H} {p : List MemPlace} (ht : P.underlying t = some (.slice t1)) (hc1 : P.cellsOf t1 = 1) (ht1 : P.underlying t1 = some (.slice e)) (he : P.underlying e = some .string) (hc : P.cellsOf e = 1)
    (hv : Value.okWide P w r b0 t v) (h : DataW.Trod enc P w base spare held t v d p) : ∃ rs : List (List Bs), recB 9223372036854775807 rs ∧ VI w (fun _ => False) (.sl 1 (recD rs)) v := by
  obtain ⟨a, len, cap, rfl⟩ := okWide_slice ht hv
  obtain ⟨fuel, hf⟩ := h
  obtain ⟨rs, h1, h2, h3⟩ := vi_slice (w := w) (enc := enc) (base := base) (spare := spare) (held := held) (fun r : List Bs => DV.sl 1 (strL r)) (fun r => r.length ≤ 9223372036854775807 ∧ ∀ x ∈ r, x.length ≤ 9223372036854775807) ht hc1 (fun n u y hy => by
    obtain ⟨ss, g1, g2, g3⟩ := vi_slice (w := w) (enc := enc) (base := base) (spare := spare) (held := held) DV.str (fun s : Bs => s.length ≤ 9223372036854775807) ht1 hc (fun n u y hy => vi_str1 he n u y hy) hy
    exact ⟨ss, ⟨g2, g1⟩, g3⟩) (by simpa [Value.cells] using hf)
  exact ⟨rs, recB_of h2 h1, h3⟩
theorem vi_text {r : Reach} {b0 : Nat} {t : TypeId} {v : Value} {d : DataW H} {p : List MemPlace} (ht : P.underlying t = some .string)
    (hv : Value.okWide P w r b0 t v) (h : DataW.Trod enc P w base spare held t v d p) : ∃ s : Bs, s.length ≤ 9223372036854775807 ∧ VI w (fun _ => False) (.str s) v := by
  obtain ⟨s, rfl, rfl, rfl, hs⟩ := Go.ChangeMaps.open_string ht hv h
  refine ⟨s.data.toList, by unfold maxLen at hs; simpa using hs, ?_⟩
  have : (Value.string s) = .string ⟨s.data.toList.toArray⟩ := by cases s; simp
  rw [this]
  exact .str _
end
end Nat32
