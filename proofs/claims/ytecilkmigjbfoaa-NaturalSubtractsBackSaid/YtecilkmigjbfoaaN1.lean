/- Natural numbers by limbs: plain laws, no program in sight. -/
set_option linter.unusedSimpArgs false
set_option linter.unusedVariables false
namespace Nat32
def B : Nat := 4294967296
def nv : List Nat → Nat
  | [] => 0
  | x :: r => x + 4294967296 * nv r
def limbs (n : Nat) : List Nat := if h : n = 0 then [] else (n % 4294967296) :: limbs (n / 4294967296)
termination_by n
decreasing_by omega
def lim (a : List Nat) : Prop := ∀ x ∈ a, x < 4294967296
def vld (a : List Nat) : Bool := decide (a.length = 0 ∨ a.getD (a.length - 1) 0 ≠ 0)
def val (a : List Nat) : List Nat := if vld a then a else []
def trimN (a : List Nat) : Nat → Nat
  | 0 => 0
  | n + 1 => if a.getD n 0 = 0 then trimN a n else n + 1
def trimL (a : List Nat) : List Nat := a.take (trimN a a.length)

theorem limbs_zero : limbs 0 = [] := by rw [limbs]; simp
theorem limbs_pos {n : Nat} (h : n ≠ 0) : limbs n = (n % 4294967296) :: limbs (n / 4294967296) := by rw [limbs]; simp [h]
theorem limbs_eq_nil {n : Nat} : limbs n = [] ↔ n = 0 := by
  constructor
  · intro h; rcases Nat.eq_zero_or_pos n with e | e
    · exact e
    · rw [limbs_pos (by omega)] at h; cases h
  · rintro rfl; exact limbs_zero
theorem nv_limbs (n : Nat) : nv (limbs n) = n := by
  induction n using Nat.strongRecOn with
  | _ n ih =>
    by_cases h : n = 0
    · subst h; rw [limbs_zero]; rfl
    · rw [limbs_pos h, nv, ih _ (by omega)]; omega
theorem lim_limbs (n : Nat) : lim (limbs n) := by
  induction n using Nat.strongRecOn with
  | _ n ih =>
    by_cases h : n = 0
    · subst h; rw [limbs_zero]; intro x hx; cases hx
    · rw [limbs_pos h]
      intro x hx
      rcases List.mem_cons.1 hx with e | e
      · subst e; omega
      · exact ih _ (by omega) x e
theorem lim_nil : lim [] := by intro x hx; cases hx
theorem lim_cons {x : Nat} {r : List Nat} : lim (x :: r) ↔ x < 4294967296 ∧ lim r := by
  constructor
  · intro h; exact ⟨h x (by simp), fun y hy => h y (by simp [hy])⟩
  · rintro ⟨h1, h2⟩ y hy
    rcases List.mem_cons.1 hy with e | e
    · subst e; exact h1
    · exact h2 y e
theorem lim_take {a : List Nat} (h : lim a) (n : Nat) : lim (a.take n) := fun x hx => h x (List.mem_of_mem_take hx)
theorem lim_getD {a : List Nat} (h : lim a) (k : Nat) : a.getD k 0 < 4294967296 := by
  rw [List.getD_eq_getElem?_getD]
  cases e : a[k]? with
  | none => simp
  | some x => exact h x (List.mem_of_getElem? e)

theorem vld_nil : vld [] = true := rfl
theorem vld_cons {x y : Nat} {r : List Nat} : vld (x :: y :: r) = vld (y :: r) := by
  unfold vld
  simp [List.getD_eq_getElem?_getD]
theorem limbs_nv {a : List Nat} (hl : lim a) (hv : vld a = true) : limbs (nv a) = a := by
  induction a with
  | nil => exact limbs_zero
  | cons x r ih =>
    obtain ⟨hx, hr⟩ := lim_cons.1 hl
    cases r with
    | nil =>
      have : x ≠ 0 := by simpa [vld] using hv
      simp only [nv, Nat.mul_zero, Nat.add_zero]
      rw [limbs_pos this, Nat.mod_eq_of_lt hx, Nat.div_eq_of_lt hx, limbs_zero]
    | cons y r =>
      rw [vld_cons] at hv
      have h := ih hr hv
      have hne : nv (y :: r) ≠ 0 := by
        intro e; rw [e, limbs_zero] at h; cases h
      rw [nv, limbs_pos (by omega)]
      have e1 : (x + 4294967296 * nv (y :: r)) % 4294967296 = x := by omega
      have e2 : (x + 4294967296 * nv (y :: r)) / 4294967296 = nv (y :: r) := by omega
      rw [e1, e2, h]
theorem nv_app (a b : List Nat) : nv (a ++ b) = nv a + 4294967296 ^ a.length * nv b := by
  induction a with
  | nil => simp [nv]
  | cons x a ih =>
    simp only [List.cons_append, nv, ih, List.length_cons, Nat.pow_succ, Nat.mul_add]
    rw [← Nat.mul_assoc, Nat.mul_comm (4294967296 ^ a.length) 4294967296]
    omega
theorem take_succ_getD {a : List Nat} {n : Nat} (h : n < a.length) : a.take (n + 1) = a.take n ++ [a.getD n 0] := by
  rw [List.take_succ_eq_append_getElem h, List.getD_eq_getElem?_getD, List.getElem?_eq_getElem h]; rfl
theorem nv_take_succ {a : List Nat} {n : Nat} (h : n < a.length) : nv (a.take (n + 1)) = nv (a.take n) + 4294967296 ^ n * a.getD n 0 := by
  rw [take_succ_getD h, nv_app]
  rw [List.length_take, Nat.min_eq_left (by omega)]; simp [nv]
theorem trimN_le (a : List Nat) : ∀ n, trimN a n ≤ n
  | 0 => Nat.le_refl _
  | n + 1 => by
    have := trimN_le a n
    simp only [trimN]; split <;> omega
theorem trimN_spec (a : List Nat) : ∀ n, n ≤ a.length → nv (a.take (trimN a n)) = nv (a.take n) ∧ vld (a.take (trimN a n)) = true
  | 0, _ => by simp [trimN, nv, vld]
  | n + 1, h => by
    simp only [trimN]
    split
    · rename_i h0
      obtain ⟨h1, h2⟩ := trimN_spec a n (by omega)
      refine ⟨?_, h2⟩
      rw [h1, nv_take_succ (by omega), h0]; omega
    · rename_i h0
      refine ⟨rfl, ?_⟩
      unfold vld
      rw [take_succ_getD (by omega)]
      simp only [decide_eq_true_eq]
      right
      have hl : (a.take n).length = n := by simp; omega
      simp only [List.length_append, hl, List.length_singleton, Nat.add_sub_cancel]
      rw [List.getD_eq_getElem?_getD, List.getElem?_append_right (by omega), hl]
      simpa using h0
theorem trimL_limbs {a : List Nat} (hl : lim a) : trimL a = limbs (nv a) := by
  obtain ⟨h1, h2⟩ := trimN_spec a a.length (Nat.le_refl _)
  rw [List.take_length] at h1
  have := limbs_nv (lim_take hl (trimN a a.length)) h2
  rw [h1] at this
  exact this.symm
theorem lim_val {a : List Nat} (h : lim a) : lim (val a) := by unfold val; split; exact h; exact lim_nil
theorem vld_val (a : List Nat) : vld (val a) = true := by
  unfold val
  by_cases h : vld a = true
  · rw [if_pos h]; exact h
  · rw [if_neg h]; rfl
/-- The number that a list of limbs means. -/
def vn (a : List Nat) : Nat := nv (val a)
theorem val_limbs {a : List Nat} (h : lim a) : val a = limbs (vn a) := (limbs_nv (lim_val h) (vld_val a)).symm
theorem val_len (a : List Nat) : (val a).length ≤ a.length := by unfold val; split <;> simp
theorem vld_limbs (n : Nat) : vld (limbs n) = true := by
  have : ∀ n, ∀ k, k ≤ n → vld (limbs k) = true := by
    intro n
    induction n with
    | zero => intro k hk; have : k = 0 := by omega
              subst this; rw [limbs_zero]; rfl
    | succ n ih =>
      intro k hk
      by_cases h : k = 0
      · subst h; rw [limbs_zero]; rfl
      · rw [limbs_pos h]
        by_cases h2 : k / 4294967296 = 0
        · rw [h2, limbs_zero]
          have : k % 4294967296 ≠ 0 := by omega
          simp [vld, this]
        · have := ih (k / 4294967296) (by omega)
          rw [limbs_pos h2] at this ⊢
          rw [vld_cons]; exact this
  exact this n n (Nat.le_refl _)
theorem vn_limbs (n : Nat) : vn (limbs n) = n := by rw [vn, val, vld_limbs, if_pos rfl, nv_limbs]
theorem limbs_inj {m n : Nat} (h : limbs m = limbs n) : m = n := by rw [← nv_limbs m, h, nv_limbs]
theorem nv_lt {a : List Nat} (h : lim a) : nv a < 4294967296 ^ a.length := by
  induction a with
  | nil => simp [nv]
  | cons x r ih =>
    obtain ⟨hx, hr⟩ := lim_cons.1 h
    have := ih hr
    simp only [nv, List.length_cons, Nat.pow_succ]
    omega
theorem limbs_len {n k : Nat} : (limbs n).length ≤ k ↔ n < 4294967296 ^ k := by
  constructor
  · intro h
    have := nv_lt (lim_limbs n)
    rw [nv_limbs] at this
    exact Nat.lt_of_lt_of_le this (Nat.pow_le_pow_right (by decide) h)
  · intro h
    induction k generalizing n with
    | zero => have : n = 0 := by simpa using h
              subst this; rw [limbs_zero]; simp
    | succ k ih =>
      by_cases h0 : n = 0
      · subst h0; rw [limbs_zero]; simp
      · rw [limbs_pos h0]
        have := ih (n := n / 4294967296) (by rw [Nat.div_lt_iff_lt_mul (by decide), ← Nat.pow_succ]; exact h)
        simp only [List.length_cons]; omega
end Nat32
