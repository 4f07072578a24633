/- Each operation of the model does what 'opE' says (3): slices made, cut, appended to; literals. Over any program. -/
import Derived.Test.YtecilkmigjbfoaaDat5
set_option linter.unusedSimpArgs false
set_option linter.unusedVariables false
namespace Go.Dat
open Go

section
variable {P : Program} {G : Cx} {L : Nat → Option Nat} {σ : Nat → DV} {h : Heap} {a : Act} {w : World} {vs own : List Nat} {ε : Opd → DV}
variable (nb : Nat) {d : DV} {ef : Eff} {dst : Option Nat} {ty : TypeId} {pos : String} {after : Array Edge} {guard : Option (Nat × Bool)}

theorem flat_rep_get {α : Type} (z : List α) (hz : z ≠ []) : ∀ (l k : Nat) (x : α), (List.replicate l z).flatten[k]? = some x → z[k % z.length]? = some x
  | 0, k, x, hk => by simp at hk
  | l + 1, k, x, hk => by
    rw [List.replicate_succ, List.flatten_cons, List.getElem?_append] at hk
    split at hk
    · rename_i hlt; rwa [Nat.mod_eq_of_lt hlt]
    · rename_i hge
      have := flat_rep_get z hz l _ x hk
      rwa [← Nat.mod_eq_sub_mod (by omega)] at this
theorem rep_get {z : List DV} (hz : z ≠ []) {l k : Nat} {x : DV} (hk : (rep l z)[k]? = some x) : z[k % z.length]? = some x := by
  unfold rep at hk
  split at hk
  · rename_i z0
    rw [List.getElem?_replicate] at hk
    split at hk
    · cases hk; simp [Nat.mod_one]
    · cases hk
  · exact flat_rep_get z hz l k x hk
theorem rep_length (l : Nat) (z : List DV) : (rep l z).length = l * z.length := by
  unfold rep
  split
  · simp
  · simp

theorem shape_new (w : World) (cs : Array Value) (T : TypeId) : (w.alloc (.cells cs T)).shape? w.heap.size = some (T, cs.size) := by
  simp only [World.shape?]
  rw [heap_alloc_new w (.cells cs T)]

theorem snd_mks (hE : EV vs ε w L (Av G.S L) a) (hR : R G L σ h a w) (t e : TypeId) (x y : Operand) {i : TypeInfo} {z : List DV} (ht : P.underlying t = some (.slice e)) (hi : P.info? e = some i) (hz : tZero P e = some z)
    (h0 : i.size ≠ 0) (hb0 : i.bytes ≠ 0) (hzl : z.length = i.size) (he : opE nb dst (ε) h (.mks i.size i.bytes z (sOpd vs x) (sOpd vs y)) = some (d, ef)) :
    Snd P G σ h a w ⟨dst, .makeSlice t x y, ty, pos, after, guard⟩ d ef := by
  simp only [opE] at he
  have hx := hE x
  have hy := hE y
  split at he
  · rename_i k p j q hp hq
    obtain ⟨⟨g1, g2, g3⟩, he⟩ := gd_some he
    rw [Option.map_eq_some_iff] at he
    obtain ⟨id, hid, he⟩ := he
    cases he
    rw [hp] at hx
    rw [hq] at hy
    have e1 := hx.inv_int
    have e2 := hy.inv_int
    simp only [tZero, Option.map_eq_some_iff, Option.bind_eq_some_iff] at hz
    obtain ⟨zv, ⟨i', hi', hzi⟩, rfl⟩ := hz
    rw [hi] at hi'; cases hi'
    have hq63 : q ≤ 9223372036854775807 := by
      have h1 : q * 1 ≤ q * (i.bytes : Int) := Int.mul_le_mul_of_nonneg_left (by omega) (by omega)
      omega
    have hrun := run_make (P := P) w t e i zv ht hi hzi k j p q g1 g2 (by rw [Int.mul_comm]; exact g3) hq63
    have hzs : zv.cells.size = i.size := by simpa using hzl
    have hpq : p.toNat ≤ q.toNat := by omega
    refine Snd.new (T := e) (cs := madeCells zv.cells (q.toNat * i.size)) (v := .slice (some ⟨w.heap.size, 0, none⟩) p.toNat q.toNat) hR (freshE_some hid) ?_ ?_ (by simp [execOp, e1, e2, hrun])
      (.osl (c := q.toNat) (by simp [updL]) hpq (shape_new _ _ _) (by simp [size_madeCells]))
    · rw [rep_length, hzl, size_madeCells]
      exact Nat.mul_le_mul_right _ hpq
    · intro k dd v h1 h2
      have h3 := rep_get (by intro e0; rw [e0] at hzl; simp at hzl; omega) h1
      simp only [List.getElem?_map, Option.map_eq_some_iff, List.length_map, Array.length_toList] at h3
      obtain ⟨u, hu, rfl⟩ := h3
      have : v = u := by
        simp only [madeCells, Array.getElem?_map] at h2
        rw [Option.map_eq_some_iff] at h2
        obtain ⟨k', hk', rfl⟩ := h2
        have hkk : k' = k := by
          have := Array.getElem?_eq_some_iff.1 hk'
          obtain ⟨h4, h5⟩ := this
          simpa using h5.symm
        subst hkk
        have hu' : zv.cells[k' % zv.cells.size]? = some u := by simpa using hu
        simp [getElem!_def, hu']
      subst this
      exact .imm (cv1_VI _ _ _)
  · cases he

/-! ### Cuts -/
theorem boundV (hE : EV vs ε w L (Av G.S L) a) (hR : R G L σ h a w) {n dflt b : Nat} (x : Option Operand) (he : boundE (ε) n (x.map (sOpd vs)) dflt = some b) :
    (x.map a.eval = none ∧ b = dflt) ∨ ∃ k i, x.map a.eval = some (.int k i) ∧ 0 ≤ i ∧ i ≤ (n : Int) ∧ b = i.toNat := by
  cases x with
  | none => simp only [Option.map_none, boundE, Option.some.injEq] at he; exact .inl ⟨rfl, he.symm⟩
  | some x =>
    simp only [Option.map_some, boundE] at he
    have hx := hE x
    split at he
    · rename_i k i hp
      obtain ⟨⟨g1, g2⟩, he⟩ := gd_some he
      cases he
      rw [hp] at hx
      exact .inr ⟨k, i, by simp [hx.inv_int], g1, g2, rfl⟩
    · cases he

theorem run_bounds (P : Program) (w : World) (isS : Bool) (len cap : Nat) (lo hi : Option Value) {l b : Nat}
    (hb : (hi = none ∧ b = len) ∨ ∃ k i, hi = some (.int k i) ∧ 0 ≤ i ∧ i ≤ (cap : Int) ∧ b = i.toNat)
    (hl : (lo = none ∧ l = 0) ∨ ∃ k i, lo = some (.int k i) ∧ 0 ≤ i ∧ i ≤ (b : Int) ∧ l = i.toNat) :
    (Instr.sliceBounds isS len cap lo hi none).run P w = .ok (l, b, cap) w := by
  rcases hb with ⟨rfl, rfl⟩ | ⟨k, i, rfl, h1, h2, rfl⟩ <;> rcases hl with ⟨rfl, rfl⟩ | ⟨k', j, rfl, h3, h4, rfl⟩
  · simp [Instr.sliceBounds]
  · simp [Instr.sliceBounds, run_sliceBound w k' j _ _ h3 h4]
  · simp [Instr.sliceBounds, run_sliceBound w k i _ _ h1 h2]
  · simp [Instr.sliceBounds, run_sliceBound w k i _ _ h1 h2, run_sliceBound w k' j _ _ h3 h4]

theorem boundE_le {e : Opd → DV} {n dflt b : Nat} {x : Option Opd} (he : boundE e n x dflt = some b) (hd : dflt ≤ n) : b ≤ n := by
  unfold boundE at he
  split at he
  · cases he; exact hd
  · split at he
    · obtain ⟨⟨g1, g2⟩, he⟩ := gd_some he
      cases he; omega
    · cases he

theorem snd_slc (hE : EV vs ε w L (Av G.S L) a) (hR : R G L σ h a w) (t e : TypeId) (x : Operand) (lo hi : Option Operand) {n : Nat} (ht : P.underlying t = some (.slice e)) (hn : tSize P e = some n) (hn0 : n ≠ 0)
    (he : opE nb dst (ε) h (.slc n (sOpd vs x) (lo.map (sOpd vs)) (hi.map (sOpd vs))) = some (d, ef)) :
    Snd P G σ h a w ⟨dst, .slice t x lo hi none, ty, pos, after, guard⟩ d ef := by
  simp only [tSize, Option.map_eq_some_iff] at hn
  obtain ⟨inf, hinf, rfl⟩ := hn
  simp only [opE] at he
  have hx := hE x
  have hrun : ∀ (A : Option Addr) (len cap l b : Nat), a.eval x = .slice A len cap → (Instr.sliceBounds true len cap (lo.map a.eval) (hi.map a.eval) none).run P w = .ok (l, b, cap) w →
      (execOp a.eval ⟨dst, .slice t x lo hi none, ty, pos, after, guard⟩).run P w = .ok (.value (.slice (if cap = l then A else A.map (·.add (l * inf.size))) (b - l) (cap - l))) w := by
    intro A len cap l b e1 hb
    simp [execOp, Instr.sliceAt, Instr.slice, run_underlying ht, e1, hb, sizeOf, typeInfo, hinf]
  split at he
  · rename_i s xs hp
    obtain ⟨hgd, he'⟩ := gd_some he
    clear he
    obtain rfl := hgd
    simp only [Option.bind_eq_some_iff, Option.map_eq_some_iff] at he'
    obtain ⟨b, hb, l, hl, he'⟩ := he'
    cases he'
    rw [hp] at hx
    have hbl := boundE_le hb (Nat.le_refl _)
    have hll := boundE_le hl (Nat.zero_le _)
    have hlV := boundV (vs := vs) hE hR lo hl
    rcases hx.inv_sl with ⟨rfl, A, c, e1⟩ | ⟨hx0, ad, len, c, us, e1, hlen, hc, hA, hcell, hv⟩
    · have hb0 : b = 0 := by simpa [cnt] using hbl
      have hl0 : l = 0 := by omega
      have hbV := boundV (vs := vs) hE hR hi hb
      subst hb0; subst hl0
      refine Snd.val hR (hrun A 0 c 0 0 e1 (run_bounds P w true 0 c _ _ ?_ ?_)) ?_
      · rcases hbV with ⟨h1, h2⟩ | ⟨k, i, h1, h2, h3, h4⟩
        · exact .inl ⟨h1, rfl⟩
        · exact .inr ⟨k, i, h1, h2, by omega, h4⟩
      · exact hlV
      · simpa using V.imm (L := L) (VI.sl0 (w := w) (A := Av G.S L) inf.size _ _)
    · have hcn := cnt_of hlen hn0
      rw [hcn] at hb hbl
      have hbV := boundV (vs := vs) hE hR hi hb
      refine Snd.val hR (hrun (some ad) len c l b e1 (run_bounds P w true len c _ _ ?_ hlV)) ?_
      · rcases hbV with ⟨h1, h2⟩ | ⟨k, i, h1, h2, h3, h4⟩
        · exact .inl ⟨h1, h2⟩
        · exact .inr ⟨k, i, h1, h2, by omega, h4⟩
      · by_cases hlb : l = b
        · subst hlb
          have : (xs.take (l * inf.size)).drop (l * inf.size) = [] := List.drop_eq_nil_of_le (by simp; omega)
          rw [this, Nat.sub_self]
          exact .imm (.sl0 _ _ _)
        · have hlt : l < b := by omega
          rw [if_neg (by omega)]
          have hbs : b * inf.size ≤ xs.length := by rw [hlen]; exact Nat.mul_le_mul_right _ hbl
          have hget : ∀ k dd, ((xs.take (b * inf.size)).drop (l * inf.size))[k]? = some dd → xs[l * inf.size + k]? = some dd := by
            intro k dd hk
            rw [List.getElem?_drop, List.getElem?_take] at hk
            split at hk
            · exact hk
            · cases hk
          have hls : l * inf.size < b * inf.size := Nat.mul_lt_mul_of_pos_right hlt (Nat.pos_of_ne_zero hn0)
          refine .imm (.sl (ad := ad.add (l * inf.size)) (fun k => us (l * inf.size + k)) ?_ ?_ (by omega) (by rw [add_block]; exact hA) (fun k dd hk => ?_) (fun k dd hk => hv _ dd (hget k dd hk)))
          · intro e0
            have := congrArg List.length e0
            simp at this
            omega
          · simp only [List.length_drop, List.length_take, Nat.sub_mul]
            omega
          · rw [add_add]; exact hcell _ dd (hget k dd hk)
  · rename_i s o off len hp
    obtain ⟨hgd, he'⟩ := gd_some he
    clear he
    obtain rfl := hgd
    simp only [Option.bind_eq_some_iff] at he'
    obtain ⟨b, hb, l, hl, he'⟩ := he'
    obtain ⟨hlt, he'⟩ := gd_some he'
    cases he'
    rw [hp] at hx
    have hbl := boundE_le hb (Nat.le_refl _)
    have hlV := boundV (vs := vs) hE hR lo hl
    have hbV := boundV (vs := vs) hE hR hi hb
    rcases hx.inv_osl with ⟨bk, c, T, m, hL, e1, hc, hs, hm⟩ | ⟨rfl, _⟩
    · refine Snd.val hR (hrun (some ⟨bk, off, none⟩) len c l b e1 (run_bounds P w true len c _ _ ?_ hlV)) ?_
      · rcases hbV with ⟨h1, h2⟩ | ⟨k, i, h1, h2, h3, h4⟩
        · exact .inl ⟨h1, h2⟩
        · exact .inr ⟨k, i, h1, h2, by omega, h4⟩
      · rw [if_neg (by omega)]
        simp only [Option.map_some, add_lit]
        refine .osl hL (by omega) hs ?_
        rw [Nat.sub_mul]
        have : l * inf.size ≤ c * inf.size := Nat.mul_le_mul_right _ (by omega)
        omega
    · omega
  · rename_i hp
    simp only [Option.bind_eq_some_iff, Option.map_eq_some_iff] at he
    obtain ⟨b, hb, l, hl, he⟩ := he
    cases he
    rw [hp] at hx
    have e1 := hx.inv_nils
    have hbl := boundE_le hb (Nat.le_refl _)
    have hll := boundE_le hl (Nat.zero_le _)
    have hlV := boundV (vs := vs) hE hR lo hl
    have hbV := boundV (vs := vs) hE hR hi hb
    have hb0 : b = 0 := by omega
    have hl0 : l = 0 := by omega
    subst hb0; subst hl0
    refine Snd.val hR (hrun none 0 0 0 0 e1 (run_bounds P w true 0 0 _ _ hbV hlV)) ?_
    simpa using V.imm (L := L) (VI.nils (w := w) (A := Av G.S L))
  · cases he

theorem extract_str (l : List UInt8) (i j : Nat) : (⟨l.toArray⟩ : ByteArray).extract i j = ⟨((l.take j).drop i).toArray⟩ := by
  apply ByteArray.ext
  rw [ByteArray.data_extract]
  apply Array.ext'
  simp [List.drop_take]

theorem snd_slcS (hE : EV vs ε w L (Av G.S L) a) (hR : R G L σ h a w) (t : TypeId) (x : Operand) (lo hi : Option Operand) (ht : P.underlying t = some .string)
    (he : opE nb dst (ε) h (.slcS (sOpd vs x) (lo.map (sOpd vs)) (hi.map (sOpd vs))) = some (d, ef)) :
    Snd P G σ h a w ⟨dst, .slice t x lo hi none, ty, pos, after, guard⟩ d ef := by
  simp only [opE] at he
  have hx := hE x
  split at he
  · rename_i s hp
    simp only [Option.bind_eq_some_iff, Option.map_eq_some_iff] at he
    obtain ⟨b, hb, l, hl, he⟩ := he
    cases he
    rw [hp] at hx
    have e1 := hx.inv_str
    have hlV := boundV (vs := vs) hE hR lo hl
    have hbV := boundV (vs := vs) hE hR hi hb
    have hsz : (⟨s.toArray⟩ : ByteArray).size = s.length := rfl
    have hbd := run_bounds P w false s.length s.length (lo.map a.eval) (hi.map a.eval) hbV hlV
    refine Snd.val hR (v := .string ⟨((s.take b).drop l).toArray⟩) ?_ (.imm (.str _))
    simp [execOp, Instr.sliceAt, Instr.slice, run_underlying ht, e1, hsz, hbd, extract_str]
  · cases he
end
end Go.Dat
