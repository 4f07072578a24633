/- Each operation of the model does what 'opE' says (4): literals, bytes and strings, append. Over any program. -/
import Derived.Test.YtecilkmigjbfoaaDat6
import Derived.Laws.IdiomStrings
import Derived.Laws.BytesArg
set_option linter.unusedSimpArgs false
set_option linter.unusedVariables false
namespace Go.Dat
open Go

theorem foldl_set (off : Nat) : ∀ (l : List Value) (j : Nat) (cells : Array Value), off + j + l.length ≤ cells.size →
    ((l.zipIdx j).foldl (fun cs p => cs.setIfInBounds (off + p.2) p.1) cells).size = cells.size ∧
    ∀ k, ((l.zipIdx j).foldl (fun cs p => cs.setIfInBounds (off + p.2) p.1) cells)[k]? = if off + j ≤ k ∧ k < off + j + l.length then l[k - (off + j)]? else cells[k]?
  | [], j, cells, _ => ⟨rfl, fun k => by rw [if_neg (by simp)]; simp⟩
  | x :: l, j, cells, hb => by
    simp only [List.length_cons] at hb
    obtain ⟨h1, h2⟩ := foldl_set off l (j + 1) (cells.setIfInBounds (off + j) x) (by simp; omega)
    simp only [List.zipIdx_cons, List.foldl_cons]
    refine ⟨by rw [h1]; simp, fun k => ?_⟩
    rw [h2 k]
    simp only [List.length_cons]
    by_cases e : k = off + j
    · subst e
      rw [if_neg (by omega), if_pos (by omega), Array.getElem?_setIfInBounds]
      simp
      omega
    · by_cases hk : off + (j + 1) ≤ k ∧ k < off + (j + 1) + l.length
      · rw [if_pos hk, if_pos (by omega)]
        have : k - (off + j) = (k - (off + (j + 1))) + 1 := by omega
        rw [this, List.getElem?_cons_succ]
      · rw [if_neg hk, if_neg (by omega), Array.getElem?_setIfInBounds, if_neg (by omega)]

theorem laid_splice {cells cs : List DV} {off n : Nat} (hl : cs.length = n) (hb : off + n ≤ cells.length) :
    spl cells off n cs = cells.take off ++ cs ++ cells.drop (off + n) := by
  unfold spl
  split
  · subst hl
    rw [List.set_eq_take_append_cons_drop, if_pos (by simp at hb; omega)]
    simp
  · rfl

section
variable {P : Program} {G : Cx} {L : Nat → Option Nat} {σ : Nat → DV} {h : Heap} {a : Act} {w : World} {vs own : List Nat} {ε : Opd → DV}
variable (nb : Nat) {d : DV} {ef : Eff} {dst : Option Nat} {ty : TypeId} {pos : String} {after : Array Edge} {guard : Option (Nat × Bool)}

theorem fill_laid (hE : EV vs ε w L (Av G.S L) a) (hR : R G L σ h a w) (place : Nat → Option (Nat × Nat)) : ∀ (ps : List (Nat × Operand)) (qs : List (Nat × Nat × Opd)) (dc dr : List DV) (cells : Array Value),
    sParts vs place ps = some qs → laid dc (qs.map fun p => (p.1, p.2.1, ε p.2.2)) = some dr → cells.size = dc.length →
    (∀ (k : Nat) d v, dc[k]? = some d → cells[k]? = some v → V w L (Av G.S L) d v) →
    ∃ res, Instr.fill place cells (ps.map fun p => (p.1, a.eval p.2)) = some res ∧ res.size = dr.length ∧ ∀ (k : Nat) d v, dr[k]? = some d → res[k]? = some v → V w L (Av G.S L) d v
  | [], qs, dc, dr, cells, hq, hl, hs, hV => by
    simp only [sParts, Option.some.injEq] at hq
    subst hq
    simp only [List.map_nil, laid, Option.some.injEq] at hl
    subst hl
    exact ⟨cells, rfl, hs, hV⟩
  | (i, x) :: ps, qs, dc, dr, cells, hq, hl, hs, hV => by
    simp only [sParts, Option.bind_eq_some_iff, Option.map_eq_some_iff] at hq
    obtain ⟨⟨off, n⟩, hp, qs', hq', rfl⟩ := hq
    simp only [List.map_cons, laid, Option.bind_eq_some_iff] at hl
    obtain ⟨cs, hcs, hl⟩ := hl
    split at hl
    · rename_i hc
      obtain ⟨hcn, hfit⟩ := hc
      rw [laid_splice hcn hfit] at hl
      obtain ⟨v1, v2, v3⟩ := (hE x).cells hcs
      have hsz : (a.eval x).cells.toList.length = n := by simp; omega
      obtain ⟨f1, f2⟩ := foldl_set off (a.eval x).cells.toList 0 cells (by rw [hsz]; omega)
      obtain ⟨res, h1, h2, h3⟩ := fill_laid hE hR place ps qs' _ dr (((a.eval x).cells.toList.zipIdx 0).foldl (fun cs p => cs.setIfInBounds (off + p.2) p.1) cells) hq' hl
        (by rw [f1, hs]; simp; omega) (fun k dd v hk1 hk2 => by
          rw [f2 k, hsz] at hk2
          rcases splice_get (cur := cells.toList) (us := (a.eval x).cells.toList) (k := k) (y := v) hfit (by simp; omega) hcn hsz hk1 (by
            rw [List.getElem?_append, List.getElem?_append]
            simp only [List.length_append, List.length_take, Array.length_toList]
            rw [show min off cells.size = off by omega]
            simp only [Array.length_toList] at hsz
            rw [hsz]
            by_cases e1 : k < off + n
            · rw [if_pos e1]
              by_cases e2 : k < off
              · rw [if_pos e2, List.getElem?_take, if_pos e2]
                rw [if_neg (by omega)] at hk2
                simpa using hk2
              · rw [if_neg e2]
                rw [if_pos (by omega)] at hk2
                simpa using hk2
            · rw [if_neg e1, List.getElem?_drop, show off + n + (k - (off + n)) = k by omega]
              rw [if_neg (by omega)] at hk2
              simpa using hk2) with ⟨e1, e2⟩ | ⟨e1, e2⟩
          · exact hV k dd v e1 (by simpa using e2)
          · exact v2 _ dd v e1 (by simpa using e2))
      refine ⟨res, ?_, h2, h3⟩
      simp only [List.map_cons, Instr.fill, hp]
      rw [if_neg (by simp; omega)]
      rw [← Array.foldl_toList, Array.toList_zipIdx]
      exact h1
    · cases hl

theorem snd_build (hE : EV vs ε w L (Av G.S L) a) (hR : R G L σ h a w) (t : TypeId) (ps : Array (Nat × Operand)) {place : Nat → Option (Nat × Nat)} {z : List DV} {qs : List (Nat × Nat × Opd)}
    (hz : tZero P t = some z) (hq : sParts vs place ps.toList = some qs)
    (hb : ∀ (zv : Value) (i : TypeInfo) (parts : List (Nat × Value)), P.info? t = some i → i.zero = some zv → P.built t parts = Instr.fill place zv.cells parts)
    (he : opE nb dst (ε) h (.build z qs) = some (d, ef)) : Snd P G σ h a w ⟨dst, .build t ps, ty, pos, after, guard⟩ d ef := by
  simp only [opE, Option.map_eq_some_iff] at he
  obtain ⟨cs, hcs, he⟩ := he
  cases he
  simp only [tZero, Option.map_eq_some_iff, Option.bind_eq_some_iff] at hz
  obtain ⟨zv, ⟨i, hi, hzi⟩, rfl⟩ := hz
  obtain ⟨res, h1, h2, h3⟩ := fill_laid hE hR place ps.toList qs _ cs zv.cells hq hcs (by simp) (fun k dd v h1 h2 => by
    simp only [List.getElem?_map, Array.getElem?_toList, h2, Option.map_some, Option.some.injEq] at h1
    rw [← h1]
    exact .imm (cv1_VI _ _ _))
  have hrun := run_build (P := P) w t (ps.map fun p => (p.1, a.eval p.2)) res (by
    rw [hb zv i _ hi hzi]; simpa using h1)
  exact Snd.val hR (v := .agg res) (by
    have : (execOp a.eval ⟨dst, .build t ps, ty, pos, after, guard⟩) = (do pure (.value (← Instr.build t (ps.map fun p => (p.1, a.eval p.2))))) := rfl
    rw [this]
    simp [hrun]) (.agg (by omega) h3)

theorem R.fresh_av (hR : R G L σ h a w) : ¬ Av G.S L w.heap.size := by
  rintro (hS | ⟨o, ho⟩)
  · have := hR.sLt _ hS; omega
  · have := hR.heap.lt ho; omega

/-- A new row that nobody will write. -/
theorem VI.row (hR : R G L σ h a w) {cells : List DV} {cs : Array Value} (T : TypeId) {sz len c : Nat} (fz : Nat × Nat) (hsz : sz ≠ 0) (hl : cells.length = len * sz) (hlc : len ≤ c) (hlen : cells.length ≤ cs.size)
    (hv : ∀ (k : Nat) d v, cells[k]? = some d → cs[k]? = some v → VI w (Av G.S L) d v) :
    VI (w.alloc (.cells cs T fz)) (Av G.S L) (.sl sz cells) (.slice (some ⟨w.heap.size, 0, none⟩) len c) := by
  have hx : Ext (fun _ => False) w (w.alloc (.cells cs T fz)) := Ext.alloc _ _ _
  by_cases h0 : cells = []
  · subst h0
    have : len = 0 := by
      rcases Nat.eq_zero_or_pos len with e | e
      · exact e
      · have := Nat.mul_pos e (Nat.pos_of_ne_zero hsz); simp at hl; omega
    subst this
    exact .sl0 _ _ _
  · refine .sl (fun k => (cs[k]?).getD Go.undef) h0 hl hlc hR.fresh_av (fun k dd hk => ?_) (fun k dd hk => ?_)
    · obtain ⟨u, hu⟩ := exists_aget (l := cs) (k := k) (by have := (List.getElem?_eq_some_iff.1 hk).1; omega)
      rw [add_lit, Nat.zero_add, cell_of_row _ w.heap.size k cs T fz (heap_alloc_new w _), hu]
      rfl
    · obtain ⟨u, hu⟩ := exists_aget (l := cs) (k := k) (by have := (List.getElem?_eq_some_iff.1 hk).1; omega)
      rw [hu]
      exact (hv k dd u hk hu).mono fun b hb hA => ⟨hx.block b hb id, hA⟩

theorem zero_row (zv : Array Value) (n : Nat) (k : Nat) {dd : DV} {v : Value}
    (h1 : ((List.range n).map fun j => (zv.toList.map cv1).getD (j % (zv.toList.map cv1).length) .undef)[k]? = some dd) (h2 : ((Array.range n).map fun j => zv[j % zv.size]!)[k]? = some v) (w : World) (A : Nat → Prop) : VI w A dd v := by
  simp only [List.getElem?_map, Option.map_eq_some_iff] at h1
  simp only [Array.getElem?_map, Option.map_eq_some_iff] at h2
  obtain ⟨j, hj, rfl⟩ := h1
  obtain ⟨j', hj', rfl⟩ := h2
  have e1 : j = k := by have := (List.getElem?_eq_some_iff.1 hj).2; simpa using this.symm
  have e2 : j' = k := by have := (Array.getElem?_eq_some_iff.1 hj').2; simpa using this.symm
  subst e1; subst e2
  simp only [List.length_map, Array.length_toList]
  rw [List.getD_eq_getElem?_getD]
  cases hz : zv[j' % zv.size]? with
  | none =>
    have : (zv.toList.map cv1)[j' % zv.size]? = none := by simp [hz]
    rw [this]; exact .undef _
  | some u =>
    have e3 : (zv.toList.map cv1)[j' % zv.size]? = some (cv1 u) := by simp [hz]
    have e4 : zv[j' % zv.size]! = u := by simp [getElem!_def, hz]
    rw [e3, e4]
    exact cv1_VI _ _ _

theorem bsl_aux (hE : EV vs ε w L (Av G.S L) a) (hR : R G L σ h a w) (t e : TypeId) (len : Nat) (ps : Array (Nat × Operand)) {n : Nat} {z : List DV} {qs : List (Nat × Nat × Opd)} {cs : List DV}
    (ht : P.underlying t = some (.slice e)) (hn : tSize P e = some n) (hz : tZero P e = some z) (hsmall : len * n ≤ 4096) (hq : sParts vs (fun i => some (i * n, n)) ps.toList = some qs)
    (hcs : laid ((List.range (len * n)).map fun j => z.getD (j % z.length) .undef) (qs.map fun p => (p.1, p.2.1, ε p.2.2)) = some cs) :
    ∃ res : Array Value, cs.length = len * n ∧ res.size = cs.length ∧ (∀ (k : Nat) d v, cs[k]? = some d → res[k]? = some v → V w L (Av G.S L) d v) ∧
      (execOp a.eval ⟨dst, .buildSlice t len ps, ty, pos, after, guard⟩).run P w = .ok (.value (.slice (some ⟨w.heap.size, 0, none⟩) len len)) (w.alloc (.cells res e)) := by
  simp only [tSize, Option.map_eq_some_iff] at hn
  obtain ⟨inf, hinf, rfl⟩ := hn
  simp only [tZero, Option.map_eq_some_iff, Option.bind_eq_some_iff] at hz
  obtain ⟨zv, ⟨i, hi, hzi⟩, rfl⟩ := hz
  rw [hinf] at hi; cases hi
  obtain ⟨res, h1, h2, h3⟩ := fill_laid hE hR (fun i => some (i * inf.size, inf.size)) ps.toList qs _ cs ((Array.range (len * inf.size)).map fun j => zv.cells[j % zv.cells.size]!) hq hcs (by simp)
    (fun k dd v h1 h2 => .imm (zero_row zv.cells _ k h1 h2 _ _))
  have hlaid : ∀ (qs : List (Nat × Nat × DV)) (dc dr : List DV), laid dc qs = some dr → dr.length = dc.length := by
    intro qs
    induction qs with
    | nil => intro dc dr hd; simp only [laid, Option.some.injEq] at hd; rw [hd]
    | cons q qs ih =>
      intro dc dr hd
      obtain ⟨o, m, x⟩ := q
      simp only [laid, Option.bind_eq_some_iff] at hd
      obtain ⟨cx, _, hd⟩ := hd
      split at hd
      · rename_i hc
        rw [laid_splice hc.1 hc.2] at hd
        rw [ih _ _ hd]
        simp; omega
      · cases hd
  have hcl : cs.length = len * inf.size := by rw [hlaid _ _ _ hcs]; simp
  refine ⟨res, hcl, h2, h3, ?_⟩
  have hlt : ¬ (16777216 < len * inf.size) := by omega
  have h1' : Instr.fill (fun i => some (i * inf.size, inf.size)) ((Array.range (len * inf.size)).map fun j => zv.cells[j % zv.cells.size]!) (ps.map fun p => (p.1, a.eval p.2)).toList = some res := by simpa using h1
  have e0 : (execOp a.eval ⟨dst, .buildSlice t len ps, ty, pos, after, guard⟩) = (do pure (.value (← Instr.buildSlice t len (ps.map fun p => (p.1, a.eval p.2))))) := rfl
  rw [e0]
  have hsz : (sizeOf e).run P w = .ok inf.size w := by simp [sizeOf, typeInfo, hinf]
  have hzv : (zeroValue e).run P w = .ok zv w := by simp [zeroValue, typeInfo, hinf, hzi]
  by_cases hz0 : len * inf.size = 0
  · rw [hz0] at h1
    simp only [Array.range_zero', Array.map_empty] at h1
    simp [Instr.buildSlice, run_underlying ht, hsz, hz0, newRow]
    rw [Array.range_zero', Array.map_empty, h1]
    simp
  · simp [Instr.buildSlice, run_underlying ht, hsz, hz0, hlt, hzv]
    rw [h1]
    simp [newRow]

theorem snd_bsl (hE : EV vs ε w L (Av G.S L) a) (hR : R G L σ h a w) (t e : TypeId) (len : Nat) (ps : Array (Nat × Operand)) {n : Nat} {z : List DV} {qs : List (Nat × Nat × Opd)}
    (ht : P.underlying t = some (.slice e)) (hn : tSize P e = some n) (hn0 : n ≠ 0) (hz : tZero P e = some z) (hsmall : len * n ≤ 4096) (hq : sParts vs (fun i => some (i * n, n)) ps.toList = some qs)
    (he : opE nb dst (ε) h (.bsl n ((List.range (len * n)).map fun j => z.getD (j % z.length) .undef) qs) = some (d, ef)) :
    Snd P G σ h a w ⟨dst, .buildSlice t len ps, ty, pos, after, guard⟩ d ef := by
  simp only [opE, Option.bind_eq_some_iff] at he
  obtain ⟨cs, hcs, he⟩ := he
  obtain ⟨hrf, he⟩ := gd_some he
  cases he
  obtain ⟨res, h1, h2, h3, h4⟩ := bsl_aux (dst := dst) (ty := ty) (pos := pos) (after := after) (guard := guard) hE hR t e len ps ht hn hz hsmall hq hcs
  exact Snd.val' hR (Ext.alloc _ _ _) h4 (VI.row hR e (0, 0) hn0 h1 (Nat.le_refl _) (by omega) fun k dd v e1 e2 => (h3 k dd v e1 e2).rf_imm (hrf dd (List.mem_of_getElem? e1)))

theorem snd_bsl' (hE : EV vs ε w L (Av G.S L) a) (hR : R G L σ h a w) (t e : TypeId) (len : Nat) (ps : Array (Nat × Operand)) {n : Nat} {z : List DV} {qs : List (Nat × Nat × Opd)}
    (ht : P.underlying t = some (.slice e)) (hn : tSize P e = some n) (hn0 : n ≠ 0) (hz : tZero P e = some z) (hsmall : len * n ≤ 4096) (hq : sParts vs (fun i => some (i * n, n)) ps.toList = some qs)
    (he : opE nb dst (ε) h (.bsl' n ((List.range (len * n)).map fun j => z.getD (j % z.length) .undef) qs) = some (d, ef)) :
    Snd P G σ h a w ⟨dst, .buildSlice t len ps, ty, pos, after, guard⟩ d ef := by
  simp only [opE, Option.bind_eq_some_iff, Option.map_eq_some_iff] at he
  obtain ⟨cs, hcs, id, hid, he⟩ := he
  cases he
  obtain ⟨res, h1, h2, h3, h4⟩ := bsl_aux (dst := dst) (ty := ty) (pos := pos) (after := after) (guard := guard) hE hR t e len ps ht hn hz hsmall hq hcs
  have hcnt : cnt n ((List.range (len * n)).map fun j => z.getD (j % z.length) .undef) = len := cnt_of (by simp) hn0
  rw [hcnt]
  exact Snd.new hR (freshE_some hid) (by omega) h3 h4 (.osl (by simp [updL]) (Nat.le_refl _) (shape_new _ _ _) (by omega))

/-! ### Bytes and strings -/
theorem snd_s2b (hE : EV vs ε w L (Av G.S L) a) (hR : R G L σ h a w) (src tgt e : TypeId) (hs : P.underlying src = some .string) (ht : P.underlying tgt = some (.slice e)) (hee : P.underlying e = some (.int .u8)) (x : Operand)
    (he : opE nb dst (ε) h (.s2b (sOpd vs x)) = some (d, ef)) : Snd P G σ h a w ⟨dst, .convert src tgt x, ty, pos, after, guard⟩ d ef := by
  simp only [opE] at he
  have hx := hE x
  split at he
  · rename_i l hp
    cases he
    rw [hp] at hx
    have e1 := hx.inv_str
    have hrun := run_bytes_of_string (P := P) w src tgt e ⟨l.toArray⟩ hs ht hee
    have hsz : (⟨l.toArray⟩ : ByteArray).size = l.length := rfl
    rw [hsz] at hrun
    have hge := grownCap_ge w l.length 0 e
    refine Snd.val' hR (v := .slice (some ⟨w.heap.size, 0, none⟩) l.length (grownCap w l.length 0 e)) ((Ext.drew _ w).trans (Ext.alloc _ w.drew (.cells (bytesRow ⟨l.toArray⟩ (grownCap w l.length 0 e)) e ((bytesRow ⟨l.toArray⟩ (grownCap w l.length 0 e)).size, (bytesRow ⟨l.toArray⟩ (grownCap w l.length 0 e)).size + 1)))) (by simp [execOp, e1, hrun]) ?_
    refine VI.row (sz := 1) (len := l.length) (hR.still (Ext.drew _ w)) e _ (by decide) (by simp) hge (by simp [bytesRow]) fun k dd v h1 h2 => ?_
    simp only [List.getElem?_map, Option.map_eq_some_iff] at h1
    obtain ⟨b, hb, rfl⟩ := h1
    have hlt := (List.getElem?_eq_some_iff.1 hb).1
    have : v = .int .u8 b.toNat := by
      rw [bytesRow, Array.getElem?_append_left (by simpa using hlt)] at h2
      simp only [Array.getElem?_map, Option.map_eq_some_iff] at h2
      obtain ⟨b', hb', rfl⟩ := h2
      have : l[k]? = some b' := by simpa using hb'
      rw [hb] at this; cases this; rfl
    subst this
    exact .int _ _
  · cases he

theorem bytesOf_nums : ∀ (xs : List DV) (l : List UInt8), bytesOf xs = some l → ∃ ns : List Int, xs = ns.map (DV.int .u8) ∧ l = ns.map (fun n => UInt8.ofNat n.toNat)
  | [], l, h => by simp only [bytesOf, Option.some.injEq] at h; exact ⟨[], rfl, h.symm⟩
  | x :: xs, l, h => by
    simp only [bytesOf, Option.bind_eq_some_iff, Option.map_eq_some_iff] at h
    obtain ⟨b, hb, l', hl', rfl⟩ := h
    obtain ⟨ns, rfl, rfl⟩ := bytesOf_nums xs l' hl'
    unfold byteOf at hb
    split at hb
    · cases hb; exact ⟨_ :: ns, rfl, rfl⟩
    · cases hb

theorem run_b2s (w : World) (src tgt e : TypeId) (hs : P.underlying src = some (.slice e)) (ht : P.underlying tgt = some .string) (hee : P.underlying e = some (.int .u8)) (ad : Addr) (len c : Nat) (ns : List Int)
    (hl : ns.length = len) (hc : ∀ j v, (ns.map (Value.int .u8))[j]? = some v → w.cell? (ad.add j) = some v) :
    (convert src tgt (.slice (some ad) len c)).run P w = .ok (.string ⟨(ns.map fun n => UInt8.ofNat n.toNat).toArray⟩) w := by
  have hlc := run_loadCells_list (P := P) w ad _ hc
  rw [List.length_map, hl] at hlc
  rw [run_convert_bytes_string w src tgt e _ len c hs hee ht, run_bytesToString w ad len c ns (by simpa using hlc), foldl_push_bytes]
  congr 2
  apply ByteArray.ext
  simp

theorem snd_b2s (hE : EV vs ε w L (Av G.S L) a) (hR : R G L σ h a w) (src tgt e : TypeId) (hs : P.underlying src = some (.slice e)) (ht : P.underlying tgt = some .string) (hee : P.underlying e = some (.int .u8)) (x : Operand)
    (he : opE nb dst (ε) h (.b2s (sOpd vs x)) = some (d, ef)) : Snd P G σ h a w ⟨dst, .convert src tgt x, ty, pos, after, guard⟩ d ef := by
  simp only [opE] at he
  have hx := hE x
  have hnil : ∀ (l c : Nat), (convert src tgt (.slice none l c)).run P w = .ok (.string ⟨([] : List UInt8).toArray⟩) w := fun l c => by
    rw [run_convert_bytes_string w src tgt e _ l c hs hee ht]
    rfl
  split at he
  · rename_i hp
    cases he
    rw [hp] at hx
    have e1 := hx.inv_nils
    exact Snd.val hR (v := .string ⟨([] : List UInt8).toArray⟩) (by simp [execOp, e1, hnil]) (.imm (.str _))
  · rename_i sz xs hp
    obtain ⟨hgd, he'⟩ := gd_some he
    clear he
    obtain rfl := hgd
    simp only [Option.map_eq_some_iff] at he'
    obtain ⟨l, hl, he'⟩ := he'
    cases he'
    rw [hp] at hx
    obtain ⟨ns, rfl, rfl⟩ := bytesOf_nums _ _ hl
    rcases hx.inv_sl with ⟨h0, ad, c, e1⟩ | ⟨hx0, ad, len, c, us, e1, hlen, hc, hA, hcell, hv⟩
    · have : ns = [] := by simpa using h0
      subst this
      cases ad with
      | none => exact Snd.val hR (v := .string ⟨([] : List UInt8).toArray⟩) (by simp [execOp, e1, hnil]) (.imm (.str _))
      | some ad => exact Snd.val hR (v := .string ⟨(([] : List Int).map fun n => UInt8.ofNat n.toNat).toArray⟩) (by
          have := run_b2s (P := P) w src tgt e hs ht hee ad 0 c [] rfl (by simp)
          simp [execOp, e1, this]) (.imm (.str _))
    · have hrun := run_b2s (P := P) w src tgt e hs ht hee ad len c ns (by simpa using hlen) (fun j v hj => by
        simp only [List.getElem?_map, Option.map_eq_some_iff] at hj
        obtain ⟨n, hn, rfl⟩ := hj
        have h1 : (ns.map (DV.int .u8))[j]? = some (.int .u8 n) := by simp [hn]
        rw [hcell j _ h1, (V.imm (L := L) (hv j _ h1)).inv_int])
      exact Snd.val hR (v := .string ⟨(ns.map fun n => UInt8.ofNat n.toNat).toArray⟩) (by simp [execOp, e1, hrun]) (.imm (.str _))
  · rename_i sz o off len hp
    simp only [Option.bind_eq_some_iff] at he
    obtain ⟨cs, hcs, he⟩ := he
    obtain ⟨hgd, he'⟩ := gd_some he
    clear he
    obtain ⟨rfl, hfit⟩ := hgd
    simp only [Option.map_eq_some_iff] at he'
    obtain ⟨l, hl, he'⟩ := he'
    cases he'
    rw [hp] at hx
    obtain ⟨ns, hns, rfl⟩ := bytesOf_nums _ _ hl
    rcases hx.inv_osl with ⟨b, c, T, m, hL, e1, hc, hs', hm⟩ | ⟨rfl, e1⟩
    · obtain ⟨cells, cur, T', hho, hb, hl', hpp⟩ := hR.heap.at_ hL
      rw [hcs] at hho; cases hho
      have hnl : ns.length = len := by
        have := congrArg List.length hns
        simp at this; omega
      have hrun := run_b2s (P := P) w src tgt e hs ht hee ⟨b, off, none⟩ len c ns hnl (fun j v hj => by
        simp only [List.getElem?_map, Option.map_eq_some_iff] at hj
        obtain ⟨n, hn, rfl⟩ := hj
        have h1 : ((cs.drop off).take len)[j]? = some (.int .u8 n) := by rw [hns]; simp [hn]
        have h2 := cut_get h1
        obtain ⟨u, hu⟩ := exists_aget (l := cur) (k := off + j) (by have := (List.getElem?_eq_some_iff.1 h2).1; omega)
        rw [add_lit, cell_of_row w b _ cur T' (0, 0) hb, hu, (hpp _ _ u h2 hu).inv_int])
      exact Snd.val hR (v := .string ⟨(ns.map fun n => UInt8.ofNat n.toNat).toArray⟩) (by simp [execOp, e1, hrun]) (.imm (.str _))
    · have : ns = [] := by simpa using hns.symm
      subst this
      exact Snd.val hR (v := .string ⟨([] : List UInt8).toArray⟩) (by simp [execOp, e1, hnil]) (.imm (.str _))
  · cases he

/-! ### Append -/
/-- What is appended, as the model has it. -/
theorem newsV (hR : R G L σ h a w) {sz : Nat} {dx : DV} {v : Value} {ys : List DV} (hsz : sz ≠ 0) (hn : newsE h sz dx = some ys) (hv : V w L (Av G.S L) dx v) :
    ∃ (A : Option Addr) (m c : Nat), v = .slice A m c ∧ ys.length = m * sz ∧
      (ys = [] ∨ ∃ ad news, A = some ad ∧ (news : List Value).length = ys.length ∧ (∀ (j : Nat) u, news[j]? = some u → w.cell? (ad.add j) = some u) ∧
        ∀ (j : Nat) d u, ys[j]? = some d → news[j]? = some u → V w L (Av G.S L) d u) := by
  unfold newsE at hn
  split at hn
  · rename_i s ys'
    obtain ⟨hgd, hn'⟩ := gd_some hn
    clear hn
    obtain rfl := hgd
    cases hn'
    rcases hv.inv_sl with ⟨rfl, A, c, rfl⟩ | ⟨hx0, ad, n, c, us, rfl, hl, hc, hA, hcell, hvi⟩
    · exact ⟨A, 0, c, rfl, by simp, .inl rfl⟩
    · refine ⟨some ad, n, c, rfl, hl, .inr ⟨ad, (List.range ys.length).map us, rfl, by simp, fun j u hj => ?_, fun j d u h1 h2 => ?_⟩⟩
      · simp only [List.getElem?_map, Option.map_eq_some_iff] at hj
        obtain ⟨j', hj', rfl⟩ := hj
        have hlt : j < ys.length := by have := (List.getElem?_eq_some_iff.1 hj').1; simpa using this
        have : j' = j := by simpa [hlt] using hj'.symm
        subst this
        obtain ⟨y, hy⟩ := exists_get hlt
        exact hcell _ y hy
      · simp only [List.getElem?_map, Option.map_eq_some_iff] at h2
        obtain ⟨j', hj', rfl⟩ := h2
        have hlt : j < ys.length := by have := (List.getElem?_eq_some_iff.1 hj').1; simpa using this
        have : j' = j := by simpa [hlt] using hj'.symm
        subst this
        exact .imm (hvi _ d h1)
  · cases hn
    exact ⟨none, 0, 0, hv.inv_nils, by simp, .inl rfl⟩
  · rename_i s o off len
    simp only [Option.bind_eq_some_iff] at hn
    obtain ⟨cs, hcs, hn⟩ := hn
    obtain ⟨hgd, hn'⟩ := gd_some hn
    clear hn
    obtain ⟨rfl, hfit⟩ := hgd
    cases hn'
    rcases hv.inv_osl with ⟨b, c, T, m, hL, rfl, hc, hs', hm⟩ | ⟨rfl, rfl⟩
    · obtain ⟨cells, cur, T', hho, hb, hl', hpp⟩ := hR.heap.at_ hL
      rw [hcs] at hho; cases hho
      refine ⟨_, len, c, rfl, by simp; omega, .inr ⟨_, (cur.toList.drop off).take (len * s), rfl, by simp; omega, fun j u hj => ?_, fun j d u h1 h2 => ?_⟩⟩
      · rw [add_lit, cell_of_row w b _ cur T' (0, 0) hb]
        simpa using cut_get hj
      · exact hpp _ d u (cut_get h1) (by simpa using cut_get h2)
    · exact ⟨none, 0, 0, rfl, by simp, .inl (by simp)⟩
  · cases hn
end
end Go.Dat
