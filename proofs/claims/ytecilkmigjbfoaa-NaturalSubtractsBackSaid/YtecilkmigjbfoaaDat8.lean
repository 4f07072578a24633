/- Each operation of the model does what 'opE' says (5): append; and all of them in one theorem. Over any program. -/
import Derived.Test.YtecilkmigjbfoaaDat7
set_option linter.unusedSimpArgs false
set_option linter.unusedVariables false
namespace Go.Dat
open Go

section
variable {P : Program} {G : Cx} {L : Nat → Option Nat} {σ : Nat → DV} {h : Heap} {a : Act} {w : World} {vs own : List Nat} {ε : Opd → DV}
variable (nb : Nat) {d : DV} {ef : Eff} {dst : Option Nat} {ty : TypeId} {pos : String} {after : Array Edge} {guard : Option (Nat × Bool)}

theorem run_append_zero (t ty e : TypeId) (i : TypeInfo) (ht : P.underlying t = some (.slice e)) (hi : P.info? e = some i) (A B : Option Addr) (n c c' : Nat) (hnc : n ≤ c) :
    (Builtin.append_ #[t, t] ty #[.slice A n c, .slice B 0 c']).run P w = .ok (.slice A n c) w := by
  cases A <;> cases B <;> simp [Builtin.append_, run_underlying ht, sizeOf, typeInfo, hi, Builtin.lenOf, Builtin.firstCells, hnc, storeCells, loadCells, loadCellsFrom]

theorem execOp_append (x y : Operand) (t : TypeId) :
    (execOp a.eval ⟨dst, .call { callee := .builtin .append, args := #[x, y], argTypes := #[t, t] }, ty, pos, after, guard⟩) =
      (do pure (.value (← Builtin.append_ #[t, t] ty #[a.eval x, a.eval y]))) := by
  simp [execOp, resolve, invoke, builtin]

theorem R.purged (o : Nat) (hR : R G L σ h a w) : R G L (purgeS o σ) (h.purge o) a w := hR.weakH o
theorem purge_V {A : Nat → Prop} (o : Nat) {d : DV} {v : Value} (hv : V w L A d v) : V w L A (purge o d) v := by
  unfold purge; split
  · exact .imm (.undef _)
  · exact hv

theorem upd_same {h : Heap} {o : Nat} {c : List DV} (hc : h o = some c) : h.upd o (some c) = h := by
  funext p
  unfold Heap.upd
  split
  · rename_i e; rw [e, hc]
  · rfl

/-- Appended cells in a new block: object 'o' is (again) new. -/
theorem snd_app_new (hR : R G L σ h a w) {o : Nat} (t e : TypeId) (x y : Operand) (i : TypeInfo) {z : Value} (hzs : z.cells.size = i.size) {cells : List DV} {vals : List Value} {n cap : Nat}
    (hl : cells.length = n * i.size) (hvl : vals.length = cells.length) (hcap : n ≤ cap)
    (hv : ∀ (k : Nat) d v, cells[k]? = some d → vals[k]? = some v → V w L (Av G.S L) d v)
    (hr : (Builtin.append_ #[t, t] ty #[a.eval x, a.eval y]).run P w = .ok (.slice (some ⟨w.heap.size, 0, none⟩) n cap) (w.drew.alloc (.cells (vals.toArray ++ Builtin.zeroCells z.cells (cap - n)) e))) :
    Snd P G σ h a w ⟨dst, .call { callee := .builtin .append, args := #[x, y], argTypes := #[t, t] }, ty, pos, after, guard⟩ (.osl i.size o 0 n) (.app o (cells.map (purge o))) := by
  have hD := (hR.drop o).still (Ext.drew _ w)
  have hsize : (vals.toArray ++ Builtin.zeroCells z.cells (cap - n)).size = cap * i.size := by
    rw [Array.size_append, size_zeroCells, hzs, List.size_toArray, hvl, hl, ← Nat.add_mul]
    congr 1
    omega
  have hN := hD.new (o := o) (cells := cells.map (purge o)) (cs := vals.toArray ++ Builtin.zeroCells z.cells (cap - n)) (by simp [Heap.upd]) e (by rw [hsize, List.length_map, hl]; exact Nat.mul_le_mul_right _ hcap) (fun k d v h1 h2 => by
    simp only [List.getElem?_map, Option.map_eq_some_iff] at h1
    obtain ⟨d0, hd0, rfl⟩ := h1
    have hlt := (List.getElem?_eq_some_iff.1 hd0).1
    rw [Array.getElem?_append_left (by simp; omega)] at h2
    have hv0 := hv k d0 v hd0 (by simpa using h2)
    refine hv0.purge o (fun b hb hA => ⟨rfl, ?_⟩) fun p b hne hp => ⟨by simp [updL, hne, hp], rfl⟩
    rintro (hS | ⟨p, hp⟩)
    · exact hA (.inl hS)
    · unfold updL at hp
      split at hp
      · cases hp
      · exact hA (.inr ⟨p, hp⟩))
  refine ⟨.slice (some ⟨w.heap.size, 0, none⟩) n cap, w.drew.alloc (.cells (vals.toArray ++ Builtin.zeroCells z.cells (cap - n)) e), updL (updL L o none) o (some w.drew.heap.size), .inl ?_, ?_, ?_⟩
  · rw [execOp_append]
    simp only [Sem.run_bind, hr, Result.andThen_ok, Sem.run_pure]
  · have := hN.1
    have e1 : ((h.purge o).upd o none).upd o (some (cells.map (purge o))) = (h.purge o).upd o (some (cells.map (purge o))) := by
      funext p; unfold Heap.upd; split <;> rfl
    rw [e1] at this
    exact this
  · refine .osl (b := w.heap.size) (by simp [updL]) hcap (shape_new w.drew _ _) ?_
    rw [hsize]; omega

theorem snd_app (hE : EV vs ε w L (Av G.S L) a) (hR : R G L σ h a w) (t e : TypeId) (x y : Operand) {i : TypeInfo} {z : Value} (ht : P.underlying t = some (.slice e)) (hi : P.info? e = some i) (hz : i.zero = some z)
    (hzs : z.cells.size = i.size) (h0 : i.size ≠ 0) (he : opE nb dst (ε) h (.app i.size i.bytes (sOpd vs x) (sOpd vs y)) = some (d, ef)) :
    Snd P G σ h a w ⟨dst, .call { callee := .builtin .append, args := #[x, y], argTypes := #[t, t] }, ty, pos, after, guard⟩ d ef := by
  have hx := hE x
  have hy := hE y
  simp only [opE] at he
  split at he
  · rename_i hp
    simp only [Option.bind_eq_some_iff] at he
    obtain ⟨ys, hys, he⟩ := he
    obtain ⟨⟨g1, g2, g3⟩, he⟩ := gd_some he
    rw [Option.map_eq_some_iff] at he
    obtain ⟨o, ho, he⟩ := he
    cases he
    rw [hp] at hx
    have e1 := hx.inv_nils
    have hno := freshE_some ho
    obtain ⟨B, m, c, e2, hyl, hB⟩ := newsV hR h0 hys hy
    have hcnt := cnt_of hyl h0
    rw [hcnt]
    rcases hB with rfl | ⟨ad, news, rfl, hnl, hcell, hvv⟩
    · have hm : m = 0 := by
        rcases Nat.eq_zero_or_pos m with e | e
        · exact e
        · have := Nat.mul_pos e (Nat.pos_of_ne_zero h0); simp at hyl; omega
      subst hm
      have hrun := run_append_zero (P := P) (w := w) t ty e i ht hi none B 0 0 c (Nat.le_refl _)
      refine ⟨.slice none 0 0, w, L, .inl ?_, ?_, .osl0 _ _ _⟩
      · rw [execOp_append, e1, e2]; simp [hrun]
      · exact (hR.purged o).virt (by simp [Heap.purge, hno])
    · rcases Nat.eq_zero_or_pos m with hm | hm
      · subst hm
        have : ys = [] := List.eq_nil_of_length_eq_zero (by omega)
        subst this
        have hrun := run_append_zero (P := P) (w := w) t ty e i ht hi none (some ad) 0 0 c (Nat.le_refl _)
        refine ⟨.slice none 0 0, w, L, .inl ?_, ?_, .osl0 _ _ _⟩
        · rw [execOp_append, e1, e2]; simp [hrun]
        · exact (hR.purged o).virt (by simp [Heap.purge, hno])
      · have hmb : m * i.bytes ≤ ys.length * i.bytes := Nat.mul_le_mul_right _ (by rw [hyl]; exact Nat.le_mul_of_pos_right _ (Nat.pos_of_ne_zero h0))
        have hm2 : m ≤ ys.length := by rw [hyl]; exact Nat.le_mul_of_pos_right _ (Nat.pos_of_ne_zero h0)
        have hr := run_append_nil (P := P) w t ty e i z ht hi hz ad m c news (by omega) hcell hm (by omega) (by omega)
        rw [← e1, ← e2] at hr
        exact snd_app_new hR t e x y i hzs hyl hnl (grownCap_ge w m 0 e) hvv hr
  · rename_i s' o off len hp
    simp only [Option.bind_eq_some_iff] at he
    obtain ⟨cs, hcs, ys, hys, he⟩ := he
    obtain ⟨hgd, he'⟩ := gd_some he
    clear he
    obtain ⟨rfl, rfl, g3, g4, g5, g6⟩ := hgd
    cases he'
    rw [hp] at hx
    obtain ⟨B, m, c, e2, hyl, hB⟩ := newsV hR h0 hys hy
    have hcnt := cnt_of hyl h0
    rw [hcnt]
    have hpos := Nat.pos_of_ne_zero h0
    have hlenle : len ≤ cs.length := by rw [g3]; exact Nat.le_mul_of_pos_right _ hpos
    have hmle : m ≤ ys.length := by rw [hyl]; exact Nat.le_mul_of_pos_right _ hpos
    have hbytes : (len + m) * i.bytes ≤ 140737488355328 := Nat.le_trans (Nat.mul_le_mul_right _ (by omega)) g4
    have hzero : ∀ B', a.eval y = .slice B' 0 c → ys = [] → ∀ A n c0, a.eval x = .slice A n c0 → n ≤ c0 → V w L (Av G.S L) (.osl i.size o 0 len) (.slice A n c0) →
        Snd P G σ h a w ⟨dst, .call { callee := .builtin .append, args := #[x, y], argTypes := #[t, t] }, ty, pos, after, guard⟩ (.osl i.size o 0 (len + 0)) (.app o ((cs ++ ys).map (purge o))) := by
      intro B' e2' hy0 A n c0 e1 hnc hvv
      subst hy0
      have hrun := run_append_zero (P := P) (w := w) t ty e i ht hi A B' n c0 c hnc
      refine ⟨_, w, L, .inl ?_, ?_, hvv⟩
      · rw [execOp_append, e1, e2']; simp [hrun]
      · have := hR.purged o
        rw [List.append_nil]
        show R G L (purgeS o σ) ((h.purge o).upd o (some (cs.map (purge o)))) a w
        rw [upd_same (by simp [Heap.purge, hcs])]
        exact this
    have hm0 : m = 0 → ys = [] := fun hm => List.eq_nil_of_length_eq_zero (by rw [hyl, hm]; simp)
    by_cases hm : m = 0
    · subst hm
      rcases hx.inv_osl with ⟨b, c0, T, mm, hL, e1, hc, hs, hmm⟩ | ⟨rfl, e1⟩
      · exact hzero B e2 (hm0 rfl) _ _ _ e1 hc (e1 ▸ hx)
      · exact hzero B e2 (hm0 rfl) _ _ _ e1 (Nat.le_refl _) (e1 ▸ hx)
    · have hmp : 0 < m := Nat.pos_of_ne_zero hm
      rcases hB with rfl | ⟨ad, news, rfl, hnl, hcell, hvv⟩
      · exact absurd (show m = 0 from by
          rcases Nat.eq_zero_or_pos m with e | e
          · exact e
          · have := Nat.mul_pos e hpos; simp at hyl; omega) hm
      · have hone : ∀ u ∈ news, u.oneCell' = true := by
          intro u hu
          obtain ⟨k, hk⟩ := List.mem_iff_getElem?.1 hu
          obtain ⟨dd, hdd⟩ := exists_get (l := ys) (k := k) (by have := (List.getElem?_eq_some_iff.1 hk).1; omega)
          exact V.oneCell (g6 dd (List.mem_of_getElem? hdd)) (hvv k dd u hdd hk)
        rcases hx.inv_osl with ⟨b, c0, T, mm, hL, e1, hc, hs, hmm⟩ | ⟨rfl, e1⟩
        · obtain ⟨cells, cur, T', hho, hb, hl', hpp⟩ := hR.heap.at_ hL
          rw [hcs] at hho; cases hho
          have hcur : c0 * i.size ≤ cur.size := by
            simp [World.shape?, hb] at hs
            omega
          by_cases hroom : len + m ≤ c0
          · -- there is room: the cells are written behind the old ones
            have hfit : len * i.size + news.length ≤ cur.size := by
              rw [hnl, hyl, ← Nat.add_mul]
              exact Nat.le_trans (Nat.mul_le_mul_right _ hroom) hcur
            have hf := run_firstCells_some (P := P) w i.size m ad m c news (by omega) hcell
            have hst := run_storeCells_at P b (len * i.size) T' news 0 cur w hb (by simpa using hfit) hone
            simp only [Nat.add_zero] at hst
            have hrun : (Builtin.append_ #[t, t] ty #[a.eval x, a.eval y]).run P w =
                .ok (.slice (some ⟨b, 0, none⟩) (len + m) c0) (w.setRow b (cur.toList.take (len * i.size) ++ news ++ cur.toList.drop (len * i.size + news.length)).toArray) := by
              rw [e1, e2]
              simp [Builtin.append_, run_underlying ht, sizeOf, typeInfo, hi, Builtin.lenOf, hroom, hf, Addr.add_lit, hst]
            have hcs' : (cur.toList.take (len * i.size) ++ news ++ cur.toList.drop (len * i.size + news.length)).toArray.size = cur.size := by simp; omega
            refine ⟨.slice (some ⟨b, 0, none⟩) (len + m) c0, _, L, .inl (by rw [execOp_append]; simp only [Sem.run_bind, hrun, Result.andThen_ok, Sem.run_pure]),
              (hR.purged o).write (cells := (cs ++ ys).map (purge o)) hL hb (cs' := (cur.toList.take (len * i.size) ++ news ++ cur.toList.drop (len * i.size + news.length)).toArray) hcs' (by simp; omega) (fun k dd v h1 h2 => ?_) (setRow_eq hb), ?_⟩
            · simp only [List.getElem?_map, Option.map_eq_some_iff] at h1
              obtain ⟨d0, hd0, rfl⟩ := h1
              refine purge_V o ?_
              have hlt := (List.getElem?_eq_some_iff.1 hd0).1
              simp only [List.length_append] at hlt
              have h2' : (cur.toList.take (len * i.size) ++ news ++ cur.toList.drop (len * i.size + news.length))[k]? = some v := by simpa using h2
              rw [List.getElem?_append_left (by simp; omega)] at h2'
              rw [List.getElem?_append] at hd0 h2'
              have hlen2 : (cur.toList.take (len * i.size)).length = cs.length := by simp; omega
              rw [hlen2] at h2'
              by_cases hk : k < cs.length
              · rw [if_pos hk] at hd0 h2'
                rw [List.getElem?_take, if_pos (by omega)] at h2'
                exact hpp k d0 v hd0 (by simpa using h2')
              · rw [if_neg hk] at hd0 h2'
                exact hvv _ d0 v hd0 h2'
            · refine .osl (T := T') (m := cur.size) hL hroom ?_ (by omega)
              rw [setRow_eq hb]
              have hblt := hR.heap.lt hL
              simp only [World.shape?]
              rw [Array.getElem?_setIfInBounds]
              simp only [if_true, hblt]
              simp only [hcs']
          · have hr := run_append_grow (P := P) w t ty e i z ht hi hz ⟨b, 0, none⟩ len c0 (cur.toList.take (len * i.size)) (by simp; omega) (fun j v hj => by
              rw [add_lit, Nat.zero_add, cell_of_row w b j cur T' (0, 0) hb]
              rw [List.getElem?_take] at hj
              split at hj
              · simpa using hj
              · cases hj) ad m c news (by omega) hcell (by omega) (by omega) (growslice_fits (by omega) hbytes)
            rw [← e1, ← e2] at hr
            have hr' : (Builtin.append_ #[t, t] ty #[a.eval x, a.eval y]).run P w = .ok (.slice (some ⟨w.heap.size, 0, none⟩) (len + m) (grownCap w (len + m) c0 e))
                (w.drew.alloc (.cells ((cur.toList.take (len * i.size) ++ news).toArray ++ Builtin.zeroCells z.cells (grownCap w (len + m) c0 e - (len + m))) e)) := by
              rw [hr]; simp
            refine snd_app_new hR t e x y i hzs (cells := cs ++ ys) (by rw [List.length_append, g3, hyl, Nat.add_mul]) (by simp; omega) (grownCap_ge w _ _ _) (fun k dd v h1 h2 => ?_) hr'
            rw [List.getElem?_append] at h1 h2
            have hlen2 : (cur.toList.take (len * i.size)).length = cs.length := by simp; omega
            rw [hlen2] at h2
            by_cases hk : k < cs.length
            · rw [if_pos hk] at h1 h2
              rw [List.getElem?_take, if_pos (by omega)] at h2
              exact hpp k dd v h1 (by simpa using h2)
            · rw [if_neg hk] at h1 h2
              exact hvv _ dd v h1 h2
        · have hcs0 : cs = [] := List.eq_nil_of_length_eq_zero (by omega)
          subst hcs0
          have hr := run_append_nil (P := P) w t ty e i z ht hi hz ad m c news (by omega) hcell hmp (by omega) (by
            have : m * i.bytes ≤ (0 + m) * i.bytes := Nat.mul_le_mul_right _ (by omega)
            omega)
          rw [← e1, ← e2] at hr
          rw [Nat.zero_add, List.nil_append]
          exact snd_app_new hR t e x y i hzs hyl hnl (grownCap_ge w m 0 e) hvv hr
  · cases he

/-! ### All of them -/
theorem sParts_struct {fs : Array Field} {t : TypeId} {places : List (Nat × Nat)} (ht : P.underlying t = some (.struct fs)) (hp : fs.toList.mapM (fun f => (tSize P f.type).map fun n => (f.offset, n)) = some places)
    (zv : Value) (i : TypeInfo) (parts : List (Nat × Value)) (hi : P.info? t = some i) (hz : i.zero = some zv) : P.built t parts = Instr.fill (places[·]?) zv.cells parts := by
  have hp' : fs.toList.mapM (fun f => (P.info? f.type).map fun i => (f.offset, i.size)) = some places := by
    rw [← hp]
    congr 1
    funext f
    simp only [tSize, Option.map_map]
    rfl
  simp [Program.built, hi, ht, hz, hp']
theorem sParts_array {len : Nat} {e t : TypeId} {n : Nat} (ht : P.underlying t = some (.array len e)) (hn : tSize P e = some n)
    (zv : Value) (i : TypeInfo) (parts : List (Nat × Value)) (hi : P.info? t = some i) (hz : i.zero = some zv) : P.built t parts = Instr.fill (fun i => some (i * n, n)) zv.cells parts := by
  simp only [tSize, Option.map_eq_some_iff] at hn
  obtain ⟨j, hj, rfl⟩ := hn
  simp [Program.built, hi, ht, hz, hj]

theorem opE_sound (hE : EV vs ε w L (Av G.S L) a) (hR : R G L σ h a w) (op : Op) {p : DOp} (hs : sOp P vs own dst op = some p) (he : opE nb dst (ε) h p = some (d, ef)) :
    Snd P G σ h a w ⟨dst, op, ty, pos, after, guard⟩ d ef := by
  cases op with
  | move x => simp only [sOp, Option.some.injEq] at hs; subst hs; simp only [opE, Option.some.injEq] at he; cases he; exact snd_mv hE hR x (.inl rfl)
  | assign x => simp only [sOp, Option.some.injEq] at hs; subst hs; simp only [opE, Option.some.injEq] at he; cases he; exact snd_mv hE hR x (.inr rfl)
  | pick c x y => simp only [sOp, Option.some.injEq] at hs; subst hs; exact snd_pick nb hE hR c x y he
  | alloc e =>
    simp only [sOp, Option.map_eq_some_iff] at hs
    obtain ⟨z, hz, rfl⟩ := hs
    exact snd_alloc nb hE hR e hz he
  | box e x => simp only [sOp, Option.some.injEq] at hs; subst hs; exact snd_box nb hE hR e x he
  | build t ps =>
    simp only [sOp] at hs
    split at hs
    · rename_i fs ht
      split at hs
      · rename_i places hp
        simp only [Option.bind_eq_some_iff, Option.map_eq_some_iff] at hs
        obtain ⟨z, hz, qs, hq, rfl⟩ := hs
        exact snd_build nb hE hR t ps hz hq (fun zv i parts => sParts_struct ht hp zv i parts) he
      · cases hs
    · rename_i len e ht
      simp only [Option.bind_eq_some_iff, Option.map_eq_some_iff] at hs
      obtain ⟨n, hn, z, hz, qs, hq, rfl⟩ := hs
      exact snd_build nb hE hR t ps hz hq (fun zv i parts => sParts_array ht hn zv i parts) he
    · cases hs
  | buildSlice t len ps =>
    simp only [sOp] at hs
    split at hs
    · rename_i e ht
      simp only [Option.bind_eq_some_iff] at hs
      obtain ⟨n, hn, z, hz, hs⟩ := hs
      split at hs
      · cases hs
      · rename_i hc
        rw [Option.map_eq_some_iff] at hs
        obtain ⟨qs, hq, hs⟩ := hs
        have hn0 : n ≠ 0 := fun e => hc (.inl e)
        have hsm : len * n ≤ 4096 := by
          rcases Nat.lt_or_ge 4096 (len * n) with e | e
          · exact absurd (.inr e) hc
          · exact e
        split at hs
        · subst hs; exact snd_bsl' nb hE hR t e len ps ht hn hn0 hz hsm hq he
        · subst hs; exact snd_bsl nb hE hR t e len ps ht hn hn0 hz hsm hq he
    · cases hs
  | load t x =>
    simp only [sOp] at hs
    split at hs
    · rename_i hA
      rw [Option.map_eq_some_iff] at hs
      obtain ⟨n, hn, rfl⟩ := hs
      exact snd_ldn nb hE hR t x n hA hn he
    · rename_i hA
      split at hs
      · rename_i hu; cases hs; exact snd_ld nb hE hR t x (by simpa using hA) hu he
      · cases hs
  | store t x y =>
    simp only [sOp, Option.map_eq_some_iff] at hs
    obtain ⟨n, hn, hs⟩ := hs
    split at hs
    · rename_i e; subst e; subst hs; exact snd_st nb hE hR t x y hn he
    · subst hs; exact snd_stn nb hE hR t x y hn he
  | nilCheck x => simp only [sOp, Option.some.injEq] at hs; subst hs; exact snd_nilc nb hE hR x he
  | binOp op t x y u =>
    have gen : ∀ {q : DOp}, some (DOp.bin op (sOpd vs x) (sOpd vs y)) = some q → opE nb dst (ε) h q = some (d, ef) → Snd P G σ h a w ⟨dst, .binOp op t x y u, ty, pos, after, guard⟩ d ef := by
      intro q hq hq2; cases hq; exact snd_bin nb hE hR op t u x y hq2
    have cmp : (op = .eql ∨ op = .neq) → (match P.underlying t with
        | some .bool => some (DOp.beq (op == .neq) (sOpd vs x) (sOpd vs y))
        | some (.int _) | some .string => some (.bin op (sOpd vs x) (sOpd vs y))
        | _ => none) = some p → Snd P G σ h a w ⟨dst, .binOp op t x y u, ty, pos, after, guard⟩ d ef := by
      intro hop hs
      split at hs
      · rename_i ht; cases hs; exact snd_beq nb hE hR op hop t u ht x y he
      · exact gen hs he
      · exact gen hs he
      · cases hs
    cases op <;> first | exact gen hs he | exact cmp (.inl rfl) hs | exact cmp (.inr rfl) hs
  | unOp op t x => simp only [sOp, Option.some.injEq] at hs; subst hs; exact snd_un nb hE hR op t x he
  | convert src tgt x =>
    simp only [sOp] at hs
    split at hs
    · rename_i h1 h2; cases hs; exact snd_conv nb hE hR src tgt _ _ h1 h2 x he
    · rename_i h1 h2
      cases hs
      simp only [opE] at he
      have hx := hE x
      split at he
      · rename_i l hp
        cases he
        rw [hp] at hx
        exact Snd.val hR (v := a.eval x) (by simp [execOp, hx.inv_str, convert, run_underlying h1, run_underlying h2]) hx
      · cases he
    · rename_i e h1 h2
      split at hs
      · rename_i h3
        cases hs
        have h3' : P.underlying e = some (.int .u8) := by
          revert h3; cases hq : P.underlying e with
          | none => simp
          | some q => cases q <;> simp <;> (rename_i k; cases k <;> simp)
        exact snd_s2b nb hE hR src tgt e h1 h2 h3' x he
      · cases hs
    · rename_i e h1 h2
      split at hs
      · rename_i h3
        cases hs
        have h3' : P.underlying e = some (.int .u8) := by
          revert h3; cases hq : P.underlying e with
          | none => simp
          | some q => cases q <;> simp <;> (rename_i k; cases k <;> simp)
        exact snd_b2s nb hE hR src tgt e h1 h2 h3' x he
      · cases hs
    · cases hs
  | makeSlice t l c =>
    simp only [sOp] at hs
    split at hs
    · rename_i e ht
      simp only [Option.bind_eq_some_iff] at hs
      obtain ⟨i, hi, z, hz, hs⟩ := hs
      split at hs
      · cases hs
      · rename_i hc
        cases hs
        exact snd_mks nb hE hR t e l c ht hi hz (fun e => hc (.inl e)) (fun e => hc (.inr (.inl e))) (by
          rcases Nat.decEq z.length i.size with e | e
          · exact absurd (.inr (.inr e)) hc
          · exact e) he
    · cases hs
  | slice t x lo hi mx =>
    simp only [sOp] at hs
    split at hs
    · cases hs
    · rename_i hmx
      have : mx = none := by cases mx <;> simp_all
      subst this
      split at hs
      · rename_i e ht
        simp only [Option.bind_eq_some_iff] at hs
        obtain ⟨n, hn, hs⟩ := hs
        split at hs
        · cases hs
        · rename_i hn0; cases hs; exact snd_slc nb hE hR t e x lo hi ht hn hn0 he
      · rename_i ht; cases hs; exact snd_slcS nb hE hR t x lo hi ht he
      · cases hs
  | fieldAddr t x f =>
    simp only [sOp] at hs
    split at hs
    · rename_i fs ht
      simp only [Option.bind_eq_some_iff] at hs
      obtain ⟨g, hg, n, hn, hs⟩ := hs
      split at hs
      · cases hs
      · rename_i hn0; cases hs; exact snd_fad nb hE hR t x f ht hg hn hn0 he
    · cases hs
  | field t x f =>
    simp only [sOp] at hs
    split at hs
    · rename_i fs ht
      simp only [Option.bind_eq_some_iff] at hs
      obtain ⟨g, hg, n, hn, hs⟩ := hs
      split at hs
      · rename_i hA; cases hs; exact snd_fldn nb hE hR t x f n ht hg hA hn he
      · rename_i hA
        split at hs
        · rename_i hu; cases hs; exact snd_fld nb hE hR t x f ht hg (by simpa using hA) hu he
        · cases hs
    · cases hs
  | indexAddr t x i =>
    simp only [sOp] at hs
    split at hs
    · rename_i e ht
      simp only [Option.bind_eq_some_iff] at hs
      obtain ⟨n, hn, hs⟩ := hs
      split at hs
      · cases hs
      · rename_i hn0; cases hs; exact snd_iad nb hE hR t x i ht hn hn0 he
    · rename_i len e ht
      simp only [Option.bind_eq_some_iff] at hs
      obtain ⟨n, hn, hs⟩ := hs
      split at hs
      · cases hs
      · cases hs; exact snd_iaa nb hE hR t x i ht hn he
    · cases hs
  | index t x i =>
    simp only [sOp] at hs
    split at hs
    · rename_i ht; cases hs; exact snd_idx nb hE hR t x i ht he
    · cases hs
  | extract x i => simp only [sOp, Option.some.injEq] at hs; subst hs; exact snd_ext nb hE hR x i he
  | makeInterface t x =>
    simp only [sOp] at hs
    split at hs
    · cases hs
    · cases hs
    · rename_i u hu1 hu2
      cases hs
      exact snd_mki nb hE hR t hu2 (fun ms e => hu1 ms e) x he
  | panic x => simp only [sOp, Option.some.injEq] at hs; subst hs; simp [opE] at he
  | call c =>
    obtain ⟨callee, args, argTypes⟩ := c
    have one : ∀ {α : Type} {xs : Array α} {x : α}, xs.toList = [x] → xs = #[x] := fun e => Array.ext' e
    have two : ∀ {α : Type} {xs : Array α} {x y : α}, xs.toList = [x, y] → xs = #[x, y] := fun e => Array.ext' e
    cases callee with
    | value f =>
      cases f with
      | func f =>
        simp only [sOp] at hs
        split at hs
        · split at hs
          · cases hs; simp [opE] at he
          · cases hs
        · cases hs
      | _ => simp [sOp] at hs
    | invoke r m => simp [sOp] at hs
    | builtin b =>
      cases b with
      | len =>
        simp only [sOp] at hs
        split at hs
        · rename_i x t hargs hts
          obtain rfl := one hargs
          obtain rfl := one hts
          split at hs
          · rename_i ht; cases hs; exact snd_len_str nb hE hR t x ht he
          · rename_i e ht
            simp only [Option.bind_eq_some_iff] at hs
            obtain ⟨n, hn, hs⟩ := hs
            split at hs
            · cases hs
            · rename_i hn0; cases hs; exact snd_len_slice nb hE hR t x ht hn0 he
          · cases hs
        · cases hs
      | append =>
        simp only [sOp] at hs
        split at hs
        · rename_i x y t u hargs hts
          obtain rfl := two hargs
          obtain rfl := two hts
          split at hs
          · rename_i e e' ht hu
            split at hs
            · rename_i htu
              subst htu
              simp only [Option.bind_eq_some_iff] at hs
              obtain ⟨i, hi, hs⟩ := hs
              split at hs
              · cases hs
              · rename_i hc
                cases hs
                have hz : i.zero.map (·.cells.size) = some i.size := by
                  by_cases e : i.zero.map (·.cells.size) = some i.size
                  · exact e
                  · exact absurd (.inr e) hc
                rw [Option.map_eq_some_iff] at hz
                obtain ⟨z, hz, hzs⟩ := hz
                exact snd_app nb hE hR t e x y ht hi hz hzs (fun e => hc (.inl e)) he
            · cases hs
          · cases hs
        · cases hs
      | min =>
        simp only [sOp] at hs
        split at hs
        · rename_i x y hargs
          obtain rfl := two hargs
          cases hs
          exact snd_min2 nb hE hR x y argTypes he
        · cases hs
      | max =>
        simp only [sOp] at hs
        split at hs
        · rename_i x y hargs
          obtain rfl := two hargs
          cases hs
          exact snd_max2 nb hE hR x y argTypes he
        · cases hs
      | _ => simp [sOp] at hs
  | _ => simp [sOp] at hs
end
end Go.Dat
