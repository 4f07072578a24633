/- Lemmas of the walk; no conditions beyond those that each states. -/
import Derived.Shelf.Strings.Builder1
import Derived.Shelf.Strings.Builder2
import Derived.Shelf.Strings.BuilderF
import Derived.Shelf.Strings.BuilderK
import Derived.Shelf.Strings.Builder2Cap
import Derived.Shelf.Strings.Prefix
import Derived.Shelf.Bits.Mul64
import Derived.Shelf.Strings.Repeat
import Derived.Shelf.Strings.BuilderCap
import Derived.Test.YtammbggabhnfdaaProg
import Derived.OpenShut
import Derived.Below
import Derived.Test.YtammbggabhnfdaaC1
import Derived.Test.YtammbggabhnfdaaN1
import Derived.Test.YtammbggabhnfdaaD2
set_option linter.unusedSimpArgs false
set_option linter.unusedVariables false
set_option linter.unnecessarySimpa false
namespace Go.Proofs
open Go.Shelf
def Try.lays169_ren : Go.Shelf.Ren := ⟨fun | 169 => 10 | n => n, fun | 70 => 32 | 9 => 9 | 0 => 0 | 72 => 35 | 37 => 33 | 127 => 49 | 3 => 3 | 5 => 5 | n => n, fun | n => n⟩
theorem Try.lays169 : Go.Proofs.Lays.n169 Try.prog Try.lays169_ren := {
  mixed := by kernel_rfl
  f169 := Try.func10.trans (congrArg some (by kernel_rfl))
  t0 := Try.underlying0
  a0 := Try.isAgg0
  z0 := Try.sizeOf0
  v0 := Try.zeroValue0
  t3 := Try.underlying3
  a3 := Try.isAgg3
  z3 := Try.sizeOf3
  v3 := Try.zeroValue3
  t9 := Try.underlying9
  a9 := Try.isAgg9
  z9 := Try.sizeOf9
  v9 := Try.zeroValue9
  t37 := Try.underlying33
  a37 := Try.isAgg33
  z37 := Try.sizeOf33
  v37 := Try.zeroValue33
  t70 := Try.underlying32
  a70 := Try.isAgg32
  z70 := Try.sizeOf32
  v70 := Try.zeroValue32
  t72 := Try.underlying35
  a72 := Try.isAgg35
  z72 := Try.sizeOf35
  v72 := Try.zeroValue35
  t127 := Try.underlying49
  a127 := Try.isAgg49
  z127 := Try.sizeOf49
  v127 := Try.zeroValue49 }
theorem Try.Builder_Extra_169 : Builder.Extra Try.prog Try.lays169_ren := {
  sizeBuilder := by kernel_rfl
  liesBuilder := by kernel_rfl
  t5 := Try.underlying5
  a5 := Try.isAgg5
  z5 := Try.sizeOf5
  v5 := Try.zeroValue5
  infoByte := by kernel_rfl
  cellsByte := by kernel_rfl
  sizeByte := by kernel_rfl
  neB5 := by decide }
open Go.RowKit in
theorem Try.Builder_String_any_f (B b : Nat) (l : List UInt8) (w : World) (h : Lib.IsBuilderF 35 5 B b (Lib.byteCells l) w) (hBw : B ≤ w.heap.size) :
    Calls Try.prog 10 #[.pointer (some ⟨b, 0, none⟩)] w fun e w' => e = .returned (.string ⟨l.toArray⟩) ∧ (Lib.IsBuilderF 35 5 B b (Lib.byteCells l) w' ∧ Below B w w') := Any.Builder_String_any_f Try.lays169 Try.Builder_Extra_169 B b l w h hBw
def Try.lays105_ren : Go.Shelf.Ren := ⟨fun | 105 => 8 | 212 => 12 | 99 => 13 | 165 => 14 | 166 => 7 | 170 => 15 | 169 => 10 | 263 => 17 | 264 => 18 | 206 => 19 | 240 => 11 | 241 => 20 | 276 => 16 | 277 => 21 | n => n, fun | 9 => 9 | 3 => 3 | 4 => 4 | 20 => 20 | 0 => 0 | 46 => 43 | 109 => 44 | 5 => 5 | 72 => 35 | 76 => 38 | 51 => 52 | 146 => 53 | 53 => 55 | 148 => 56 | 70 => 32 | 37 => 33 | 75 => 37 | 127 => 49 | 164 => 50 | 80 => 42 | n => n, fun | n => n⟩
theorem Try.lays105 : Go.Proofs.Lays.n105 Try.prog Try.lays105_ren := {
  mixed := by kernel_rfl
  f99 := Try.func13.trans (congrArg some (by kernel_rfl))
  f105 := Try.func8.trans (congrArg some (by kernel_rfl))
  f165 := Try.func14.trans (congrArg some (by kernel_rfl))
  f166 := Try.func7.trans (congrArg some (by kernel_rfl))
  f169 := Try.func10.trans (congrArg some (by kernel_rfl))
  f170 := Try.func15.trans (congrArg some (by kernel_rfl))
  f206 := Try.func19.trans (congrArg some (by kernel_rfl))
  f212 := Try.func12.trans (congrArg some (by kernel_rfl))
  f240 := Try.func11.trans (congrArg some (by kernel_rfl))
  f241 := Try.func20.trans (congrArg some (by kernel_rfl))
  f263 := Try.func17.trans (congrArg some (by kernel_rfl))
  f264 := Try.func18.trans (congrArg some (by kernel_rfl))
  f276 := Try.func16.trans (congrArg some (by kernel_rfl))
  f277 := Try.func21.trans (congrArg some (by kernel_rfl))
  t0 := Try.underlying0
  a0 := Try.isAgg0
  z0 := Try.sizeOf0
  v0 := Try.zeroValue0
  t3 := Try.underlying3
  a3 := Try.isAgg3
  z3 := Try.sizeOf3
  v3 := Try.zeroValue3
  t4 := Try.underlying4
  a4 := Try.isAgg4
  z4 := Try.sizeOf4
  v4 := Try.zeroValue4
  t5 := Try.underlying5
  a5 := Try.isAgg5
  z5 := Try.sizeOf5
  v5 := Try.zeroValue5
  t9 := Try.underlying9
  a9 := Try.isAgg9
  z9 := Try.sizeOf9
  v9 := Try.zeroValue9
  t20 := Try.underlying20
  a20 := Try.isAgg20
  z20 := Try.sizeOf20
  v20 := Try.zeroValue20
  t37 := Try.underlying33
  a37 := Try.isAgg33
  z37 := Try.sizeOf33
  v37 := Try.zeroValue33
  t46 := Try.underlying43
  a46 := Try.isAgg43
  z46 := Try.sizeOf43
  v46 := Try.zeroValue43
  t51 := Try.underlying52
  a51 := Try.isAgg52
  z51 := Try.sizeOf52
  v51 := Try.zeroValue52
  t53 := Try.underlying55
  a53 := Try.isAgg55
  z53 := Try.sizeOf55
  v53 := Try.zeroValue55
  t70 := Try.underlying32
  a70 := Try.isAgg32
  z70 := Try.sizeOf32
  v70 := Try.zeroValue32
  t72 := Try.underlying35
  a72 := Try.isAgg35
  z72 := Try.sizeOf35
  v72 := Try.zeroValue35
  t75 := Try.underlying37
  a75 := Try.isAgg37
  z75 := Try.sizeOf37
  v75 := Try.zeroValue37
  t76 := Try.underlying38
  a76 := Try.isAgg38
  z76 := Try.sizeOf38
  v76 := Try.zeroValue38
  t109 := Try.underlying44
  a109 := Try.isAgg44
  z109 := Try.sizeOf44
  v109 := Try.zeroValue44
  t127 := Try.underlying49
  a127 := Try.isAgg49
  z127 := Try.sizeOf49
  v127 := Try.zeroValue49
  t146 := Try.underlying53
  a146 := Try.isAgg53
  z146 := Try.sizeOf53
  v146 := Try.zeroValue53
  t148 := Try.underlying56
  a148 := Try.isAgg56
  z148 := Try.sizeOf56
  v148 := Try.zeroValue56
  t164 := Try.underlying50
  a164 := Try.isAgg50
  z164 := Try.sizeOf50
  v164 := Try.zeroValue50 }
theorem Try.Builder_Extra_105 : Builder.Extra Try.prog Try.lays105_ren := {
  sizeBuilder := by kernel_rfl
  liesBuilder := by kernel_rfl
  t5 := Try.underlying5
  a5 := Try.isAgg5
  z5 := Try.sizeOf5
  v5 := Try.zeroValue5
  infoByte := by kernel_rfl
  cellsByte := by kernel_rfl
  sizeByte := by kernel_rfl
  neB5 := by decide }
open Go.RowKit Go.Lib in
theorem Try.strings_Repeat (s : ByteArray) (c : Nat) (w : World) (hc : c ≤ 9223372036854775807) (hlen : s.size * c ≤ 140737488355328) :
    Calls Try.prog 8 #[.string s, .int .i64 c] w fun e w' => e = .returned (.string ⟨(Lib.repeatL s.data.toList c).toArray⟩) ∧ Below w.heap.size w w' := Any.strings_Repeat Try.lays105 Try.Builder_Extra_105 s c w hc hlen
end Go.Proofs
namespace Go.Proofs.Ytammbggabhnfdaa
open Go Go.Proofs Go.RowKit Go.Shelf
theorem sizeB : (Try.prog.info? 35).map (·.size) = some 2 := by kernel_rfl
theorem liesB : liesAt Try.prog Try.prog.depth 35 (2 / Try.prog.cellsOf 35) 0 35 1 = true := by kernel_rfl
theorem infoU8 : (Try.prog.info? 5).map (fun i => (i.zero, i.size, i.bytes)) = some (some (.int .u8 0), 1, 1) := by kernel_rfl
set_option maxHeartbeats 1000000 in
set_option maxRecDepth 100000 in
theorem bCopy_used (b : Nat) (w : World) (h0 : w.cell? ⟨b, 0, none⟩ = some (.pointer (some ⟨b, 0, none⟩))) :
    Calls Try.prog 11 #[.pointer (some ⟨b, 0, none⟩)] w fun e w' => e = .returned (.tuple #[]) ∧ w' = w := by
  obtain ⟨j, hj, _⟩ := Option.map_eq_some_iff.1 sizeB
  go_enter Try.func11, Try.ntmps11
  go_wp2
  rw [Lib.run_neq_ptr_same w _ Try.underlying32 hj]
  go_wp2
  go_end0
  exact ⟨rfl, rfl⟩
set_option maxHeartbeats 1000000 in
set_option maxRecDepth 100000 in
theorem bCopy_fresh (b : Nat) (w : World) (h0 : w.cell? ⟨b, 0, none⟩ = some (.pointer none)) (hsh : w.shape? b = some (35, 2)) (hfz : w.frozen? ⟨b, 0, none⟩ = false) :
    Calls Try.prog 11 #[.pointer (some ⟨b, 0, none⟩)] w fun e w' => e = .returned (.tuple #[]) ∧ w' = w.setCell ⟨b, 0, none⟩ (.pointer (some ⟨b, 0, none⟩)) := by
  obtain ⟨j, hj, hjs⟩ := Option.map_eq_some_iff.1 sizeB
  go_enter Try.func11, Try.ntmps11
  go_wp2
  rw [Lib.run_to_unsafe w ⟨b, 0, none⟩ Try.underlying32 Try.underlying50 hj (by rw [hjs]; decide) hsh (Nat.zero_lt_succ 1)]
  simp only [Result.andThen]
  rw [Oper.upon_value]
  go_wp2
  rw [run_callFunc_extern Try.func16 (by kernel_rfl) (by kernel_rfl) (by kernel_rfl) (e := Extern.AbiNoEscape.same) (by kernel_rfl)]
  rw [Lib.run_noEscape]
  simp only [Result.andThen]
  rw [Oper.upon_value]
  go_wp2
  rw [Lib.run_from_unsafe w ⟨b, 0, none⟩ Try.underlying50 Try.underlying32 hj hsh liesB]
  simp only [Result.andThen]
  rw [Oper.upon_value]
  go_wp2
  go_end0
  exact ⟨rfl, rfl⟩
theorem bCopy_f (B b : Nat) (bs : List Value) (w : World) (h : Lib.IsBuilderF 35 5 B b bs w) :
    Calls Try.prog 11 #[.pointer (some ⟨b, 0, none⟩)] w fun e w' => e = .returned (.tuple #[]) ∧ (Lib.BuilderAtF 35 5 B b (.pointer (some ⟨b, 0, none⟩)) bs w' ∧ Below B w w') := by
  rcases h with h | h
  · refine (bCopy_fresh b w h.cell0 h.shape h.frozen0).mono ?_
    rintro e w' ⟨rfl, rfl⟩
    exact ⟨rfl, h.used _, (Below.refl B w).setCell (p := ⟨b, 0, none⟩) h.1 _⟩
  · refine (bCopy_used b w h.cell0).mono ?_
    rintro e w' ⟨rfl, rfl⟩
    exact ⟨rfl, h, Below.refl B _⟩
set_option maxHeartbeats 2000000 in
set_option maxRecDepth 100000 in
theorem bWriteString (B b : Nat) (bs : List Value) (s : ByteArray) (w : World) (h : Lib.IsBuilderF 35 5 B b bs w) (hlen : bs.length + s.size ≤ 140737488355328) (hBw : B ≤ w.heap.size) :
    Calls Try.prog 7 #[.pointer (some ⟨b, 0, none⟩), .string s] w fun e w' => e = .returned (.tuple #[.int .i64 s.size, .nilIface]) ∧ (Lib.BuilderAtF 35 5 B b (.pointer (some ⟨b, 0, none⟩)) (bs ++ Lib.strCells s) w' ∧ Below B w w') := by
  obtain ⟨i0, hi, hz0, hz1, hz2⟩ := info_parts infoU8
  go_enter Try.func7, Try.ntmps7
  go_wp2_with (go_at_call 11; refine (bCopy_f B b bs _ h).mono ?_)
  rintro e w1 ⟨rfl, h1, hb1⟩
  obtain ⟨hB, v, hbk, hown, hne⟩ := h1
  have c0 : w1.cell? ⟨b, 0, none⟩ = some (.pointer (some ⟨b, 0, none⟩)) := by rw [Lib.cell_of_heap hbk]; rfl
  have c1 : w1.cell? ⟨b, 1, none⟩ = some v := by rw [Lib.cell_of_heap hbk]; rfl
  go_wp2_with (at_builtin; refine Lib.wpList_append_own_stringF _ rfl _ _ 33 9 rfl B 5 i0 Try.underlying33 Try.underlying9 hi hz0 hz1 hz2 _ _ _ rfl hown s rfl ?c3 ?c4 ?c5 ?_)
  case c3 => unfold maxLen; omega
  case c4 => omega
  case c5 => have := hb1.size; omega
  intro v' w2 hown' hgrow _
  have hlt : b < w1.heap.size := by
    rcases Nat.lt_or_ge b w1.heap.size with h' | h'
    · exact h'
    · simp [Array.getElem?_eq_none h'] at hbk
  have hb2 : w2.heap[b]? = some (.cells #[.pointer (some ⟨b, 0, none⟩), v] 35 (0, 0)) := by
    rw [hgrow.block b hlt (fun e => hne e.symm)]
    exact hbk
  have d0 : w2.cell? ⟨b, 0, none⟩ = some (.pointer (some ⟨b, 0, none⟩)) := by rw [Lib.cell_of_heap hb2]; rfl
  have d1 : w2.cell? ⟨b, 1, none⟩ = some v := by rw [Lib.cell_of_heap hb2]; rfl
  have f1 : w2.frozen? ⟨b, 1, none⟩ = false := Lib.frozen_of_heap hb2 1
  obtain ⟨ao, n', cap, rfl⟩ : ∃ ao n' cap, v' = .slice ao n' cap := by
    rcases hown'.2 with ⟨hv, _⟩ | ⟨g, cap, cur, fz, hv, _⟩
    · exact ⟨_, _, _, hv⟩
    · exact ⟨_, _, _, hv⟩
  go_wp2
  go_ret2
  refine ⟨rfl, ?_, ?_⟩
  · exact Lib.BuilderAtF.put (T := 35) (e := 5) hB hb2 (bs' := bs ++ Lib.strCells s) (by simpa [Lib.strCells_length] using hown') (by decide)
  · exact (hb1.grown hgrow (by have := hb1.size; omega) (fun k hk => (hown.lt k hk).1)).setCell (p := ⟨b, 1, none⟩) hB _
set_option maxHeartbeats 2000000 in
set_option maxRecDepth 100000 in
theorem bWriteByte (B b : Nat) (bs : List Value) (c : Int) (w : World) (h : Lib.IsBuilderF 35 5 B b bs w) (hlen : bs.length + 1 ≤ 140737488355328) (hBw : B ≤ w.heap.size) :
    Calls Try.prog 9 #[.pointer (some ⟨b, 0, none⟩), .int .u8 c] w fun e w' => e = .returned .nilIface ∧ (Lib.BuilderAtF 35 5 B b (.pointer (some ⟨b, 0, none⟩)) (bs ++ [.int .u8 c]) w' ∧ Below B w w') := by
  obtain ⟨i0, hi, hz0, hz1, hz2⟩ := info_parts infoU8
  go_enter Try.func9, Try.ntmps9
  go_wp2_with (go_at_call 11; refine (bCopy_f B b bs _ h).mono ?_)
  rintro e w1 ⟨rfl, h1, hb1⟩
  obtain ⟨hB, v, hbk, hown, hne⟩ := h1
  have c0 : w1.cell? ⟨b, 0, none⟩ = some (.pointer (some ⟨b, 0, none⟩)) := by rw [Lib.cell_of_heap hbk]; rfl
  have c1 : w1.cell? ⟨b, 1, none⟩ = some v := by rw [Lib.cell_of_heap hbk]; rfl
  go_wp2_with (at_builtin; refine wpList_append_ownF _ rfl _ _ 33 rfl B 5 i0 (.int .u8 0) 1 1 Try.underlying33 hi hz0 hz1 hz2 rfl (by decide) _ _ _ rfl (hown.alloc _) ⟨w1.heap.size, 0, none⟩ 1 1 [.int .u8 c] rfl rfl ?c1 ?c2 ?c3 ?c4 ?c5 ?_)
  case c1 =>
    intro j u hj
    match j, hj with
    | 0, hj => simp at hj; subst hj; simp [Addr.add]
  case c2 => intro u hu; simp at hu; subst hu; rfl
  case c3 => unfold maxLen; omega
  case c4 => omega
  case c5 => have := hb1.size; simp; omega
  intro v' w2 hown' hgrow _
  have hlt : b < w1.heap.size := by
    rcases Nat.lt_or_ge b w1.heap.size with h' | h'
    · exact h'
    · simp [Array.getElem?_eq_none h'] at hbk
  have hb2 : w2.heap[b]? = some (.cells #[.pointer (some ⟨b, 0, none⟩), v] 35 (0, 0)) := by
    rw [hgrow.block b (by simp; omega) (fun e => hne e.symm), Lib.alloc_old w1 _ b hlt]
    exact hbk
  have d0 : w2.cell? ⟨b, 0, none⟩ = some (.pointer (some ⟨b, 0, none⟩)) := by rw [Lib.cell_of_heap hb2]; rfl
  have d1 : w2.cell? ⟨b, 1, none⟩ = some v := by rw [Lib.cell_of_heap hb2]; rfl
  have f1 : w2.frozen? ⟨b, 1, none⟩ = false := Lib.frozen_of_heap hb2 1
  obtain ⟨g, cap, rfl⟩ : ∃ g cap, v' = .slice (some ⟨g, 0, none⟩) (bs.length + 1) cap := by
    rcases hown'.2 with ⟨_, h0⟩ | ⟨g, cap, cur, fz, hv, _⟩
    · omega
    · exact ⟨g, cap, hv⟩
  go_wp2
  go_ret
  refine ⟨rfl, ?_, ?_⟩
  · exact Lib.BuilderAtF.put (T := 35) (e := 5) hB hb2 (bs' := bs ++ [.int .u8 c]) (by simpa using hown') (by decide)
  · exact ((hb1.alloc (by have := hb1.size; omega) _).grown hgrow (by have := hb1.size; simp; omega) (fun k hk => (hown.lt k hk).1)).setCell (p := ⟨b, 1, none⟩) hB _
end Go.Proofs.Ytammbggabhnfdaa
namespace Go.Proofs.Ytammbggabhnfdaa
open Go Go.Proofs Go.RowKit Go.Shelf Nat32
theorem add_blk (a : Addr) (n : Nat) : (a.add n).block = a.block := by unfold Addr.add; split <;> rfl
theorem add0 (a : Addr) : a.add 0 = a := by unfold Addr.add; rw [if_pos rfl]
theorem rep_len (n : Nat) : (Lib.repeatL [32] n).length = n := by
  have := Lib.repeatL_length [32] n
  simpa using this
theorem rep_list (n : Nat) : (⟨(Lib.repeatL [32] n).toArray⟩ : ByteArray).data.toList = List.replicate n 32 := by
  show Lib.repeatL [32] n = _
  have := Lib.repeatL_replicate 32 1 n
  rw [Nat.mul_one] at this
  exact this
theorem below_le {B C : Nat} {w w' : World} (h : Below C w w') (hB : B ≤ C) : Below B w w' := ⟨h.os, h.tape, h.output, h.size, fun k hk => h.block k (Nat.lt_of_lt_of_le hk hB)⟩
theorem BAt_below {T e : TypeId} {B b : Nat} {p : Value} {bs : List Value} {w w' : World} (h : Lib.BuilderAtF T e B b p bs w) (hb : Below w.heap.size w w') : Lib.BuilderAtF T e B b p bs w' := by
  have hlt := h.lt
  obtain ⟨hB, v, hbk, hown, hne⟩ := h
  refine ⟨hB, v, (hb.block b hlt).trans hbk, ⟨hown.1, ?_⟩, hne⟩
  rcases hown.2 with h1 | ⟨g, cap, cur, fz, e1, e2, e3, r⟩
  · exact .inl h1
  · exact .inr ⟨g, cap, cur, fz, e1, e2, (hb.block g (Array.getElem?_eq_some_iff.1 e3).1).trans e3, r⟩
theorem IsB_below {T e : TypeId} {B b : Nat} {bs : List Value} {w w' : World} (h : Lib.IsBuilderF T e B b bs w) (hb : Below w.heap.size w w') : Lib.IsBuilderF T e B b bs w' := h.imp (fun x => BAt_below x hb) (fun x => BAt_below x hb)
structure Hd (p : Prop) : Prop where
  out : p
noncomputable def part2 : Code := match Try.f4.body with | some (.seq _ (.seq _ (.seq _ (.seq _ (.seq _ (.seq _ t)))))) => t | _ => .skip
set_option maxHeartbeats 8000000 in
set_option maxRecDepth 1000000 in
theorem part2_walk (w : World) (ad : Addr) (N m c0 bw cw : Nat) (A : Nat → Addr) (C : Nat → Nat) (recs : List (List (List UInt8))) (wd : Nat → Nat) (hN : N ≤ 1024) (hm : m ≤ 32)
    (hrec : ∀ i, i < N → w.cell? (ad.add i) = some (.slice (some (A i)) m (C i)))
    (hcell : ∀ i, i < N → ∀ j, j < m → w.cell? ((A i).add j) = some (.string ⟨((recs.getD i []).getD j []).toArray⟩))
    (hwid : ∀ j, j < m → w.cell? ⟨bw, j, none⟩ = some (.int .i64 (wd j : Nat)))
    (hle : ∀ i j, ((recs.getD i []).getD j []).length ≤ wd j) (hwd : ∀ j, wd j ≤ 32) (u1 u2 u3 u4 u5 u6 u8 u9 u10 u11 u12 u13 u14 u15 u16 u17 u18 u19 u20 u21 u22 u23 u24 u25 u26 u27 u28 u29 u30 u31 u32 u33 u34 u35 u36 u37 u38 u39 u40 u41 u42 u43 u44 u45 u46 u47 u48 u49 u50 u51 u52 u53 u54 u55 u56 u57 u58 u59 u60 u61 u62 u63 u64 u65 u66 u67 u68 u69 u70 u71 u72 u73 u74 u75 u76 u77 u78 u79 u80 u81 u82 u83 u84 u85 u86 u87 u88 u89 u90 u91 u92 u93 u94 u95 u96 u97 u98 u99 u100 u101 u102 u103 u104 u105 u106 u107 u108 : Value)
    (Q : Exit → Act → World → Prop)
    (hQ : ∀ (tmps : Array Value) (w' : World), tmps.size = 109 → tmps.getD 2 undef = .string ⟨(colT wd recs m N).toArray⟩ → tmps.getD 3 undef = .int .i64 0 → Below w.heap.size w w' → Q .ret { tmps := tmps, defers := [] } w') :
    Code.wp Try.prog part2 Q { tmps := List.toArray (.slice (some ad) N c0 :: u1 :: u2 :: u3 :: u4 :: u5 :: u6 :: .slice (some ⟨bw, 0, none⟩) m cw :: u8 :: u9 :: u10 :: u11 :: u12 :: u13 :: u14 :: u15 :: u16 :: u17 :: u18 :: u19 :: u20 :: u21 :: u22 :: u23 :: u24 :: u25 :: u26 :: u27 :: u28 :: u29 :: u30 :: u31 :: u32 :: u33 :: u34 :: u35 :: u36 :: u37 :: u38 :: u39 :: u40 :: u41 :: u42 :: u43 :: u44 :: u45 :: u46 :: u47 :: u48 :: u49 :: u50 :: u51 :: u52 :: u53 :: u54 :: u55 :: u56 :: u57 :: u58 :: u59 :: u60 :: u61 :: u62 :: u63 :: u64 :: u65 :: u66 :: u67 :: u68 :: u69 :: u70 :: u71 :: u72 :: u73 :: u74 :: u75 :: u76 :: u77 :: u78 :: u79 :: u80 :: u81 :: u82 :: u83 :: u84 :: u85 :: u86 :: u87 :: u88 :: u89 :: u90 :: u91 :: u92 :: u93 :: u94 :: u95 :: u96 :: u97 :: u98 :: u99 :: u100 :: u101 :: u102 :: u103 :: u104 :: u105 :: u106 :: u107 :: u108 :: []), defers := [] } w := by
  have HR := Hd.mk hrec
  have HC := Hd.mk hcell
  have HW := Hd.mk hwid
  have HL := Hd.mk hle
  have HD := Hd.mk hwd
  have HQ := Hd.mk hQ
  have HT := Hd.mk (fun i => colT_len (n := m) hm hle hwd i)
  have HT2 := Hd.mk (fun i k => rowT_len (hle i) hwd k)
  clear hrec hcell hwid hle hwd hQ
  unfold part2 Try.f4
  dsimp only
  go_wp2
  go_loopw [80] (fun i wr => ∃ k : Nat, k ≤ N ∧ i = .int .i64 k ∧ Hd (Lib.IsBuilderF 35 5 w.heap.size w.heap.size (Lib.byteCells (colT wd recs m k)) wr) ∧ Hd (Below w.heap.size w wr)) (fun i _ => N - (intOf i).toNat)
  case atStart =>
    refine ⟨0, Nat.zero_le _, rfl, ⟨.inl ⟨Nat.le_refl _, .slice none 0 0, heap_alloc_new w _, ⟨rfl, .inl ⟨rfl, rfl⟩⟩, by simp [Value.ownBlock]⟩⟩, ⟨(Below.refl _ _).alloc (Nat.le_refl _) _⟩⟩
  case round =>
    obtain ⟨k, hk, rfl, HB, HW2⟩ := hrel
    by_cases hkn : k < N
    · have c1 : wr.cell? (ad.add k) = some (.slice (some (A k)) m (C k)) := by
        rw [HW2.out.cell (World.block_lt_of_cell? w _ (HR.out k hkn))]; exact HR.out k hkn
      have hbs := HW2.out.size
      go_wp2
      go_hide hQ2
      go_loopw [86] (fun i w2 => ∃ j : Nat, j ≤ m ∧ i = .int .i64 j ∧ Hd (Lib.IsBuilderF 35 5 w.heap.size w.heap.size (Lib.byteCells (colT wd recs m k ++ rowT wd (recs.getD k []) j)) w2) ∧ Hd (Below w.heap.size w w2)) (fun i _ => m - (intOf i).toNat)
      case atStart => exact ⟨0, Nat.zero_le _, rfl, ⟨by rw [rowT_zero, List.append_nil]; exact HB.out⟩, HW2⟩
      case round =>
        obtain ⟨j, hj, rfl, HB2, HW3⟩ := hrel
        by_cases hjm : j < m
        · have c2 : wr.cell? ((A k).add j) = some (.string ⟨((recs.getD k []).getD j []).toArray⟩) := by
            rw [HW3.out.cell (World.block_lt_of_cell? w _ (HC.out k hkn j hjm))]; exact HC.out k hkn j hjm
          have c3 : wr.cell? ⟨bw, j, none⟩ = some (.int .i64 (wd j : Nat)) := by
            rw [HW3.out.cell (World.block_lt_of_cell? w _ (HW.out j hjm))]; exact HW.out j hjm
          have l1 := HL.out k j
          have l2 := HD.out j
          have l3 := HT.out k
          have l4 := HT2.out k j
          have hstep := rowT_succ wd (recs.getD k []) j
          generalize (recs.getD k []).getD j [] = S at *
          have hss : (⟨S.toArray⟩ : ByteArray).size = S.length := rfl
          have hw : ((wd j : Int) - (S.length : Int)) = ((wd j - S.length : Nat) : Int) := by omega
          have hbz := HW3.out.size
          have hl0 : (Lib.byteCells (colT wd recs m k ++ rowT wd (recs.getD k []) j)).length = (colT wd recs m k).length + (rowT wd (recs.getD k []) j).length := by
            rw [Lib.byteCells_length, List.length_append]
          have hlB : (Lib.byteCells (colT wd recs m k ++ rowT wd (recs.getD k []) j)).length ≤ 1089 * 1024 + 34 * 32 := by
            rw [Lib.byteCells_length, List.length_append]; omega
          have hbw : bw < w.heap.size := World.block_lt_of_cell? w _ (HW.out j hjm)
          have hA : (A k).block < w.heap.size := by have := World.block_lt_of_cell? w _ (HC.out k hkn j hjm); rwa [add_blk] at this
          have h1z : (⟨#[32]⟩ : ByteArray).size = 1 := rfl
          have h2z : (⟨#[32, 32]⟩ : ByteArray).size = 2 := rfl
          have hrp : (⟨(Lib.repeatL [32] (wd j - S.length)).toArray⟩ : ByteArray).size ≤ 32 := by
            show (Lib.repeatL [32] (wd j - S.length)).length ≤ 32
            rw [rep_len]; omega
          by_cases hj0 : j = 0
          · subst hj0
            rw [add0] at c2
            have hl3 := hl0
            have z3 := hbz
            have H3 := HB2.out
            have B3 := HW3
            have hnext : Lib.byteCells (colT wd recs m k ++ rowT wd (recs.getD k []) 0) ++ Lib.strCells ⟨(Lib.repeatL [32] (wd 0 - S.length)).toArray⟩ ++ Lib.strCells ⟨S.toArray⟩ = Lib.byteCells (colT wd recs m k ++ rowT wd (recs.getD k []) (0 + 1)) := by
              rw [hstep, Lib.strCells_eq, Lib.strCells_eq, ← Lib.byteCells_append, ← Lib.byteCells_append]
              unfold cellT
              rw [if_neg (by omega), List.nil_append, rep_list]
              simp only [List.append_assoc]
            go_wp2_with fail
            refine (Try.strings_Repeat ⟨#[32]⟩ (wd 0 - S.length) wr (by omega) (by rw [h1z]; omega)).mono ?_
            rintro e w4 ⟨rfl, b4⟩
            have H4 := IsB_below H3 b4
            have z4 : w.heap.size ≤ w4.heap.size := Nat.le_trans z3 b4.size
            have B4 := Hd.mk (B3.out.trans (below_le b4 z3))
            clear b4 H3
            go_wp2_with fail
            refine (bWriteString w.heap.size w.heap.size _ _ w4 H4 (by rw [hl3]; omega) z4).mono ?_
            rintro e w5 ⟨rfl, h5, b5⟩
            have z5 : w.heap.size ≤ w5.heap.size := Nat.le_trans z4 b5.size
            have B5 := Hd.mk (B4.out.trans b5)
            clear b5 H4
            go_wp2_with fail
            refine (bWriteString w.heap.size w.heap.size _ _ w5 (Or.inr h5) (by rw [List.length_append, hl3, Lib.strCells_length]; omega) z5).mono ?_
            rintro e w6 ⟨rfl, h6, b6⟩
            have B6 := Hd.mk (B5.out.trans b6)
            clear b6 h5
            rw [hnext] at h6
            have H6 := Hd.mk (Or.inr h6 : Lib.IsBuilderF 35 5 w.heap.size w.heap.size _ w6)
            clear h6
            go_wp2
            exact ⟨⟨0 + 1, by omega, by go_num, H6, B6⟩, by simp [intOf]; omega⟩
          · have d0 : decide ((0 : Int) < (j : Int)) = true := decide_eq_true (by omega)
            have hnext : Lib.byteCells (colT wd recs m k ++ rowT wd (recs.getD k []) j) ++ Lib.strCells ⟨#[32, 32]⟩ ++ Lib.strCells ⟨(Lib.repeatL [32] (wd j - S.length)).toArray⟩ ++ Lib.strCells ⟨S.toArray⟩ = Lib.byteCells (colT wd recs m k ++ rowT wd (recs.getD k []) (j + 1)) := by
              rw [hstep, Lib.strCells_eq, Lib.strCells_eq, Lib.strCells_eq, ← Lib.byteCells_append, ← Lib.byteCells_append, ← Lib.byteCells_append]
              unfold cellT
              rw [if_pos (by omega), rep_list]
              simp only [List.append_assoc]
            go_wp2_with fail
            refine (bWriteString w.heap.size w.heap.size _ _ wr HB2.out (by rw [h2z, hl0]; omega) hbz).mono ?_
            rintro e w3 ⟨rfl, h3, b3⟩
            have c3b : w3.cell? ⟨bw, j, none⟩ = some (.int .i64 (wd j : Nat)) := (b3.cell (p := ⟨bw, j, none⟩) hbw).trans c3
            have z3 : w.heap.size ≤ w3.heap.size := Nat.le_trans hbz b3.size
            have H3 : Lib.IsBuilderF 35 5 w.heap.size w.heap.size _ w3 := Or.inr h3
            have B3 := Hd.mk (HW3.out.trans b3)
            have hl3 : (Lib.byteCells (colT wd recs m k ++ rowT wd (recs.getD k []) j) ++ Lib.strCells ⟨#[32, 32]⟩).length = (colT wd recs m k).length + (rowT wd (recs.getD k []) j).length + 2 := by
              rw [List.length_append, hl0, Lib.strCells_length, h2z]
            clear b3 h3
            go_wp2_with fail
            refine (Try.strings_Repeat ⟨#[32]⟩ (wd j - S.length) w3 (by omega) (by rw [h1z]; omega)).mono ?_
            rintro e w4 ⟨rfl, b4⟩
            have H4 := IsB_below H3 b4
            have z4 : w.heap.size ≤ w4.heap.size := Nat.le_trans z3 b4.size
            have B4 := Hd.mk (B3.out.trans (below_le b4 z3))
            clear b4 H3
            go_wp2_with fail
            refine (bWriteString w.heap.size w.heap.size _ _ w4 H4 (by rw [hl3]; omega) z4).mono ?_
            rintro e w5 ⟨rfl, h5, b5⟩
            have z5 : w.heap.size ≤ w5.heap.size := Nat.le_trans z4 b5.size
            have B5 := Hd.mk (B4.out.trans b5)
            clear b5 H4
            go_wp2_with fail
            refine (bWriteString w.heap.size w.heap.size _ _ w5 (Or.inr h5) (by rw [List.length_append, hl3, Lib.strCells_length]; omega) z5).mono ?_
            rintro e w6 ⟨rfl, h6, b6⟩
            have B6 := Hd.mk (B5.out.trans b6)
            clear b6 h5
            rw [hnext] at h6
            have H6 := Hd.mk (Or.inr h6 : Lib.IsBuilderF 35 5 w.heap.size w.heap.size _ w6)
            clear h6
            go_wp2
            exact ⟨⟨j + 1, by omega, by go_num, H6, B6⟩, by simp [intOf]; omega⟩
        · have hje : j = m := by omega
          have hbz := HW3.out.size
          have l3 := HT.out k
          have l4 := HT2.out k j
          have hl0 : (Lib.byteCells (colT wd recs m k ++ rowT wd (recs.getD k []) j)).length = (colT wd recs m k).length + (rowT wd (recs.getD k []) j).length := by
            rw [Lib.byteCells_length, List.length_append]
          have hnext : Lib.byteCells (colT wd recs m k ++ rowT wd (recs.getD k []) j) ++ [.int .u8 10] = Lib.byteCells (colT wd recs m (k + 1)) := by
            rw [colT_succ, hje, ← List.append_assoc, Lib.byteCells_append _ [10]]
            rfl
          have dj : decide ((j : Int) < (m : Int)) = false := decide_eq_false (by omega)
          go_wp2
          subst hQ2
          go_wp2_with fail
          refine (bWriteByte w.heap.size w.heap.size _ 10 wr HB2.out (by rw [hl0]; omega) hbz).mono ?_
          rintro e w3 ⟨rfl, h3, b3⟩
          rw [hnext] at h3
          have H3 := Hd.mk (Or.inr h3 : Lib.IsBuilderF 35 5 w.heap.size w.heap.size _ w3)
          have B3 := Hd.mk (HW3.out.trans b3)
          clear h3 b3
          go_wp2
          exact ⟨⟨k + 1, by omega, by go_num, H3, B3⟩, by simp [intOf]; omega⟩
    · have hke : k = N := by omega
      subst hke
      have hbs := HW2.out.size
      go_wp2_with (go_at_call 10; refine (Try.Builder_String_any_f w.heap.size w.heap.size _ _ HB.out hbs).mono ?_; rintro e w5 ⟨rfl, hb5, hw5⟩)
      exact HQ.out _ _ rfl rfl rfl (HW2.out.trans hw5)
end Go.Proofs.Ytammbggabhnfdaa
namespace Go.Proofs.Ytammbggabhnfdaa
open Go Go.Dat Go.Proofs Nat32 Go.RowKit
theorem take_all1 {p : UInt8 → Bool} {l : List UInt8} {i : Nat} (hi : i < l.length) (h : (l.take i).all p = true) (hp : p (l.getD i 0) = true) : (l.take (i + 1)).all p = true := by
  rw [List.take_add_one, List.all_append, h, Bool.true_and, List.getElem?_eq_getElem hi]
  rw [List.getD_eq_getElem?_getD, List.getElem?_eq_getElem hi] at hp
  simpa using hp
theorem all_bad1 {p : UInt8 → Bool} {l : List UInt8} {i : Nat} (hi : i < l.length) (hp : p (l.getD i 0) = false) : l.all p = false := by
  rw [← Bool.not_eq_true]
  intro h
  rw [List.getD_eq_getElem?_getD, List.getElem?_eq_getElem hi] at hp
  have := List.all_eq_true.1 h l[i] (List.getElem_mem hi)
  simp only [Option.getD_some] at hp
  rw [hp] at this; cases this
theorem rpCell_calls (l : List UInt8) (hl : l.length ≤ 100000000) : PCalls Try.prog 6 [.str l] (.bool (cellB l)) := by
  refine PCalls_of isrpCell (by simp [fnrpCell]) ?_
  unfold coderpCell
  repeat (first | (refine W_seq ?_) | (refine W_reg ?_) | (refine W_regd ?_) | (refine W_block ?_) | (refine And.intro (by omega) ?_) | simp (maxSteps := 1000000) (disch := omega) only [cA, cB, lk, lkH, Dst.onT, Dst.onX, Dst.slot, setF, setH, mapF, mapH, initF, binE, unE, cnt, boundE, newsE, freshE, opE, rmH, blkQ, frz_us, Nat.reduceEqDiff, Nat.reduceLT, Nat.reduceAdd, ↓reduceIte, reduceCtorEq, Nat.reduceLeDiff])
  refine W_loop (σ := Nat) (fun i => [(0, .str l), (2, .bool false), (3, .int .i64 i)]) (fun _ => []) (fun i => i ≤ l.length ∧ (l.take i).all cellC = true) (fun i => l.length - i) 0 (And.intro (Nat.zero_le _) rfl) ?_ rfl ?_
  · simp [subF, lk]
  · rintro i ⟨hi, hall⟩
    try simp only at hi hall ⊢
    by_cases hlt : i < l.length
    · have dl : decide ((i : Int) < l.length) = true := decide_eq_true (by omega)
      have ei : (i : Int).toNat = i := Int.toNat_natCast i
      have hta := @take_all1 cellC l i hlt hall
      have hbad := @all_bad1 cellC l i hlt
      obtain ⟨c, hc⟩ : ∃ c, l.getD i 0 = c := ⟨_, rfl⟩
      rw [hc] at hta hbad
      have hk : c.toNat < 256 := UInt8.toNat_lt c
      have eb : byteD c = .int .u8 (c.toNat : Nat) := rfl
      have e1 : ((i : Int) + 1) = ((i + 1 : Nat) : Int) := by omega
      repeat (first | (refine W_seq ?_) | (refine W_reg ?_) | (refine W_regd ?_) | (refine W_block ?_) | (refine And.intro (by omega) ?_) | simp (maxSteps := 1000000) (disch := omega) only [cA, cB, lk, lkH, Dst.onT, Dst.onX, Dst.slot, setF, setH, mapF, mapH, initF, binE, unE, cnt, boundE, newsE, freshE, opE, rmH, blkQ, frz_us, Nat.reduceEqDiff, Nat.reduceLT, Nat.reduceAdd, ↓reduceIte, reduceCtorEq, Nat.reduceLeDiff, dl])
      refine W_cond rfl (fun _ => W_skip ?_) (fun h => by cases h)
      by_cases h33 : c.toNat < 33
      · have d5 : decide (((c.toNat : Nat) : Int) < 33) = true := decide_eq_true (by omega)
        have hcb : cellB l = false := by unfold cellB; rw [hbad (by unfold cellC; rw [decide_eq_false (by omega)]; rfl)]; rfl
        rw [hcb]
        clear hta hbad hall
        repeat (first | (refine W_seq ?_) | (refine W_reg ?_) | (refine W_regd ?_) | (refine W_block ?_) | (refine And.intro (by omega) ?_) | simp (maxSteps := 1000000) (disch := omega) only [cA, cB, lk, lkH, Dst.onT, Dst.onX, Dst.slot, setF, setH, mapF, mapH, initF, binE, unE, cnt, boundE, newsE, freshE, opE, rmH, blkQ, frz_us, Nat.reduceEqDiff, Nat.reduceLT, Nat.reduceAdd, ↓reduceIte, reduceCtorEq, Nat.reduceLeDiff, ei, hc, eb, d5])
        refine W_cond rfl (fun _ => ?_) (fun h => by cases h)
        repeat (first | (refine W_seq ?_) | (refine W_reg ?_) | (refine W_regd ?_) | (refine W_block ?_) | (refine And.intro (by omega) ?_) | simp (maxSteps := 1000000) (disch := omega) only [cA, cB, lk, lkH, Dst.onT, Dst.onX, Dst.slot, setF, setH, mapF, mapH, initF, binE, unE, cnt, boundE, newsE, freshE, opE, rmH, blkQ, frz_us, Nat.reduceEqDiff, Nat.reduceLT, Nat.reduceAdd, ↓reduceIte, reduceCtorEq, Nat.reduceLeDiff])
        exact W_ret (RetP_1 (.imm rfl))
      · have d5 : decide (((c.toNat : Nat) : Int) < 33) = false := decide_eq_false (by omega)
        by_cases h126 : 126 < c.toNat
        · have d6 : decide ((126 : Int) < ((c.toNat : Nat) : Int)) = true := decide_eq_true (by omega)
          have hcb : cellB l = false := by unfold cellB; rw [hbad (by unfold cellC; rw [decide_eq_false (show ¬ c.toNat ≤ 126 by omega), Bool.and_false])]; rfl
          rw [hcb]
          clear hta hbad hall
          repeat (first | (refine W_seq ?_) | (refine W_reg ?_) | (refine W_regd ?_) | (refine W_block ?_) | (refine And.intro (by omega) ?_) | simp (maxSteps := 1000000) (disch := omega) only [cA, cB, lk, lkH, Dst.onT, Dst.onX, Dst.slot, setF, setH, mapF, mapH, initF, binE, unE, cnt, boundE, newsE, freshE, opE, rmH, blkQ, frz_us, Nat.reduceEqDiff, Nat.reduceLT, Nat.reduceAdd, ↓reduceIte, reduceCtorEq, Nat.reduceLeDiff, ei, hc, eb, d5, d6])
          refine W_cond rfl (fun _ => ?_) (fun h => by cases h)
          repeat (first | (refine W_seq ?_) | (refine W_reg ?_) | (refine W_regd ?_) | (refine W_block ?_) | (refine And.intro (by omega) ?_) | simp (maxSteps := 1000000) (disch := omega) only [cA, cB, lk, lkH, Dst.onT, Dst.onX, Dst.slot, setF, setH, mapF, mapH, initF, binE, unE, cnt, boundE, newsE, freshE, opE, rmH, blkQ, frz_us, Nat.reduceEqDiff, Nat.reduceLT, Nat.reduceAdd, ↓reduceIte, reduceCtorEq, Nat.reduceLeDiff])
          exact W_ret (RetP_1 (.imm rfl))
        · have d6 : decide ((126 : Int) < ((c.toNat : Nat) : Int)) = false := decide_eq_false (by omega)
          have hta' := hta (by unfold cellC; rw [decide_eq_true (by omega), decide_eq_true (by omega)]; rfl)
          clear hta hbad hall
          (replace hta' := Hid.mk hta')
          repeat (first | (refine W_seq ?_) | (refine W_reg ?_) | (refine W_regd ?_) | (refine W_block ?_) | (refine And.intro (by omega) ?_) | simp (maxSteps := 1000000) (disch := omega) only [cA, cB, lk, lkH, Dst.onT, Dst.onX, Dst.slot, setF, setH, mapF, mapH, initF, binE, unE, cnt, boundE, newsE, freshE, opE, rmH, blkQ, frz_us, Nat.reduceEqDiff, Nat.reduceLT, Nat.reduceAdd, ↓reduceIte, reduceCtorEq, Nat.reduceLeDiff, ei, hc, eb, d5, d6])
          refine W_cond rfl (fun h => by cases h) (fun _ => W_skip ?_)
          repeat (first | (refine W_seq ?_) | (refine W_reg ?_) | (refine W_regd ?_) | (refine W_block ?_) | (refine And.intro (by omega) ?_) | simp (maxSteps := 1000000) (disch := omega) only [cA, cB, lk, lkH, Dst.onT, Dst.onX, Dst.slot, setF, setH, mapF, mapH, initF, binE, unE, cnt, boundE, newsE, freshE, opE, rmH, blkQ, frz_us, Nat.reduceEqDiff, Nat.reduceLT, Nat.reduceAdd, ↓reduceIte, reduceCtorEq, Nat.reduceLeDiff, e1])
          exact ⟨i + 1, And.intro hlt hta'.out, by omega, by simp [subF, lk]⟩
    · have dl : decide ((i : Int) < l.length) = false := decide_eq_false (by omega)
      have hil : i = l.length := by omega
      rw [hil, List.take_length] at hall
      have hcb : cellB l = (decide (1 ≤ l.length) && decide (l.length ≤ 32)) := by unfold cellB; rw [hall]; rfl
      rw [hcb]
      by_cases h1 : 1 ≤ l.length
      · have d1 : decide ((1 : Int) ≤ (l.length : Int)) = true := decide_eq_true (by omega)
        have d2 : decide ((l.length : Int) ≤ 32) = decide (l.length ≤ 32) := by rw [decide_eq_decide]; omega
        rw [decide_eq_true h1, Bool.true_and, ← d2]
        repeat (first | (refine W_seq ?_) | (refine W_reg ?_) | (refine W_regd ?_) | (refine W_block ?_) | (refine And.intro (by omega) ?_) | simp (maxSteps := 1000000) (disch := omega) only [cA, cB, lk, lkH, Dst.onT, Dst.onX, Dst.slot, setF, setH, mapF, mapH, initF, binE, unE, cnt, boundE, newsE, freshE, opE, rmH, blkQ, frz_us, Nat.reduceEqDiff, Nat.reduceLT, Nat.reduceAdd, ↓reduceIte, reduceCtorEq, Nat.reduceLeDiff, dl])
        refine W_cond rfl (fun h => by cases h) (fun _ => W_exit ?_)
        repeat (first | (refine W_seq ?_) | (refine W_reg ?_) | (refine W_regd ?_) | (refine W_block ?_) | (refine And.intro (by omega) ?_) | simp (maxSteps := 1000000) (disch := omega) only [cA, cB, lk, lkH, Dst.onT, Dst.onX, Dst.slot, setF, setH, mapF, mapH, initF, binE, unE, cnt, boundE, newsE, freshE, opE, rmH, blkQ, frz_us, Nat.reduceEqDiff, Nat.reduceLT, Nat.reduceAdd, ↓reduceIte, reduceCtorEq, Nat.reduceLeDiff, d1])
        exact W_ret (RetP_1 (.imm rfl))
      · have d1 : decide ((1 : Int) ≤ (l.length : Int)) = false := decide_eq_false (by omega)
        rw [decide_eq_false h1, Bool.false_and]
        repeat (first | (refine W_seq ?_) | (refine W_reg ?_) | (refine W_regd ?_) | (refine W_block ?_) | (refine And.intro (by omega) ?_) | simp (maxSteps := 1000000) (disch := omega) only [cA, cB, lk, lkH, Dst.onT, Dst.onX, Dst.slot, setF, setH, mapF, mapH, initF, binE, unE, cnt, boundE, newsE, freshE, opE, rmH, blkQ, frz_us, Nat.reduceEqDiff, Nat.reduceLT, Nat.reduceAdd, ↓reduceIte, reduceCtorEq, Nat.reduceLeDiff, dl])
        refine W_cond rfl (fun h => by cases h) (fun _ => W_exit ?_)
        repeat (first | (refine W_seq ?_) | (refine W_reg ?_) | (refine W_regd ?_) | (refine W_block ?_) | (refine And.intro (by omega) ?_) | simp (maxSteps := 1000000) (disch := omega) only [cA, cB, lk, lkH, Dst.onT, Dst.onX, Dst.slot, setF, setH, mapF, mapH, initF, binE, unE, cnt, boundE, newsE, freshE, opE, rmH, blkQ, frz_us, Nat.reduceEqDiff, Nat.reduceLT, Nat.reduceAdd, ↓reduceIte, reduceCtorEq, Nat.reduceLeDiff, d1])
        exact W_ret (RetP_1 (.imm rfl))
end Go.Proofs.Ytammbggabhnfdaa
namespace Go.Proofs.Ytammbggabhnfdaa
open Go Go.Dat Go.Proofs Nat32 Go.RowKit
theorem split_cons {α : Type} {l : List α} {n : Nat} (h : l.length = n + 1) : ∃ u r, l = u :: r ∧ r.length = n := by
  cases l with
  | nil => simp at h
  | cons u r => exact ⟨u, r, rfl, by simpa using h⟩
def slAd : Value → Addr
  | .slice (some a) _ _ => a
  | _ => ⟨0, 0, none⟩
def slCap : Value → Nat
  | .slice _ _ c => c
  | _ => 0
theorem recD_get {recs : List (List (List UInt8))} {i : Nat} (h : i < recs.length) : (recD recs)[i]? = some (.sl 1 (strL (recs.getD i []))) := by
  unfold recD
  rw [List.getElem?_map, List.getD_eq_getElem?_getD, List.getElem?_eq_getElem h]; rfl
theorem strL_get {r : List (List UInt8)} {j : Nat} (h : j < r.length) : (strL r)[j]? = some (.str (r.getD j [])) := by
  unfold strL
  rw [List.getElem?_map, List.getD_eq_getElem?_getD, List.getElem?_eq_getElem h]; rfl
theorem shape_len {recs : List (List (List UInt8))} {m : Nat} (h : ∀ r ∈ recs, r.length = m) {i : Nat} (hi : i < recs.length) : (recs.getD i []).length = m := by
  rw [List.getD_eq_getElem?_getD, List.getElem?_eq_getElem hi]
  exact h _ (List.getElem_mem hi)
theorem rec_facts {w : World} {Lm : Nat → Option Nat} {S : Nat → Prop} {recs : List (List (List UInt8))} {m : Nat} {v : Value} (hv : V w Lm S (.sl 1 (recD recs)) v) (h0 : 0 < recs.length) (hm : 0 < m) (hsh : ∀ r ∈ recs, r.length = m) :
    ∃ (ad : Addr) (c : Nat) (A : Nat → Addr) (C : Nat → Nat), v = .slice (some ad) recs.length c ∧ (∀ i, i < recs.length → w.cell? (ad.add i) = some (.slice (some (A i)) m (C i))) ∧
      (∀ i, i < recs.length → ∀ j, j < m → w.cell? ((A i).add j) = some (.string ⟨((recs.getD i []).getD j []).toArray⟩)) := by
  have hl : (recD recs).length = recs.length := by unfold recD; simp
  rcases hv.inv_sl with ⟨he, _⟩ | ⟨_, ad, n, c, vs, e1, hlen, _, _, hcell, hvi⟩
  · rw [he] at hl; simp at hl; omega
  have hn : n = recs.length := by rw [hl] at hlen; omega
  subst hn
  have key : ∀ i, i < recs.length → vs i = .slice (some (slAd (vs i))) m (slCap (vs i)) ∧ ∀ j, j < m → w.cell? ((slAd (vs i)).add j) = some (.string ⟨((recs.getD i []).getD j []).toArray⟩) := by
    intro i hi
    have hg := recD_get hi
    have hlm := shape_len hsh hi
    have hv1 := hvi i _ hg
    have hv2 : V w Lm S (.sl 1 (strL (recs.getD i []))) (vs i) := .imm hv1
    have hl2 : (strL (recs.getD i [])).length = m := by unfold strL; rw [List.length_map]; exact hlm
    rcases hv2.inv_sl with ⟨he, _⟩ | ⟨_, ad2, n2, c2, vs2, e2, hlen2, _, _, hcell2, hvi2⟩
    · rw [he] at hl2; simp at hl2; omega
    have hn2 : n2 = m := by rw [hl2] at hlen2; omega
    subst hn2
    rw [e2]
    refine ⟨rfl, fun j hj => ?_⟩
    have hg2 := strL_get (r := recs.getD i []) (j := j) (by omega)
    show w.cell? (ad2.add j) = _
    rw [hcell2 j _ hg2]
    have := (V.imm (L := Lm) (hvi2 j _ hg2)).inv_str
    rw [this]
  exact ⟨ad, c, fun i => slAd (vs i), fun i => slCap (vs i), e1, fun i hi => (hcell i _ (recD_get hi)).trans (congrArg some (key i hi).1), fun i hi j hj => (key i hi).2 j hj⟩
set_option maxHeartbeats 4000000 in
set_option maxRecDepth 100000 in
theorem part2_WC (o : Nat) (recs : List (List (List UInt8))) (m : Nat) (wd : Nat → Nat) (cells : List DV) (h0 : 0 < recs.length) (hN : recs.length ≤ 1024) (hm0 : 0 < m) (hm : m ≤ 32) (hsh : ∀ r ∈ recs, r.length = m)
    (hc : ∀ j, j < m → cells[j]? = some (.int .i64 (wd j : Nat))) (hle : ∀ i j, ((recs.getD i []).getD j []).length ≤ wd j) (hwd : ∀ j, wd j ≤ 32) (fr : Fr) (H : Hp)
    (f0 : lk fr 0 = .sl 1 (recD recs)) (f7 : lk fr 7 = .osl 1 o 0 m) (fH : lkH H o = some cells) :
    WC fnrpColumns part2 (RetP resrpColumns (.tup [.str (colT wd recs m recs.length), .int .i64 0])) fr H := by
  intro G L a w hK hn hR
  have hn1 : G.n = 109 := hn.1
  have s0 := hR.slots 0
  have s7 := hR.slots 7
  rw [show den fnrpColumns.vs [] fr 0 = lk fr 0 from rfl, f0] at s0
  rw [show den fnrpColumns.vs [] fr 7 = lk fr 7 from rfl, f7] at s7
  obtain ⟨ad, c0, A, C, e0, hrec, hcell⟩ := rec_facts s0 h0 hm0 hsh
  rcases s7.inv_osl with ⟨b, cw, T, sz, hL, e7, _, _, _⟩ | ⟨hz, _⟩
  case inr => omega
  obtain ⟨cells', cur, T', hho, hb, hlc, hp⟩ := hR.heap.at_ hL
  rw [fH] at hho
  cases hho
  have hwid : ∀ j, j < m → w.cell? ⟨b, j, none⟩ = some (.int .i64 (wd j : Nat)) := fun j hj => by
    have h1 := hc j hj
    obtain ⟨u, hu⟩ := exists_aget (l := cur) (k := j) (by have := (List.getElem?_eq_some_iff.1 h1).1; omega)
    rw [cell_of_row w b _ cur T' (0, 0) hb, hu]
    rw [(hp j _ u h1 hu).inv_int]
  obtain ⟨tmps, defers⟩ := a
  have hd : defers = [] := hR.defers
  subst hd
  obtain ⟨lx⟩ := tmps
  have hlx : lx.length = 109 := by have := hR.size; simp only [List.size_toArray] at this; omega
  have hfin : ∀ (tmps' : Array Value) (w' : World), tmps'.size = 109 → tmps'.getD 2 undef = .string ⟨(colT wd recs m recs.length).toArray⟩ → tmps'.getD 3 undef = .int .i64 0 → Below w.heap.size w w' →
      Post fnrpColumns G (RetP resrpColumns (.tup [.str (colT wd recs m recs.length), .int .i64 0])) .ret { tmps := tmps', defers := [] } w' := fun tmps' w' h1 h2 h3 h4 => by
    refine ⟨fun _ => none, [(2, .str (colT wd recs m recs.length)), (3, .int .i64 0)], [], .ret, hR.over (a' := { tmps := tmps', defers := [] }) hK (Ext_of_below h4) (by rw [hn1]; exact h1) rfl (fun s => ?_), rfl, RetP_2 (.imm rfl) (.imm rfl)⟩
    simp only [den]
    split
    · simp only [lk]
      split
      · rename_i e; subst e; rw [h2]; exact .str _
      · split
        · rename_i e; subst e; rw [h3]; exact .int _ _
        · exact .undef _
    · exact .undef _
  clear hR s0 s7 hp
  obtain ⟨u0, l0, rfl, hl0⟩ := split_cons hlx
  obtain ⟨u1, l1, rfl, hl1⟩ := split_cons hl0
  obtain ⟨u2, l2, rfl, hl2⟩ := split_cons hl1
  obtain ⟨u3, l3, rfl, hl3⟩ := split_cons hl2
  obtain ⟨u4, l4, rfl, hl4⟩ := split_cons hl3
  obtain ⟨u5, l5, rfl, hl5⟩ := split_cons hl4
  obtain ⟨u6, l6, rfl, hl6⟩ := split_cons hl5
  obtain ⟨u7, l7, rfl, hl7⟩ := split_cons hl6
  obtain ⟨u8, l8, rfl, hl8⟩ := split_cons hl7
  obtain ⟨u9, l9, rfl, hl9⟩ := split_cons hl8
  obtain ⟨u10, l10, rfl, hl10⟩ := split_cons hl9
  obtain ⟨u11, l11, rfl, hl11⟩ := split_cons hl10
  obtain ⟨u12, l12, rfl, hl12⟩ := split_cons hl11
  obtain ⟨u13, l13, rfl, hl13⟩ := split_cons hl12
  obtain ⟨u14, l14, rfl, hl14⟩ := split_cons hl13
  obtain ⟨u15, l15, rfl, hl15⟩ := split_cons hl14
  obtain ⟨u16, l16, rfl, hl16⟩ := split_cons hl15
  obtain ⟨u17, l17, rfl, hl17⟩ := split_cons hl16
  obtain ⟨u18, l18, rfl, hl18⟩ := split_cons hl17
  obtain ⟨u19, l19, rfl, hl19⟩ := split_cons hl18
  obtain ⟨u20, l20, rfl, hl20⟩ := split_cons hl19
  obtain ⟨u21, l21, rfl, hl21⟩ := split_cons hl20
  obtain ⟨u22, l22, rfl, hl22⟩ := split_cons hl21
  obtain ⟨u23, l23, rfl, hl23⟩ := split_cons hl22
  obtain ⟨u24, l24, rfl, hl24⟩ := split_cons hl23
  obtain ⟨u25, l25, rfl, hl25⟩ := split_cons hl24
  obtain ⟨u26, l26, rfl, hl26⟩ := split_cons hl25
  obtain ⟨u27, l27, rfl, hl27⟩ := split_cons hl26
  obtain ⟨u28, l28, rfl, hl28⟩ := split_cons hl27
  obtain ⟨u29, l29, rfl, hl29⟩ := split_cons hl28
  obtain ⟨u30, l30, rfl, hl30⟩ := split_cons hl29
  obtain ⟨u31, l31, rfl, hl31⟩ := split_cons hl30
  obtain ⟨u32, l32, rfl, hl32⟩ := split_cons hl31
  obtain ⟨u33, l33, rfl, hl33⟩ := split_cons hl32
  obtain ⟨u34, l34, rfl, hl34⟩ := split_cons hl33
  obtain ⟨u35, l35, rfl, hl35⟩ := split_cons hl34
  obtain ⟨u36, l36, rfl, hl36⟩ := split_cons hl35
  obtain ⟨u37, l37, rfl, hl37⟩ := split_cons hl36
  obtain ⟨u38, l38, rfl, hl38⟩ := split_cons hl37
  obtain ⟨u39, l39, rfl, hl39⟩ := split_cons hl38
  obtain ⟨u40, l40, rfl, hl40⟩ := split_cons hl39
  obtain ⟨u41, l41, rfl, hl41⟩ := split_cons hl40
  obtain ⟨u42, l42, rfl, hl42⟩ := split_cons hl41
  obtain ⟨u43, l43, rfl, hl43⟩ := split_cons hl42
  obtain ⟨u44, l44, rfl, hl44⟩ := split_cons hl43
  obtain ⟨u45, l45, rfl, hl45⟩ := split_cons hl44
  obtain ⟨u46, l46, rfl, hl46⟩ := split_cons hl45
  obtain ⟨u47, l47, rfl, hl47⟩ := split_cons hl46
  obtain ⟨u48, l48, rfl, hl48⟩ := split_cons hl47
  obtain ⟨u49, l49, rfl, hl49⟩ := split_cons hl48
  obtain ⟨u50, l50, rfl, hl50⟩ := split_cons hl49
  obtain ⟨u51, l51, rfl, hl51⟩ := split_cons hl50
  obtain ⟨u52, l52, rfl, hl52⟩ := split_cons hl51
  obtain ⟨u53, l53, rfl, hl53⟩ := split_cons hl52
  obtain ⟨u54, l54, rfl, hl54⟩ := split_cons hl53
  obtain ⟨u55, l55, rfl, hl55⟩ := split_cons hl54
  obtain ⟨u56, l56, rfl, hl56⟩ := split_cons hl55
  obtain ⟨u57, l57, rfl, hl57⟩ := split_cons hl56
  obtain ⟨u58, l58, rfl, hl58⟩ := split_cons hl57
  obtain ⟨u59, l59, rfl, hl59⟩ := split_cons hl58
  obtain ⟨u60, l60, rfl, hl60⟩ := split_cons hl59
  obtain ⟨u61, l61, rfl, hl61⟩ := split_cons hl60
  obtain ⟨u62, l62, rfl, hl62⟩ := split_cons hl61
  obtain ⟨u63, l63, rfl, hl63⟩ := split_cons hl62
  obtain ⟨u64, l64, rfl, hl64⟩ := split_cons hl63
  obtain ⟨u65, l65, rfl, hl65⟩ := split_cons hl64
  obtain ⟨u66, l66, rfl, hl66⟩ := split_cons hl65
  obtain ⟨u67, l67, rfl, hl67⟩ := split_cons hl66
  obtain ⟨u68, l68, rfl, hl68⟩ := split_cons hl67
  obtain ⟨u69, l69, rfl, hl69⟩ := split_cons hl68
  obtain ⟨u70, l70, rfl, hl70⟩ := split_cons hl69
  obtain ⟨u71, l71, rfl, hl71⟩ := split_cons hl70
  obtain ⟨u72, l72, rfl, hl72⟩ := split_cons hl71
  obtain ⟨u73, l73, rfl, hl73⟩ := split_cons hl72
  obtain ⟨u74, l74, rfl, hl74⟩ := split_cons hl73
  obtain ⟨u75, l75, rfl, hl75⟩ := split_cons hl74
  obtain ⟨u76, l76, rfl, hl76⟩ := split_cons hl75
  obtain ⟨u77, l77, rfl, hl77⟩ := split_cons hl76
  obtain ⟨u78, l78, rfl, hl78⟩ := split_cons hl77
  obtain ⟨u79, l79, rfl, hl79⟩ := split_cons hl78
  obtain ⟨u80, l80, rfl, hl80⟩ := split_cons hl79
  obtain ⟨u81, l81, rfl, hl81⟩ := split_cons hl80
  obtain ⟨u82, l82, rfl, hl82⟩ := split_cons hl81
  obtain ⟨u83, l83, rfl, hl83⟩ := split_cons hl82
  obtain ⟨u84, l84, rfl, hl84⟩ := split_cons hl83
  obtain ⟨u85, l85, rfl, hl85⟩ := split_cons hl84
  obtain ⟨u86, l86, rfl, hl86⟩ := split_cons hl85
  obtain ⟨u87, l87, rfl, hl87⟩ := split_cons hl86
  obtain ⟨u88, l88, rfl, hl88⟩ := split_cons hl87
  obtain ⟨u89, l89, rfl, hl89⟩ := split_cons hl88
  obtain ⟨u90, l90, rfl, hl90⟩ := split_cons hl89
  obtain ⟨u91, l91, rfl, hl91⟩ := split_cons hl90
  obtain ⟨u92, l92, rfl, hl92⟩ := split_cons hl91
  obtain ⟨u93, l93, rfl, hl93⟩ := split_cons hl92
  obtain ⟨u94, l94, rfl, hl94⟩ := split_cons hl93
  obtain ⟨u95, l95, rfl, hl95⟩ := split_cons hl94
  obtain ⟨u96, l96, rfl, hl96⟩ := split_cons hl95
  obtain ⟨u97, l97, rfl, hl97⟩ := split_cons hl96
  obtain ⟨u98, l98, rfl, hl98⟩ := split_cons hl97
  obtain ⟨u99, l99, rfl, hl99⟩ := split_cons hl98
  obtain ⟨u100, l100, rfl, hl100⟩ := split_cons hl99
  obtain ⟨u101, l101, rfl, hl101⟩ := split_cons hl100
  obtain ⟨u102, l102, rfl, hl102⟩ := split_cons hl101
  obtain ⟨u103, l103, rfl, hl103⟩ := split_cons hl102
  obtain ⟨u104, l104, rfl, hl104⟩ := split_cons hl103
  obtain ⟨u105, l105, rfl, hl105⟩ := split_cons hl104
  obtain ⟨u106, l106, rfl, hl106⟩ := split_cons hl105
  obtain ⟨u107, l107, rfl, hl107⟩ := split_cons hl106
  obtain ⟨u108, l108, rfl, hl108⟩ := split_cons hl107
  have hnil : l108 = [] := List.eq_nil_of_length_eq_zero hl108
  subst hnil
  have e0' : u0 = .slice (some ad) recs.length c0 := e0
  have e7' : u7 = .slice (some ⟨b, 0, none⟩) m cw := e7
  subst e0'
  subst e7'
  exact part2_walk w ad recs.length m c0 b cw A C recs wd hN hm hrec hcell hwid hle hwd u1 u2 u3 u4 u5 u6 u8 u9 u10 u11 u12 u13 u14 u15 u16 u17 u18 u19 u20 u21 u22 u23 u24 u25 u26 u27 u28 u29 u30 u31 u32 u33 u34 u35 u36 u37 u38 u39 u40 u41 u42 u43 u44 u45 u46 u47 u48 u49 u50 u51 u52 u53 u54 u55 u56 u57 u58 u59 u60 u61 u62 u63 u64 u65 u66 u67 u68 u69 u70 u71 u72 u73 u74 u75 u76 u77 u78 u79 u80 u81 u82 u83 u84 u85 u86 u87 u88 u89 u90 u91 u92 u93 u94 u95 u96 u97 u98 u99 u100 u101 u102 u103 u104 u105 u106 u107 u108 _ hfin
end Go.Proofs.Ytammbggabhnfdaa
namespace Go.Proofs.Ytammbggabhnfdaa
open Go Go.Dat Go.Proofs Nat32 Go.RowKit
theorem seqC_norm (F : FnD) (b : Code) (Q : Ex → Fr → Hp → Prop) (fr : Fr) (H : Hp) : seqC F b Q .norm fr H = WC F b Q fr H := rfl
theorem seqC_ret (F : FnD) (b : Code) (Q : Ex → Fr → Hp → Prop) (fr : Fr) (H : Hp) : seqC F b Q .ret fr H = Q .ret fr H := rfl
noncomputable def cSeq1 : Code → Code
  | .seq a _ => a
  | _ => .skip
noncomputable def cSeq2 : Code → Code
  | .seq _ b => b
  | _ => .skip
noncomputable def colB : Code := match Try.f4.body with | some c => c | none => .skip
def dSeq1 : DC → DC
  | .seq a _ => a
  | _ => .skip
def dSeq2 : DC → DC
  | .seq _ b => b
  | _ => .skip
theorem colB_eq : Try.f4.body = some (.seq (cSeq1 colB) (.seq (cSeq1 (cSeq2 colB)) (.seq (cSeq1 (cSeq2 (cSeq2 colB))) (.seq (cSeq1 (cSeq2 (cSeq2 (cSeq2 colB)))) (.seq (cSeq1 (cSeq2 (cSeq2 (cSeq2 (cSeq2 colB))))) (.seq (cSeq1 (cSeq2 (cSeq2 (cSeq2 (cSeq2 (cSeq2 colB)))))) part2)))))) := by kernel_rfl
theorem cs0 : strip fnrpColumns.P fnrpColumns.vs fnrpColumns.own fnrpColumns.n (cSeq1 colB) = dSeq1 coderpColumns := by kernel_rfl
theorem cs1 : strip fnrpColumns.P fnrpColumns.vs fnrpColumns.own fnrpColumns.n (cSeq1 (cSeq2 colB)) = dSeq1 (dSeq2 coderpColumns) := by kernel_rfl
theorem cs2 : strip fnrpColumns.P fnrpColumns.vs fnrpColumns.own fnrpColumns.n (cSeq1 (cSeq2 (cSeq2 colB))) = dSeq1 (dSeq2 (dSeq2 coderpColumns)) := by kernel_rfl
theorem cs3 : strip fnrpColumns.P fnrpColumns.vs fnrpColumns.own fnrpColumns.n (cSeq1 (cSeq2 (cSeq2 (cSeq2 colB)))) = dSeq1 (dSeq2 (dSeq2 (dSeq2 coderpColumns))) := by kernel_rfl
theorem cs4 : strip fnrpColumns.P fnrpColumns.vs fnrpColumns.own fnrpColumns.n (cSeq1 (cSeq2 (cSeq2 (cSeq2 (cSeq2 colB))))) = dSeq1 (dSeq2 (dSeq2 (dSeq2 (dSeq2 coderpColumns)))) := by kernel_rfl
theorem cs5 : strip fnrpColumns.P fnrpColumns.vs fnrpColumns.own fnrpColumns.n (cSeq1 (cSeq2 (cSeq2 (cSeq2 (cSeq2 (cSeq2 colB)))))) = dSeq1 (dSeq2 (dSeq2 (dSeq2 (dSeq2 (dSeq2 coderpColumns))))) := by kernel_rfl
theorem recD_getD {recs : List (List (List UInt8))} {i : Nat} (h : i < recs.length) : (recD recs).getD i .undef = .sl 1 (strL (recs.getD i [])) := by
  rw [List.getD_eq_getElem?_getD, recD_get h]; rfl
theorem recD_len (recs : List (List (List UInt8))) : (recD recs).length = recs.length := by unfold recD; simp
theorem strL_len (r : List (List UInt8)) : (strL r).length = r.length := by unfold strL; simp
theorem strL_getD {r : List (List UInt8)} {j : Nat} (h : j < r.length) : (strL r).getD j .undef = .str (r.getD j []) := by
  rw [List.getD_eq_getElem?_getD, strL_get h]; rfl
theorem shape_bad {recs : List (List (List UInt8))} {i : Nat} (h : i < recs.length) (hb : (decide ((recs.getD i []).length = (recs.headD []).length) && (decide (1 ≤ (recs.headD []).length) && decide ((recs.headD []).length ≤ 32))) = false) : shapeB recs = false := by
  rw [← Bool.not_eq_true]
  intro hs
  have := List.all_eq_true.1 hs _ (List.getElem_mem h)
  rw [List.getD_eq_getElem?_getD, List.getElem?_eq_getElem h] at hb
  simp only [Option.getD_some] at hb
  rw [hb] at this; cases this
theorem form_bad {recs : List (List (List UInt8))} {i j : Nat} (h : i < recs.length) (hj : j < (recs.getD i []).length) (hb : cellB ((recs.getD i []).getD j []) = false) : formB recs = false := by
  rw [← Bool.not_eq_true]
  intro hs
  have h1 := List.all_eq_true.1 hs _ (List.getElem_mem h)
  rw [List.getD_eq_getElem?_getD (l := recs), List.getElem?_eq_getElem h] at hb hj
  simp only [Option.getD_some] at hb hj
  have h2 := List.all_eq_true.1 h1 _ (List.getElem_mem hj)
  rw [List.getD_eq_getElem?_getD, List.getElem?_eq_getElem hj] at hb
  simp only [Option.getD_some] at hb
  rw [hb] at h2; cases h2
theorem form_ok {recs : List (List (List UInt8))} (h : ∀ i, i < recs.length → ∀ j, j < (recs.getD i []).length → cellB ((recs.getD i []).getD j []) = true) : formB recs = true := by
  refine List.all_eq_true.2 fun r hr => List.all_eq_true.2 fun s hs => ?_
  obtain ⟨i, hi, rfl⟩ := List.mem_iff_getElem.1 hr
  obtain ⟨j, hj, rfl⟩ := List.mem_iff_getElem.1 hs
  have := h i hi j (by rw [List.getD_eq_getElem?_getD (l := recs), List.getElem?_eq_getElem hi]; exact hj)
  rw [List.getD_eq_getElem?_getD (l := recs), List.getElem?_eq_getElem hi] at this
  simp only [Option.getD_some] at this
  rw [List.getD_eq_getElem?_getD, List.getElem?_eq_getElem hj] at this
  exact this
set_option maxHeartbeats 4000000 in
theorem rpColumns_calls (recs : List (List (List UInt8))) (hb1 : recs.length ≤ 100000) (hb2 : ∀ i, (recs.getD i []).length ≤ 100000) (hb3 : ∀ i j, ((recs.getD i []).getD j []).length ≤ 100000) :
    PCalls Try.prog 4 [.sl 1 (recD recs)] (colR recs) := by
  refine PCalls_ofC (F := fnrpColumns) Try.func4 colB_eq rfl rfl (by kernel_rfl) (by simp [fnrpColumns]) ?_
  have hln := recD_len recs
  refine WC_seq (WC_of cs0 ?_)
  unfold coderpColumns
  dsimp only [dSeq1, dSeq2]
  repeat (first | (refine W_seq ?_) | (refine W_reg ?_) | (refine W_regd ?_) | (refine W_block ?_) | (refine And.intro (by omega) ?_) | simp (maxSteps := 1000000) (disch := omega) only [cA, cB, lk, lkH, Dst.onT, Dst.onX, Dst.slot, setF, setH, mapF, mapH, initF, binE, unE, cnt, boundE, newsE, freshE, opE, rmH, blkQ, frz_us, Nat.reduceEqDiff, Nat.reduceLT, Nat.reduceAdd, ↓reduceIte, reduceCtorEq, Nat.reduceLeDiff, seqC_norm])
  refine WC_seq (WC_of cs1 ?_)
  unfold coderpColumns
  dsimp only [dSeq1, dSeq2]
  by_cases h1 : recs.length < 1
  · have d1 : decide ((recs.length : Int) < 1) = true := decide_eq_true (by omega)
    have hR : colR recs = .tup [.str [], .int .i64 6] := by
      unfold colR shapeOk
      rw [decide_eq_false (show ¬ 1 ≤ recs.length by omega)]; rfl
    rw [hR]
    repeat (first | (refine W_seq ?_) | (refine W_reg ?_) | (refine W_regd ?_) | (refine W_block ?_) | (refine And.intro (by omega) ?_) | simp (maxSteps := 1000000) (disch := omega) only [cA, cB, lk, lkH, Dst.onT, Dst.onX, Dst.slot, setF, setH, mapF, mapH, initF, binE, unE, cnt, boundE, newsE, freshE, opE, rmH, blkQ, frz_us, Nat.reduceEqDiff, Nat.reduceLT, Nat.reduceAdd, ↓reduceIte, reduceCtorEq, Nat.reduceLeDiff, hln, d1])
    refine W_cond rfl (fun _ => ?_) (fun h => by cases h)
    repeat (first | (refine W_seq ?_) | (refine W_reg ?_) | (refine W_regd ?_) | (refine W_block ?_) | (refine And.intro (by omega) ?_) | simp (maxSteps := 1000000) (disch := omega) only [cA, cB, lk, lkH, Dst.onT, Dst.onX, Dst.slot, setF, setH, mapF, mapH, initF, binE, unE, cnt, boundE, newsE, freshE, opE, rmH, blkQ, frz_us, Nat.reduceEqDiff, Nat.reduceLT, Nat.reduceAdd, ↓reduceIte, reduceCtorEq, Nat.reduceLeDiff, seqC_ret])
    refine W_ret ?_
    exact RetP_2 (.imm rfl) (.imm rfl)
  · have d1 : decide ((recs.length : Int) < 1) = false := decide_eq_false (by omega)
    by_cases h2 : 1024 < recs.length
    · have d2 : decide ((1024 : Int) < (recs.length : Int)) = true := decide_eq_true (by omega)
      have hR : colR recs = .tup [.str [], .int .i64 6] := by
        unfold colR shapeOk
        rw [decide_eq_false (show ¬ recs.length ≤ 1024 by omega), Bool.and_false]; rfl
      rw [hR]
      repeat (first | (refine W_seq ?_) | (refine W_reg ?_) | (refine W_regd ?_) | (refine W_block ?_) | (refine And.intro (by omega) ?_) | simp (maxSteps := 1000000) (disch := omega) only [cA, cB, lk, lkH, Dst.onT, Dst.onX, Dst.slot, setF, setH, mapF, mapH, initF, binE, unE, cnt, boundE, newsE, freshE, opE, rmH, blkQ, frz_us, Nat.reduceEqDiff, Nat.reduceLT, Nat.reduceAdd, ↓reduceIte, reduceCtorEq, Nat.reduceLeDiff, hln, d1, d2])
      refine W_cond rfl (fun _ => ?_) (fun h => by cases h)
      repeat (first | (refine W_seq ?_) | (refine W_reg ?_) | (refine W_regd ?_) | (refine W_block ?_) | (refine And.intro (by omega) ?_) | simp (maxSteps := 1000000) (disch := omega) only [cA, cB, lk, lkH, Dst.onT, Dst.onX, Dst.slot, setF, setH, mapF, mapH, initF, binE, unE, cnt, boundE, newsE, freshE, opE, rmH, blkQ, frz_us, Nat.reduceEqDiff, Nat.reduceLT, Nat.reduceAdd, ↓reduceIte, reduceCtorEq, Nat.reduceLeDiff, seqC_ret])
      refine W_ret ?_
      exact RetP_2 (.imm rfl) (.imm rfl)
    · have d2 : decide ((1024 : Int) < (recs.length : Int)) = false := decide_eq_false (by omega)
      repeat (first | (refine W_seq ?_) | (refine W_reg ?_) | (refine W_regd ?_) | (refine W_block ?_) | (refine And.intro (by omega) ?_) | simp (maxSteps := 1000000) (disch := omega) only [cA, cB, lk, lkH, Dst.onT, Dst.onX, Dst.slot, setF, setH, mapF, mapH, initF, binE, unE, cnt, boundE, newsE, freshE, opE, rmH, blkQ, frz_us, Nat.reduceEqDiff, Nat.reduceLT, Nat.reduceAdd, ↓reduceIte, reduceCtorEq, Nat.reduceLeDiff, hln, d1, d2])
      refine W_cond rfl (fun h => by cases h) (fun _ => W_skip ?_)
      repeat (first | (refine W_seq ?_) | (refine W_reg ?_) | (refine W_regd ?_) | (refine W_block ?_) | (refine And.intro (by omega) ?_) | simp (maxSteps := 1000000) (disch := omega) only [cA, cB, lk, lkH, Dst.onT, Dst.onX, Dst.slot, setF, setH, mapF, mapH, initF, binE, unE, cnt, boundE, newsE, freshE, opE, rmH, blkQ, frz_us, Nat.reduceEqDiff, Nat.reduceLT, Nat.reduceAdd, ↓reduceIte, reduceCtorEq, Nat.reduceLeDiff, seqC_norm])
      have hpos : 0 < recs.length := by omega
      have hg0 := recD_getD hpos
      have hh : recs.getD 0 [] = recs.headD [] := by cases recs <;> rfl
      rw [hh] at hg0
      have hm := hb2 0
      rw [hh] at hm
      obtain ⟨m, hmd⟩ : ∃ m, (recs.headD []).length = m := ⟨_, rfl⟩
      have hsl := strL_len (recs.headD [])
      rw [hmd] at hsl hm
      have e0 : (Int.toNat 0) = 0 := rfl
      refine WC_seq (WC_of cs2 ?_)
      unfold coderpColumns
      dsimp only [dSeq1, dSeq2]
      repeat (first | (refine W_seq ?_) | (refine W_reg ?_) | (refine W_regd ?_) | (refine W_block ?_) | (refine And.intro (by omega) ?_) | simp (maxSteps := 1000000) (disch := omega) only [cA, cB, lk, lkH, Dst.onT, Dst.onX, Dst.slot, setF, setH, mapF, mapH, initF, binE, unE, cnt, boundE, newsE, freshE, opE, rmH, blkQ, frz_us, Nat.reduceEqDiff, Nat.reduceLT, Nat.reduceAdd, ↓reduceIte, reduceCtorEq, Nat.reduceLeDiff, hln, e0, hg0, hsl])
      repeat (first | (refine W_seq ?_) | (refine W_reg ?_) | (refine W_regd ?_) | (refine W_block ?_) | (refine And.intro (by omega) ?_) | simp (maxSteps := 1000000) (disch := omega) only [cA, cB, lk, lkH, Dst.onT, Dst.onX, Dst.slot, setF, setH, mapF, mapH, initF, binE, unE, cnt, boundE, newsE, freshE, opE, rmH, blkQ, frz_us, Nat.reduceEqDiff, Nat.reduceLT, Nat.reduceAdd, ↓reduceIte, reduceCtorEq, Nat.reduceLeDiff, seqC_norm])
      clear hg0 hsl
      refine WC_seq (WC_of cs3 ?_)
      unfold coderpColumns
      dsimp only [dSeq1, dSeq2]
      repeat (first | (refine W_seq ?_) | (refine W_reg ?_) | (refine W_regd ?_) | (refine W_block ?_) | (refine And.intro (by omega) ?_) | simp (maxSteps := 1000000) (disch := omega) only [cA, cB, lk, lkH, Dst.onT, Dst.onX, Dst.slot, setF, setH, mapF, mapH, initF, binE, unE, cnt, boundE, newsE, freshE, opE, rmH, blkQ, frz_us, Nat.reduceEqDiff, Nat.reduceLT, Nat.reduceAdd, ↓reduceIte, reduceCtorEq, Nat.reduceLeDiff, hln])
      refine W_loop (σ := Nat) (fun i => [(0, .sl 1 (recD recs)), (2, .str []), (3, .int .i64 0), (4, .int .i64 m), (29, .sl 1 (recD recs)), (30, .int .i64 recs.length), (31, .int .i64 i)]) (fun _ => []) (fun i => i ≤ recs.length ∧ ∀ c, c < i → (recs.getD c []).length = m ∧ 1 ≤ m ∧ m ≤ 32) (fun i => recs.length - i) 0 (And.intro (Nat.zero_le _) (fun c hc => absurd hc (by omega))) ?_ rfl ?_
      · simp [subF, lk]
      · rintro i ⟨hi, hall⟩
        try simp only at hi hall ⊢
        by_cases hlt : i < recs.length
        · have dl : decide ((i : Int) < recs.length) = true := decide_eq_true (by omega)
          have ei : (i : Int).toNat = i := Int.toNat_natCast i
          have hgi := recD_getD hlt
          have hsi := strL_len (recs.getD i [])
          have hbd := hb2 i
          have e1 : ((i : Int) + 1) = ((i + 1 : Nat) : Int) := by omega
          obtain ⟨q, hq⟩ : ∃ q, (recs.getD i []).length = q := ⟨_, rfl⟩
          rw [hq] at hsi hbd
          have hbad : ¬ (q = m ∧ 1 ≤ m ∧ m ≤ 32) → colR recs = .tup [.str [], .int .i64 6] := fun hn => by
            have hs : shapeB recs = false := shape_bad hlt (by
              rw [hq, hmd]
              by_cases a1 : q = m
              · by_cases a2 : 1 ≤ m
                · rw [decide_eq_false (show ¬ m ≤ 32 from fun a3 => hn ⟨a1, a2, a3⟩)]; simp
                · rw [decide_eq_false a2]; simp
              · rw [decide_eq_false a1]; rfl)
            unfold colR shapeOk
            rw [hs, Bool.and_false]; rfl
          repeat (first | (refine W_seq ?_) | (refine W_reg ?_) | (refine W_regd ?_) | (refine W_block ?_) | (refine And.intro (by omega) ?_) | simp (maxSteps := 1000000) (disch := omega) only [cA, cB, lk, lkH, Dst.onT, Dst.onX, Dst.slot, setF, setH, mapF, mapH, initF, binE, unE, cnt, boundE, newsE, freshE, opE, rmH, blkQ, frz_us, Nat.reduceEqDiff, Nat.reduceLT, Nat.reduceAdd, ↓reduceIte, reduceCtorEq, Nat.reduceLeDiff, dl])
          refine W_cond rfl (fun _ => W_skip ?_) (fun h => by cases h)
          by_cases a1 : q = m
          · have g1 : decide (¬ (q : Int) = (m : Int)) = false := decide_eq_false (by omega)
            by_cases a2 : 1 ≤ m
            · have g2 : decide ((m : Int) < 1) = false := decide_eq_false (by omega)
              by_cases a3 : m ≤ 32
              · have g3 : decide ((32 : Int) < (m : Int)) = false := decide_eq_false (by omega)
                have hall' : Dat.Hid (∀ c, c < i + 1 → (recs.getD c []).length = m ∧ 1 ≤ m ∧ m ≤ 32) := ⟨fun c hc => by
                  rcases Nat.lt_or_ge c i with hci | hci
                  · exact hall c hci
                  · rw [show c = i by omega, hq]; exact ⟨a1, a2, a3⟩⟩
                clear hall hbad
                repeat (first | (refine W_seq ?_) | (refine W_reg ?_) | (refine W_regd ?_) | (refine W_block ?_) | (refine And.intro (by omega) ?_) | simp (maxSteps := 1000000) (disch := omega) only [cA, cB, lk, lkH, Dst.onT, Dst.onX, Dst.slot, setF, setH, mapF, mapH, initF, binE, unE, cnt, boundE, newsE, freshE, opE, rmH, blkQ, frz_us, Nat.reduceEqDiff, Nat.reduceLT, Nat.reduceAdd, ↓reduceIte, reduceCtorEq, Nat.reduceLeDiff, ei, hln, hgi, hsi, g1, g2, g3])
                refine W_cond rfl (fun h => by cases h) (fun _ => W_skip ?_)
                repeat (first | (refine W_seq ?_) | (refine W_reg ?_) | (refine W_regd ?_) | (refine W_block ?_) | (refine And.intro (by omega) ?_) | simp (maxSteps := 1000000) (disch := omega) only [cA, cB, lk, lkH, Dst.onT, Dst.onX, Dst.slot, setF, setH, mapF, mapH, initF, binE, unE, cnt, boundE, newsE, freshE, opE, rmH, blkQ, frz_us, Nat.reduceEqDiff, Nat.reduceLT, Nat.reduceAdd, ↓reduceIte, reduceCtorEq, Nat.reduceLeDiff, e1])
                exact ⟨i + 1, And.intro hlt hall'.out, by omega, by simp [subF, lk]⟩
              · have g3 : decide ((32 : Int) < (m : Int)) = true := decide_eq_true (by omega)
                rw [hbad (fun h => a3 h.2.2)]
                clear hall hbad
                repeat (first | (refine W_seq ?_) | (refine W_reg ?_) | (refine W_regd ?_) | (refine W_block ?_) | (refine And.intro (by omega) ?_) | simp (maxSteps := 1000000) (disch := omega) only [cA, cB, lk, lkH, Dst.onT, Dst.onX, Dst.slot, setF, setH, mapF, mapH, initF, binE, unE, cnt, boundE, newsE, freshE, opE, rmH, blkQ, frz_us, Nat.reduceEqDiff, Nat.reduceLT, Nat.reduceAdd, ↓reduceIte, reduceCtorEq, Nat.reduceLeDiff, ei, hln, hgi, hsi, g1, g2, g3])
                refine W_cond rfl (fun _ => ?_) (fun h => by cases h)
                repeat (first | (refine W_seq ?_) | (refine W_reg ?_) | (refine W_regd ?_) | (refine W_block ?_) | (refine And.intro (by omega) ?_) | simp (maxSteps := 1000000) (disch := omega) only [cA, cB, lk, lkH, Dst.onT, Dst.onX, Dst.slot, setF, setH, mapF, mapH, initF, binE, unE, cnt, boundE, newsE, freshE, opE, rmH, blkQ, frz_us, Nat.reduceEqDiff, Nat.reduceLT, Nat.reduceAdd, ↓reduceIte, reduceCtorEq, Nat.reduceLeDiff, seqC_ret])
                refine W_ret ?_
                exact RetP_2 (.imm rfl) (.imm rfl)
            · have g2 : decide ((m : Int) < 1) = true := decide_eq_true (by omega)
              rw [hbad (fun h => a2 h.2.1)]
              clear hall hbad
              repeat (first | (refine W_seq ?_) | (refine W_reg ?_) | (refine W_regd ?_) | (refine W_block ?_) | (refine And.intro (by omega) ?_) | simp (maxSteps := 1000000) (disch := omega) only [cA, cB, lk, lkH, Dst.onT, Dst.onX, Dst.slot, setF, setH, mapF, mapH, initF, binE, unE, cnt, boundE, newsE, freshE, opE, rmH, blkQ, frz_us, Nat.reduceEqDiff, Nat.reduceLT, Nat.reduceAdd, ↓reduceIte, reduceCtorEq, Nat.reduceLeDiff, ei, hln, hgi, hsi, g1, g2])
              refine W_cond rfl (fun _ => ?_) (fun h => by cases h)
              repeat (first | (refine W_seq ?_) | (refine W_reg ?_) | (refine W_regd ?_) | (refine W_block ?_) | (refine And.intro (by omega) ?_) | simp (maxSteps := 1000000) (disch := omega) only [cA, cB, lk, lkH, Dst.onT, Dst.onX, Dst.slot, setF, setH, mapF, mapH, initF, binE, unE, cnt, boundE, newsE, freshE, opE, rmH, blkQ, frz_us, Nat.reduceEqDiff, Nat.reduceLT, Nat.reduceAdd, ↓reduceIte, reduceCtorEq, Nat.reduceLeDiff, seqC_ret])
              refine W_ret ?_
              exact RetP_2 (.imm rfl) (.imm rfl)
          · have g1 : decide (¬ (q : Int) = (m : Int)) = true := decide_eq_true (by omega)
            rw [hbad (fun h => a1 h.1)]
            clear hall hbad
            repeat (first | (refine W_seq ?_) | (refine W_reg ?_) | (refine W_regd ?_) | (refine W_block ?_) | (refine And.intro (by omega) ?_) | simp (maxSteps := 1000000) (disch := omega) only [cA, cB, lk, lkH, Dst.onT, Dst.onX, Dst.slot, setF, setH, mapF, mapH, initF, binE, unE, cnt, boundE, newsE, freshE, opE, rmH, blkQ, frz_us, Nat.reduceEqDiff, Nat.reduceLT, Nat.reduceAdd, ↓reduceIte, reduceCtorEq, Nat.reduceLeDiff, ei, hln, hgi, hsi, g1])
            refine W_cond rfl (fun _ => ?_) (fun h => by cases h)
            repeat (first | (refine W_seq ?_) | (refine W_reg ?_) | (refine W_regd ?_) | (refine W_block ?_) | (refine And.intro (by omega) ?_) | simp (maxSteps := 1000000) (disch := omega) only [cA, cB, lk, lkH, Dst.onT, Dst.onX, Dst.slot, setF, setH, mapF, mapH, initF, binE, unE, cnt, boundE, newsE, freshE, opE, rmH, blkQ, frz_us, Nat.reduceEqDiff, Nat.reduceLT, Nat.reduceAdd, ↓reduceIte, reduceCtorEq, Nat.reduceLeDiff, seqC_ret])
            refine W_ret ?_
            exact RetP_2 (.imm rfl) (.imm rfl)
        · have dl : decide ((i : Int) < recs.length) = false := decide_eq_false (by omega)
          have hil : i = recs.length := by omega
          subst hil
          have hm1 := (hall 0 hpos).2.1
          have hm32 := (hall 0 hpos).2.2
          have hlen : ∀ c, c < recs.length → (recs.getD c []).length = m := fun c hc => (hall c hc).1
          have hsh : shapeOk recs = true := by
            unfold shapeOk shapeB
            rw [decide_eq_true (show 1 ≤ recs.length by omega), decide_eq_true (show recs.length ≤ 1024 by omega), Bool.true_and, Bool.true_and]
            refine List.all_eq_true.2 fun r hr => ?_
            obtain ⟨c, hc, rfl⟩ := List.mem_iff_getElem.1 hr
            have := hlen c hc
            rw [List.getD_eq_getElem?_getD, List.getElem?_eq_getElem hc] at this
            simp only [Option.getD_some] at this
            rw [this, hmd, decide_eq_true rfl, decide_eq_true hm1, decide_eq_true hm32]; rfl
          clear hall
          (replace hlen := Hid.mk hlen)
          repeat (first | (refine W_seq ?_) | (refine W_reg ?_) | (refine W_regd ?_) | (refine W_block ?_) | (refine And.intro (by omega) ?_) | simp (maxSteps := 1000000) (disch := omega) only [cA, cB, lk, lkH, Dst.onT, Dst.onX, Dst.slot, setF, setH, mapF, mapH, initF, binE, unE, cnt, boundE, newsE, freshE, opE, rmH, blkQ, frz_us, Nat.reduceEqDiff, Nat.reduceLT, Nat.reduceAdd, ↓reduceIte, reduceCtorEq, Nat.reduceLeDiff, dl])
          refine W_cond rfl (fun h => by cases h) (fun _ => W_exit ?_)
          repeat (first | (refine W_seq ?_) | (refine W_reg ?_) | (refine W_regd ?_) | (refine W_block ?_) | (refine And.intro (by omega) ?_) | simp (maxSteps := 1000000) (disch := omega) only [cA, cB, lk, lkH, Dst.onT, Dst.onX, Dst.slot, setF, setH, mapF, mapH, initF, binE, unE, cnt, boundE, newsE, freshE, opE, rmH, blkQ, frz_us, Nat.reduceEqDiff, Nat.reduceLT, Nat.reduceAdd, ↓reduceIte, reduceCtorEq, Nat.reduceLeDiff, seqC_norm])
          refine WC_seq (WC_of cs4 ?_)
          unfold coderpColumns
          dsimp only [dSeq1, dSeq2]
          have hrp : rep m [DV.int .i64 0] = wcells (wdT recs 0) m := wcells_rep recs m
          have hcap : (m : Int) * 8 ≤ 281474976710656 := by omega
          repeat (first | (refine W_seq ?_) | (refine W_reg ?_) | (refine W_regd ?_) | (refine W_block ?_) | (refine And.intro (by omega) ?_) | simp (maxSteps := 1000000) (disch := omega) only [cA, cB, lk, lkH, Dst.onT, Dst.onX, Dst.slot, setF, setH, mapF, mapH, initF, binE, unE, cnt, boundE, newsE, freshE, opE, rmH, blkQ, frz_us, Nat.reduceEqDiff, Nat.reduceLT, Nat.reduceAdd, ↓reduceIte, reduceCtorEq, Nat.reduceLeDiff, hrp, nbrpColumns])
          repeat (first | (refine W_seq ?_) | (refine W_reg ?_) | (refine W_regd ?_) | (refine W_block ?_) | (refine And.intro (by omega) ?_) | simp (maxSteps := 1000000) (disch := omega) only [cA, cB, lk, lkH, Dst.onT, Dst.onX, Dst.slot, setF, setH, mapF, mapH, initF, binE, unE, cnt, boundE, newsE, freshE, opE, rmH, blkQ, frz_us, Nat.reduceEqDiff, Nat.reduceLT, Nat.reduceAdd, ↓reduceIte, reduceCtorEq, Nat.reduceLeDiff, seqC_norm])
          refine WC_seq (WC_of cs5 ?_)
          unfold coderpColumns
          dsimp only [dSeq1, dSeq2]
          repeat (first | (refine W_seq ?_) | (refine W_reg ?_) | (refine W_regd ?_) | (refine W_block ?_) | (refine And.intro (by omega) ?_) | simp (maxSteps := 1000000) (disch := omega) only [cA, cB, lk, lkH, Dst.onT, Dst.onX, Dst.slot, setF, setH, mapF, mapH, initF, binE, unE, cnt, boundE, newsE, freshE, opE, rmH, blkQ, frz_us, Nat.reduceEqDiff, Nat.reduceLT, Nat.reduceAdd, ↓reduceIte, reduceCtorEq, Nat.reduceLeDiff, hln])
          refine W_loop (σ := Nat) (fun i => [(0, .sl 1 (recD recs)), (2, .str []), (3, .int .i64 0), (7, .osl 1 49 0 m), (50, .sl 1 (recD recs)), (51, .int .i64 recs.length), (52, .int .i64 i)]) (fun i => [(49, wcells (wdT recs i) m)]) (fun i => i ≤ recs.length ∧ ∀ c, c < i → ∀ j, j < m → cellB ((recs.getD c []).getD j []) = true) (fun i => recs.length - i) 0 (And.intro (Nat.zero_le _) (fun c hc => absurd hc (by omega))) ?_ rfl ?_
          · simp [subF, lk]
          · rintro i ⟨hi2, hok⟩
            try simp only at hi2 hok ⊢
            by_cases hlt2 : i < recs.length
            · have dl2 : decide ((i : Int) < recs.length) = true := decide_eq_true (by omega)
              have ei : (i : Int).toNat = i := Int.toNat_natCast i
              have hgi := recD_getD hlt2
              have hsi := strL_len (recs.getD i [])
              have hri := hlen.out i hlt2
              rw [hri] at hsi
              have e1 : ((i : Int) + 1) = ((i + 1 : Nat) : Int) := by omega
              replace hok := Dat.Hid.mk hok
              repeat (first | (refine W_seq ?_) | (refine W_reg ?_) | (refine W_regd ?_) | (refine W_block ?_) | (refine And.intro (by omega) ?_) | simp (maxSteps := 1000000) (disch := omega) only [cA, cB, lk, lkH, Dst.onT, Dst.onX, Dst.slot, setF, setH, mapF, mapH, initF, binE, unE, cnt, boundE, newsE, freshE, opE, rmH, blkQ, frz_us, Nat.reduceEqDiff, Nat.reduceLT, Nat.reduceAdd, ↓reduceIte, reduceCtorEq, Nat.reduceLeDiff, dl2])
              refine W_cond rfl (fun _ => W_skip ?_) (fun h => by cases h)
              repeat (first | (refine W_seq ?_) | (refine W_reg ?_) | (refine W_regd ?_) | (refine W_block ?_) | (refine And.intro (by omega) ?_) | simp (maxSteps := 1000000) (disch := omega) only [cA, cB, lk, lkH, Dst.onT, Dst.onX, Dst.slot, setF, setH, mapF, mapH, initF, binE, unE, cnt, boundE, newsE, freshE, opE, rmH, blkQ, frz_us, Nat.reduceEqDiff, Nat.reduceLT, Nat.reduceAdd, ↓reduceIte, reduceCtorEq, Nat.reduceLeDiff, ei, hln, hgi, hsi])
              refine W_loop (σ := Nat) (fun j => [(0, .sl 1 (recD recs)), (2, .str []), (3, .int .i64 0), (7, .osl 1 49 0 m), (50, .sl 1 (recD recs)), (51, .int .i64 recs.length), (52, .int .i64 i), (56, .sl 1 (strL (recs.getD i []))), (57, .int .i64 m), (58, .int .i64 j)]) (fun j => [(49, wcells (wmix recs i j) m)]) (fun j => j ≤ m ∧ ∀ c, c < j → cellB ((recs.getD i []).getD c []) = true) (fun j => m - j) 0 (And.intro (Nat.zero_le _) (fun c hc => absurd hc (by omega))) ?_ (by rw [wmix_zero]) ?_
              · simp [subF, lk]
              · rintro j ⟨hj, hcj⟩
                try simp only at hj hcj ⊢
                by_cases hjm : j < m
                · have dj : decide ((j : Int) < m) = true := decide_eq_true (by omega)
                  have ej : (j : Int).toNat = j := Int.toNat_natCast j
                  have hgj := strL_getD (r := recs.getD i []) (j := j) (by omega)
                  have hbd := hb3 i j
                  have cc := rpCell_calls ((recs.getD i []).getD j []) (by omega)
                  have e1j : ((j : Int) + 1) = ((j + 1 : Nat) : Int) := by omega
                  have hwl := wcells_len (wmix recs i j) m
                  have hwg := wcells_getD (f := wmix recs i j) hjm
                  have hws := wcells_set (recs := recs) hlt2 hjm
                  have hmx : wmix recs i j j = wdT recs i j := by unfold wmix; rw [if_neg (Nat.lt_irrefl _)]
                  rw [hmx] at hwg
                  have hform := @form_bad recs i j hlt2 (by omega)
                  have hnext : cellB ((recs.getD i []).getD j []) = true → ∀ c, c < j + 1 → cellB ((recs.getD i []).getD c []) = true := fun h c hc => by
                    rcases Nat.lt_or_ge c j with hcj2 | hcj2
                    · exact hcj c hcj2
                    · rw [show c = j by omega]; exact h
                  generalize (recs.getD i []).getD j [] = S at *
                  repeat (first | (refine W_seq ?_) | (refine W_reg ?_) | (refine W_regd ?_) | (refine W_block ?_) | (refine And.intro (by omega) ?_) | simp (maxSteps := 1000000) (disch := omega) only [cA, cB, lk, lkH, Dst.onT, Dst.onX, Dst.slot, setF, setH, mapF, mapH, initF, binE, unE, cnt, boundE, newsE, freshE, opE, rmH, blkQ, frz_us, Nat.reduceEqDiff, Nat.reduceLT, Nat.reduceAdd, ↓reduceIte, reduceCtorEq, Nat.reduceLeDiff, dj])
                  refine W_cond rfl (fun _ => W_skip ?_) (fun h => by cases h)
                  cases hcb : cellB S
                  · rw [hcb] at cc
                    have hR : colR recs = .tup [.str [], .int .i64 4] := by
                      unfold colR
                      rw [hsh, hform hcb]; rfl
                    rw [hR]
                    clear hnext hform hcj
                    repeat (first | (refine W_seq ?_) | (refine W_reg ?_) | (refine W_regd ?_) | (refine W_block ?_) | (refine And.intro (by omega) ?_) | simp (maxSteps := 1000000) (disch := omega) only [cA, cB, lk, lkH, Dst.onT, Dst.onX, Dst.slot, setF, setH, mapF, mapH, initF, binE, unE, cnt, boundE, newsE, freshE, opE, rmH, blkQ, frz_us, Nat.reduceEqDiff, Nat.reduceLT, Nat.reduceAdd, ↓reduceIte, reduceCtorEq, Nat.reduceLeDiff, ej, hsi, hgj] | (refine callC_pure (cc) rfl ?_) | exact W_ret (RetP_1 (.imm rfl)) | exact W_ret (RetP_c rfl rfl rfl (.imm rfl)))
                    refine W_cond rfl (fun _ => ?_) (fun h => by cases h)
                    repeat (first | (refine W_seq ?_) | (refine W_reg ?_) | (refine W_regd ?_) | (refine W_block ?_) | (refine And.intro (by omega) ?_) | simp (maxSteps := 1000000) (disch := omega) only [cA, cB, lk, lkH, Dst.onT, Dst.onX, Dst.slot, setF, setH, mapF, mapH, initF, binE, unE, cnt, boundE, newsE, freshE, opE, rmH, blkQ, frz_us, Nat.reduceEqDiff, Nat.reduceLT, Nat.reduceAdd, ↓reduceIte, reduceCtorEq, Nat.reduceLeDiff, seqC_ret])
                    refine W_ret ?_
                    exact RetP_2 (.imm rfl) (.imm rfl)
                  · rw [hcb] at cc
                    have hnx := Dat.Hid.mk (hnext hcb)
                    have emax : (if ((wdT recs i j : Nat) : Int) < (S.length : Int) then (S.length : Int) else ((wdT recs i j : Nat) : Int)) = ((max (wdT recs i j) S.length : Nat) : Int) := by
                      split <;> omega
                    clear hnext hform hcj
                    repeat (first | (refine W_seq ?_) | (refine W_reg ?_) | (refine W_regd ?_) | (refine W_block ?_) | (refine And.intro (by omega) ?_) | simp (maxSteps := 1000000) (disch := omega) only [cA, cB, lk, lkH, Dst.onT, Dst.onX, Dst.slot, setF, setH, mapF, mapH, initF, binE, unE, cnt, boundE, newsE, freshE, opE, rmH, blkQ, frz_us, Nat.reduceEqDiff, Nat.reduceLT, Nat.reduceAdd, ↓reduceIte, reduceCtorEq, Nat.reduceLeDiff, ej, hsi, hgj] | (refine callC_pure (cc) rfl ?_) | exact W_ret (RetP_1 (.imm rfl)) | exact W_ret (RetP_c rfl rfl rfl (.imm rfl)))
                    refine W_cond rfl (fun h => by cases h) (fun _ => W_skip ?_)
                    repeat (first | (refine W_seq ?_) | (refine W_reg ?_) | (refine W_regd ?_) | (refine W_block ?_) | (refine And.intro (by omega) ?_) | simp (maxSteps := 1000000) (disch := omega) only [cA, cB, lk, lkH, Dst.onT, Dst.onX, Dst.slot, setF, setH, mapF, mapH, initF, binE, unE, cnt, boundE, newsE, freshE, opE, rmH, blkQ, frz_us, Nat.reduceEqDiff, Nat.reduceLT, Nat.reduceAdd, ↓reduceIte, reduceCtorEq, Nat.reduceLeDiff, ej, hwl, hwg, emax, hws, e1j])
                    exact ⟨j + 1, And.intro hjm hnx.out, by omega, by simp [subF, lk]⟩
                · have dj : decide ((j : Int) < m) = false := decide_eq_false (by omega)
                  have hjm2 : j = m := by omega
                  subst hjm2
                  have hnx : Dat.Hid (∀ c, c < i + 1 → ∀ q, q < j → cellB ((recs.getD c []).getD q []) = true) := ⟨fun c hc q hq => by
                    rcases Nat.lt_or_ge c i with hci | hci
                    · exact hok.out c hci q hq
                    · rw [show c = i by omega]; exact hcj q hq⟩
                  clear hcj hok
                  rw [wmix_full]
                  repeat (first | (refine W_seq ?_) | (refine W_reg ?_) | (refine W_regd ?_) | (refine W_block ?_) | (refine And.intro (by omega) ?_) | simp (maxSteps := 1000000) (disch := omega) only [cA, cB, lk, lkH, Dst.onT, Dst.onX, Dst.slot, setF, setH, mapF, mapH, initF, binE, unE, cnt, boundE, newsE, freshE, opE, rmH, blkQ, frz_us, Nat.reduceEqDiff, Nat.reduceLT, Nat.reduceAdd, ↓reduceIte, reduceCtorEq, Nat.reduceLeDiff, dj])
                  refine W_cond rfl (fun h => by cases h) (fun _ => W_exit ?_)
                  repeat (first | (refine W_seq ?_) | (refine W_reg ?_) | (refine W_regd ?_) | (refine W_block ?_) | (refine And.intro (by omega) ?_) | simp (maxSteps := 1000000) (disch := omega) only [cA, cB, lk, lkH, Dst.onT, Dst.onX, Dst.slot, setF, setH, mapF, mapH, initF, binE, unE, cnt, boundE, newsE, freshE, opE, rmH, blkQ, frz_us, Nat.reduceEqDiff, Nat.reduceLT, Nat.reduceAdd, ↓reduceIte, reduceCtorEq, Nat.reduceLeDiff, e1])
                  exact ⟨i + 1, And.intro hlt2 hnx.out, by omega, by simp [subF, lk]⟩
            · have dl2 : decide ((i : Int) < recs.length) = false := decide_eq_false (by omega)
              have hil2 : i = recs.length := by omega
              subst hil2
              have hform : formB recs = true := form_ok fun c hc q hq => hok c hc q (by rw [hlen.out c hc] at hq; exact hq)
              have hR : colR recs = .tup [.str (colT (wdT recs recs.length) recs m recs.length), .int .i64 0] := by
                unfold colR
                rw [hsh, hform, hmd]; rfl
              rw [hR]
              clear hok
              repeat (first | (refine W_seq ?_) | (refine W_reg ?_) | (refine W_regd ?_) | (refine W_block ?_) | (refine And.intro (by omega) ?_) | simp (maxSteps := 1000000) (disch := omega) only [cA, cB, lk, lkH, Dst.onT, Dst.onX, Dst.slot, setF, setH, mapF, mapH, initF, binE, unE, cnt, boundE, newsE, freshE, opE, rmH, blkQ, frz_us, Nat.reduceEqDiff, Nat.reduceLT, Nat.reduceAdd, ↓reduceIte, reduceCtorEq, Nat.reduceLeDiff, dl2])
              refine W_cond rfl (fun h => by cases h) (fun _ => W_exit ?_)
              repeat (first | (refine W_seq ?_) | (refine W_reg ?_) | (refine W_regd ?_) | (refine W_block ?_) | (refine And.intro (by omega) ?_) | simp (maxSteps := 1000000) (disch := omega) only [cA, cB, lk, lkH, Dst.onT, Dst.onX, Dst.slot, setF, setH, mapF, mapH, initF, binE, unE, cnt, boundE, newsE, freshE, opE, rmH, blkQ, frz_us, Nat.reduceEqDiff, Nat.reduceLT, Nat.reduceAdd, ↓reduceIte, reduceCtorEq, Nat.reduceLeDiff, seqC_norm])
              exact part2_WC 49 recs m (wdT recs recs.length) (wcells (wdT recs recs.length) m) hpos (by omega) (by omega) hm32 (fun r hr => by
                obtain ⟨c, hc, rfl⟩ := List.mem_iff_getElem.1 hr
                have := hlen.out c hc
                rw [List.getD_eq_getElem?_getD, List.getElem?_eq_getElem hc] at this
                simpa using this) (fun j hj => wcells_get hj) (fun c j => wdT_ge c j) (fun j => wdT_le hform j) _ _ rfl rfl rfl
end Go.Proofs.Ytammbggabhnfdaa
namespace Go.Proofs.Ytammbggabhnfdaa
open Go Go.Dat Go.Proofs Nat32 Go.RowKit
theorem rfm_nil : (∀ d ∈ ([] : List DV), d.rf = true) ↔ True := by simp
theorem rfm_str (l : List UInt8) (xs : List DV) : (∀ d ∈ DV.str l :: xs, d.rf = true) ↔ ∀ d ∈ xs, d.rf = true := by simp [DV.rf]
theorem rfm_sl (s : Nat) (ys xs : List DV) : (∀ d ∈ DV.sl s ys :: xs, d.rf = true) ↔ ∀ d ∈ xs, d.rf = true := by simp [DV.rf]
theorem getD_bd {α : Type} {p : α → Prop} {l : List α} {d : α} (hd : p d) (h : ∀ x ∈ l, p x) (i : Nat) : p (l.getD i d) := by
  rw [List.getD_eq_getElem?_getD]
  cases hi : l[i]? with
  | none => exact hd
  | some x => exact h x (List.mem_of_getElem? hi)
theorem lr_awake_calls : PCalls Try.prog 5 [] (.bool true) := by
  have hc : colR [[[97], [49, 48]], [[98, 99, 100], [50]]] = .tup [.str [32, 32, 97, 32, 32, 49, 48, 10, 98, 99, 100, 32, 32, 32, 50, 10], .int .i64 0] := by
    have h1 : shapeOk [[[97], [49, 48]], [[98, 99, 100], [50]]] = true := by decide +kernel
    have h2 : formB [[[97], [49, 48]], [[98, 99, 100], [50]]] = true := by decide +kernel
    have h3 : colT (wdT [[[97], [49, 48]], [[98, 99, 100], [50]]] 2) [[[97], [49, 48]], [[98, 99, 100], [50]]] 2 2 = [32, 32, 97, 32, 32, 49, 48, 10, 98, 99, 100, 32, 32, 32, 50, 10] := by decide +kernel
    unfold colR
    rw [h1, h2]
    show DV.tup [.str (colT (wdT [[[97], [49, 48]], [[98, 99, 100], [50]]] 2) [[[97], [49, 48]], [[98, 99, 100], [50]]] 2 2), .int .i64 0] = _
    rw [h3]
  have c := rpColumns_calls [[[97], [49, 48]], [[98, 99, 100], [50]]] (by decide)
    (fun i => getD_bd (p := fun r : List (List UInt8) => r.length ≤ 100000) (by decide) (by decide) i)
    (fun i j => getD_bd (p := fun r : List (List UInt8) => (r.getD j []).length ≤ 100000) (by simp) (fun r hr => getD_bd (p := fun s : List UInt8 => s.length ≤ 100000) (by decide) (by
      intro x hx
      simp only [List.mem_cons, List.not_mem_nil, or_false] at hr
      rcases hr with rfl | rfl <;> (simp only [List.mem_cons, List.not_mem_nil, or_false] at hx; rcases hx with rfl | rfl <;> decide)) j) i)
  rw [hc] at c
  have c' : PCalls Try.prog 4 [.sl 1 [.sl 1 [.str [97], .str [49, 48]], .sl 1 [.str [98, 99, 100], .str [50]]]] (.tup [.str [32, 32, 97, 32, 32, 49, 48, 10, 98, 99, 100, 32, 32, 32, 50, 10], .int .i64 0]) := c
  clear c hc
  refine PCalls_of islr_awake (by simp [fnlr_awake]) ?_
  unfold codelr_awake
  repeat (first | (refine W_seq ?_) | (refine W_reg ?_) | (refine W_regd ?_) | (refine W_block ?_) | (refine And.intro (by omega) ?_) | simp (maxSteps := 1000000) (disch := omega) only [cA, cB, lk, lkH, Dst.onT, Dst.onX, Dst.slot, setF, setH, mapF, mapH, initF, binE, unE, cnt, boundE, newsE, freshE, opE, rmH, blkQ, frz_us, Nat.reduceEqDiff, Nat.reduceLT, Nat.reduceAdd, ↓reduceIte, reduceCtorEq, Nat.reduceLeDiff, cS, rfm_nil, rfm_str, rfm_sl, decide_true] | (refine callC_pure (c') rfl ?_) | exact W_ret (RetP_1 (.imm rfl)) | exact W_ret (RetP_c rfl rfl rfl (.imm rfl)))
theorem tmodN (n m : Nat) : ((n : Nat) : Int).tmod ((m : Nat) : Int) = ((n % m : Nat) : Int) := rfl
theorem recD_rep (k : Nat) (r : List (List UInt8)) : recD (List.replicate k r) = List.replicate k (.sl 1 (strL r)) := by unfold recD; rw [List.map_replicate]
theorem strL_rep (k : Nat) (s : List UInt8) : strL (List.replicate k s) = List.replicate k (.str s) := by unfold strL; rw [List.map_replicate]
theorem rep_bd (k : Nat) (r : List (List UInt8)) (h1 : r.length ≤ 100000) (i : Nat) : ((List.replicate k r).getD i []).length ≤ 100000 :=
  getD_bd (p := fun r : List (List UInt8) => r.length ≤ 100000) (by simp) (fun x hx => by rw [List.eq_of_mem_replicate hx]; exact h1) i
theorem rep_bd2 (k : Nat) (r : List (List UInt8)) (h1 : ∀ j, (r.getD j []).length ≤ 100000) (i j : Nat) : (((List.replicate k r).getD i []).getD j []).length ≤ 100000 :=
  getD_bd (p := fun r : List (List UInt8) => (r.getD j []).length ≤ 100000) (by simp) (fun x hx => by rw [List.eq_of_mem_replicate hx]; exact h1 j) i
theorem many_calls (k : Nat) (hk : k ≤ 100000) : ∃ T, PCalls Try.prog 4 [.sl 1 (List.replicate k (.sl 1 [.str [97]]))] (.tup [.str T, .int .i64 (badE k 1024)]) := by
  obtain ⟨T, hT⟩ := colR_many k
  have c := rpColumns_calls (List.replicate k [[97]]) (by rw [List.length_replicate]; exact hk) (rep_bd k [[97]] (by decide))
    (rep_bd2 k [[97]] (fun j => getD_bd (p := fun s : List UInt8 => s.length ≤ 100000) (by simp) (by simp) j))
  rw [hT, recD_rep] at c
  exact ⟨T, c⟩
theorem wide_calls (k : Nat) (hk : k ≤ 100000) : ∃ T, PCalls Try.prog 4 [.sl 1 [.sl 1 (List.replicate k (.str [98]))]] (.tup [.str T, .int .i64 (badE k 32)]) := by
  obtain ⟨T, hT⟩ := colR_wide k
  have c := rpColumns_calls [List.replicate k [98]] (by simp)
    (fun i => getD_bd (p := fun r : List (List UInt8) => r.length ≤ 100000) (by simp) (by simp; exact hk) i)
    (fun i j => getD_bd (p := fun r : List (List UInt8) => (r.getD j []).length ≤ 100000) (by simp) (fun r hr => by
      simp only [List.mem_cons, List.not_mem_nil, or_false] at hr
      subst hr
      exact getD_bd (p := fun s : List UInt8 => s.length ≤ 100000) (by simp) (fun x hx => by rw [List.eq_of_mem_replicate hx]; decide) j) i)
  rw [hT] at c
  have e : recD [List.replicate k [98]] = [.sl 1 (List.replicate k (.str [98]))] := by
    show [DV.sl 1 (strL (List.replicate k [98]))] = _
    rw [strL_rep]
  rw [e] at c
  exact ⟨T, c⟩
end Go.Proofs.Ytammbggabhnfdaa
namespace Go.Proofs.Ytammbggabhnfdaa
open Go Go.Dat Go.Proofs Nat32 Go.RowKit
theorem all_rep (k : Nat) (d : DV) (h : d.rf = true) : (List.replicate k d).all DV.rf = true := List.all_eq_true.2 fun x hx => by rw [List.eq_of_mem_replicate hx]; exact h
theorem set_part {a z : DV} {i k : Nat} (h : i < k) : (Nat32.part a z i k).set i a = Nat32.part a z (i + 1) k := part_set a z h
theorem badE_0 {k most : Nat} (h : k = 0) : badE k most = 6 := by unfold badE; rw [if_pos (.inl h)]
theorem badE_g {k most : Nat} (h : most < k) : badE k most = 6 := by unfold badE; rw [if_pos (.inr h)]
theorem badE_ok {k most : Nat} (h1 : ¬ k = 0) (h2 : ¬ most < k) : badE k most = 0 := by unfold badE; rw [if_neg (by omega)]
theorem rep_one (k : Nat) (z : DV) : rep k [z] = List.replicate k z := rfl
theorem frz_rep (k : Nat) (d : DV) (o : Nat) : frz o (List.replicate k d) (.osl 1 o 0 k) = .sl 1 (List.replicate k d) := by
  simp [frz]
set_option maxHeartbeats 2000000 in
theorem lrLimits_calls (n : Nat) (wide : Bool) (hn : n < 65536) : PCalls Try.prog 3 [.int .u16 n, .bool wide] (.bool true) := by
  have aw := lr_awake_calls
  have e1 := tmodN n 1100
  have hk : n % 1100 < 1100 := Nat.mod_lt _ (by decide)
  refine PCalls_of islrLimits (by simp [fnlrLimits]) ?_
  unfold codelrLimits
  have e1' : ((n : Nat) : Int).tmod 1100 = ((n % 1100 : Nat) : Int) := e1
  generalize n % 1100 = k at *
  have hp0 := part_zero (.sl 1 [.str [97]]) .nils k
  repeat (first | (refine W_seq ?_) | (refine W_reg ?_) | (refine W_regd ?_) | (refine W_block ?_) | (refine And.intro (by omega) ?_) | simp (maxSteps := 1000000) (disch := omega) only [cA, cB, lk, lkH, Dst.onT, Dst.onX, Dst.slot, setF, setH, mapF, mapH, initF, binE, unE, cnt, boundE, newsE, freshE, opE, rmH, blkQ, frz_us, Nat.reduceEqDiff, Nat.reduceLT, Nat.reduceAdd, ↓reduceIte, reduceCtorEq, Nat.reduceLeDiff, e1', rep_one, nblrLimits])
  rw [← hp0]
  clear hp0
  refine W_loop (σ := Nat) (fun i => [(0, .int .u16 n), (1, .bool wide), (4, .bool false), (5, .int .i64 k), (6, .osl 1 18 0 k), (20, .int .i64 k), (21, .int .i64 i)]) (fun i => [(18, Nat32.part (.sl 1 [.str [97]]) .nils i k)]) (fun i => i ≤ k) (fun i => k - i) 0 (Nat.zero_le _) ?_ rfl ?_
  · simp [subF, lk]
  · rintro i hi
    try simp only at hi ⊢
    by_cases hlt : i < k
    · have dl : decide ((i : Int) < k) = true := decide_eq_true (by omega)
      have ei : (i : Int).toNat = i := Int.toNat_natCast i
      have e1i : ((i : Int) + 1) = ((i + 1 : Nat) : Int) := by omega
      have hpl := part_len (.sl 1 [.str [97]]) .nils hi
      have hps := set_part (a := .sl 1 [.str [97]]) (z := .nils) hlt
      repeat (first | (refine W_seq ?_) | (refine W_reg ?_) | (refine W_regd ?_) | (refine W_block ?_) | (refine And.intro (by omega) ?_) | simp (maxSteps := 1000000) (disch := omega) only [cA, cB, lk, lkH, Dst.onT, Dst.onX, Dst.slot, setF, setH, mapF, mapH, initF, binE, unE, cnt, boundE, newsE, freshE, opE, rmH, blkQ, frz_us, Nat.reduceEqDiff, Nat.reduceLT, Nat.reduceAdd, ↓reduceIte, reduceCtorEq, Nat.reduceLeDiff, dl])
      refine W_cond rfl (fun _ => W_skip ?_) (fun h => by cases h)
      repeat (first | (refine W_seq ?_) | (refine W_reg ?_) | (refine W_regd ?_) | (refine W_block ?_) | (refine And.intro (by omega) ?_) | simp (maxSteps := 1000000) (disch := omega) only [cA, cB, lk, lkH, Dst.onT, Dst.onX, Dst.slot, setF, setH, mapF, mapH, initF, binE, unE, cnt, boundE, newsE, freshE, opE, rmH, blkQ, frz_us, Nat.reduceEqDiff, Nat.reduceLT, Nat.reduceAdd, ↓reduceIte, reduceCtorEq, Nat.reduceLeDiff, ei, hpl, cS, rfm_nil, rfm_str, hps, e1i])
      exact ⟨i + 1, hlt, by omega, by simp [subF, lk]⟩
    · have dl : decide ((i : Int) < k) = false := decide_eq_false (by omega)
      have hik : i = k := by omega
      subst hik
      have hpf := part_full (.sl 1 [.str [97]]) .nils i
      rw [hpf]
      clear hpf
      repeat (first | (refine W_seq ?_) | (refine W_reg ?_) | (refine W_regd ?_) | (refine W_block ?_) | (refine And.intro (by omega) ?_) | simp (maxSteps := 1000000) (disch := omega) only [cA, cB, lk, lkH, Dst.onT, Dst.onX, Dst.slot, setF, setH, mapF, mapH, initF, binE, unE, cnt, boundE, newsE, freshE, opE, rmH, blkQ, frz_us, Nat.reduceEqDiff, Nat.reduceLT, Nat.reduceAdd, ↓reduceIte, reduceCtorEq, Nat.reduceLeDiff, dl])
      refine W_cond rfl (fun h => by cases h) (fun _ => W_exit ?_)
      cases wide
      · obtain ⟨T, c⟩ := many_calls i (by omega)
        repeat (first | (refine W_seq ?_) | (refine W_reg ?_) | (refine W_regd ?_) | (refine W_block ?_) | (refine And.intro (by omega) ?_) | simp (maxSteps := 1000000) (disch := omega) only [cA, cB, lk, lkH, Dst.onT, Dst.onX, Dst.slot, setF, setH, mapF, mapH, initF, binE, unE, cnt, boundE, newsE, freshE, opE, rmH, blkQ, frz_us, Nat.reduceEqDiff, Nat.reduceLT, Nat.reduceAdd, ↓reduceIte, reduceCtorEq, Nat.reduceLeDiff])
        refine W_cond rfl (fun h => by cases h) (fun _ => W_skip ?_)
        refine W_freeze 18 (cells := List.replicate i (.sl 1 [.str [97]])) (by simp [lkH]) (all_rep _ _ rfl) ?_
        have hfz := frz_rep i (.sl 1 [.str [97]]) 18
        generalize hG : List.replicate i (DV.sl 1 [.str [97]]) = G at *
        simp (maxSteps := 1000000) (disch := omega) only [cA, cB, lk, lkH, Dst.onT, Dst.onX, Dst.slot, setF, setH, mapF, mapH, initF, binE, unE, cnt, boundE, newsE, freshE, opE, rmH, blkQ, frz_us, Nat.reduceEqDiff, Nat.reduceLT, Nat.reduceAdd, ↓reduceIte, reduceCtorEq, Nat.reduceLeDiff, hfz]
        by_cases z0 : i = 0
        · have g0 : decide ((i : Int) = 0) = true := decide_eq_true (by omega)
          rw [badE_0 z0] at c
          repeat (first | (refine W_seq ?_) | (refine W_reg ?_) | (refine W_regd ?_) | (refine W_block ?_) | (refine And.intro (by omega) ?_) | simp (maxSteps := 1000000) (disch := omega) only [cA, cB, lk, lkH, Dst.onT, Dst.onX, Dst.slot, setF, setH, mapF, mapH, initF, binE, unE, cnt, boundE, newsE, freshE, opE, rmH, blkQ, frz_us, Nat.reduceEqDiff, Nat.reduceLT, Nat.reduceAdd, ↓reduceIte, reduceCtorEq, Nat.reduceLeDiff] | (refine callC_pure (c) rfl ?_) | exact W_ret (RetP_1 (.imm rfl)) | exact W_ret (RetP_c rfl rfl rfl (.imm rfl)))
          repeat (first | (refine W_seq ?_) | (refine W_reg ?_) | (refine W_regd ?_) | (refine W_block ?_) | (refine And.intro (by omega) ?_) | simp (maxSteps := 1000000) (disch := omega) only [cA, cB, lk, lkH, Dst.onT, Dst.onX, Dst.slot, setF, setH, mapF, mapH, initF, binE, unE, cnt, boundE, newsE, freshE, opE, rmH, blkQ, frz_us, Nat.reduceEqDiff, Nat.reduceLT, Nat.reduceAdd, ↓reduceIte, reduceCtorEq, Nat.reduceLeDiff, g0])
          refine W_cond rfl (fun _ => ?_) (fun h => by cases h)
          repeat (first | (refine W_seq ?_) | (refine W_reg ?_) | (refine W_regd ?_) | (refine W_block ?_) | (refine And.intro (by omega) ?_) | simp (maxSteps := 1000000) (disch := omega) only [cA, cB, lk, lkH, Dst.onT, Dst.onX, Dst.slot, setF, setH, mapF, mapH, initF, binE, unE, cnt, boundE, newsE, freshE, opE, rmH, blkQ, frz_us, Nat.reduceEqDiff, Nat.reduceLT, Nat.reduceAdd, ↓reduceIte, reduceCtorEq, Nat.reduceLeDiff, decide_true] | (refine callC_pure (aw) rfl ?_) | exact W_ret (RetP_1 (.imm rfl)) | exact W_ret (RetP_c rfl rfl rfl (.imm rfl)))
        · have g0 : decide ((i : Int) = 0) = false := decide_eq_false (by omega)
          by_cases z1 : 1024 < i
          · have g1 : decide ((1024 : Int) < (i : Int)) = true := decide_eq_true (by omega)
            rw [badE_g z1] at c
            repeat (first | (refine W_seq ?_) | (refine W_reg ?_) | (refine W_regd ?_) | (refine W_block ?_) | (refine And.intro (by omega) ?_) | simp (maxSteps := 1000000) (disch := omega) only [cA, cB, lk, lkH, Dst.onT, Dst.onX, Dst.slot, setF, setH, mapF, mapH, initF, binE, unE, cnt, boundE, newsE, freshE, opE, rmH, blkQ, frz_us, Nat.reduceEqDiff, Nat.reduceLT, Nat.reduceAdd, ↓reduceIte, reduceCtorEq, Nat.reduceLeDiff] | (refine callC_pure (c) rfl ?_) | exact W_ret (RetP_1 (.imm rfl)) | exact W_ret (RetP_c rfl rfl rfl (.imm rfl)))
            repeat (first | (refine W_seq ?_) | (refine W_reg ?_) | (refine W_regd ?_) | (refine W_block ?_) | (refine And.intro (by omega) ?_) | simp (maxSteps := 1000000) (disch := omega) only [cA, cB, lk, lkH, Dst.onT, Dst.onX, Dst.slot, setF, setH, mapF, mapH, initF, binE, unE, cnt, boundE, newsE, freshE, opE, rmH, blkQ, frz_us, Nat.reduceEqDiff, Nat.reduceLT, Nat.reduceAdd, ↓reduceIte, reduceCtorEq, Nat.reduceLeDiff, g0, g1])
            refine W_cond rfl (fun _ => ?_) (fun h => by cases h)
            repeat (first | (refine W_seq ?_) | (refine W_reg ?_) | (refine W_regd ?_) | (refine W_block ?_) | (refine And.intro (by omega) ?_) | simp (maxSteps := 1000000) (disch := omega) only [cA, cB, lk, lkH, Dst.onT, Dst.onX, Dst.slot, setF, setH, mapF, mapH, initF, binE, unE, cnt, boundE, newsE, freshE, opE, rmH, blkQ, frz_us, Nat.reduceEqDiff, Nat.reduceLT, Nat.reduceAdd, ↓reduceIte, reduceCtorEq, Nat.reduceLeDiff, decide_true] | (refine callC_pure (aw) rfl ?_) | exact W_ret (RetP_1 (.imm rfl)) | exact W_ret (RetP_c rfl rfl rfl (.imm rfl)))
          · have g1 : decide ((1024 : Int) < (i : Int)) = false := decide_eq_false (by omega)
            rw [badE_ok z0 z1] at c
            repeat (first | (refine W_seq ?_) | (refine W_reg ?_) | (refine W_regd ?_) | (refine W_block ?_) | (refine And.intro (by omega) ?_) | simp (maxSteps := 1000000) (disch := omega) only [cA, cB, lk, lkH, Dst.onT, Dst.onX, Dst.slot, setF, setH, mapF, mapH, initF, binE, unE, cnt, boundE, newsE, freshE, opE, rmH, blkQ, frz_us, Nat.reduceEqDiff, Nat.reduceLT, Nat.reduceAdd, ↓reduceIte, reduceCtorEq, Nat.reduceLeDiff] | (refine callC_pure (c) rfl ?_) | exact W_ret (RetP_1 (.imm rfl)) | exact W_ret (RetP_c rfl rfl rfl (.imm rfl)))
            repeat (first | (refine W_seq ?_) | (refine W_reg ?_) | (refine W_regd ?_) | (refine W_block ?_) | (refine And.intro (by omega) ?_) | simp (maxSteps := 1000000) (disch := omega) only [cA, cB, lk, lkH, Dst.onT, Dst.onX, Dst.slot, setF, setH, mapF, mapH, initF, binE, unE, cnt, boundE, newsE, freshE, opE, rmH, blkQ, frz_us, Nat.reduceEqDiff, Nat.reduceLT, Nat.reduceAdd, ↓reduceIte, reduceCtorEq, Nat.reduceLeDiff, g0, g1])
            refine W_cond rfl (fun h => by cases h) (fun _ => W_skip ?_)
            repeat (first | (refine W_seq ?_) | (refine W_reg ?_) | (refine W_regd ?_) | (refine W_block ?_) | (refine And.intro (by omega) ?_) | simp (maxSteps := 1000000) (disch := omega) only [cA, cB, lk, lkH, Dst.onT, Dst.onX, Dst.slot, setF, setH, mapF, mapH, initF, binE, unE, cnt, boundE, newsE, freshE, opE, rmH, blkQ, frz_us, Nat.reduceEqDiff, Nat.reduceLT, Nat.reduceAdd, ↓reduceIte, reduceCtorEq, Nat.reduceLeDiff, decide_true] | (refine callC_pure (aw) rfl ?_) | exact W_ret (RetP_1 (.imm rfl)) | exact W_ret (RetP_c rfl rfl rfl (.imm rfl)))
      · have hk40 : i % 40 < 40 := Nat.mod_lt _ (by decide)
        have e40 : ((i : Nat) : Int).tmod 40 = ((i % 40 : Nat) : Int) := tmodN i 40
        repeat (first | (refine W_seq ?_) | (refine W_reg ?_) | (refine W_regd ?_) | (refine W_block ?_) | (refine And.intro (by omega) ?_) | simp (maxSteps := 1000000) (disch := omega) only [cA, cB, lk, lkH, Dst.onT, Dst.onX, Dst.slot, setF, setH, mapF, mapH, initF, binE, unE, cnt, boundE, newsE, freshE, opE, rmH, blkQ, frz_us, Nat.reduceEqDiff, Nat.reduceLT, Nat.reduceAdd, ↓reduceIte, reduceCtorEq, Nat.reduceLeDiff])
        refine W_cond rfl (fun _ => ?_) (fun h => by cases h)
        generalize hG : List.replicate i (DV.sl 1 [.str [97]]) = G at *
        clear hG
        generalize i % 40 = q at *
        have hp0 := part_zero (.str [98]) (.str []) q
        repeat (first | (refine W_seq ?_) | (refine W_reg ?_) | (refine W_regd ?_) | (refine W_block ?_) | (refine And.intro (by omega) ?_) | simp (maxSteps := 1000000) (disch := omega) only [cA, cB, lk, lkH, Dst.onT, Dst.onX, Dst.slot, setF, setH, mapF, mapH, initF, binE, unE, cnt, boundE, newsE, freshE, opE, rmH, blkQ, frz_us, Nat.reduceEqDiff, Nat.reduceLT, Nat.reduceAdd, ↓reduceIte, reduceCtorEq, Nat.reduceLeDiff, e40, rep_one, nblrLimits])
        rw [← hp0]
        clear hp0
        refine W_loop (σ := Nat) (fun j => [(0, .int .u16 n), (1, .bool true), (4, .bool false), (5, .int .i64 q), (8, .int .i64 1024), (9, .osl 1 33 0 q), (35, .int .i64 q), (36, .int .i64 j)]) (fun j => [(18, G), (33, Nat32.part (.str [98]) (.str []) j q)]) (fun j => j ≤ q) (fun j => q - j) 0 (Nat.zero_le _) ?_ rfl ?_
        · simp [subF, lk]
        · rintro j hj
          try simp only at hj ⊢
          by_cases hjt : j < q
          · have dj : decide ((j : Int) < q) = true := decide_eq_true (by omega)
            have ej : (j : Int).toNat = j := Int.toNat_natCast j
            have e1j : ((j : Int) + 1) = ((j + 1 : Nat) : Int) := by omega
            have hpl := part_len (.str [98]) (.str []) hj
            have hps := set_part (a := .str [98]) (z := .str []) hjt
            repeat (first | (refine W_seq ?_) | (refine W_reg ?_) | (refine W_regd ?_) | (refine W_block ?_) | (refine And.intro (by omega) ?_) | simp (maxSteps := 1000000) (disch := omega) only [cA, cB, lk, lkH, Dst.onT, Dst.onX, Dst.slot, setF, setH, mapF, mapH, initF, binE, unE, cnt, boundE, newsE, freshE, opE, rmH, blkQ, frz_us, Nat.reduceEqDiff, Nat.reduceLT, Nat.reduceAdd, ↓reduceIte, reduceCtorEq, Nat.reduceLeDiff, dj])
            refine W_cond rfl (fun _ => W_skip ?_) (fun h => by cases h)
            repeat (first | (refine W_seq ?_) | (refine W_reg ?_) | (refine W_regd ?_) | (refine W_block ?_) | (refine And.intro (by omega) ?_) | simp (maxSteps := 1000000) (disch := omega) only [cA, cB, lk, lkH, Dst.onT, Dst.onX, Dst.slot, setF, setH, mapF, mapH, initF, binE, unE, cnt, boundE, newsE, freshE, opE, rmH, blkQ, frz_us, Nat.reduceEqDiff, Nat.reduceLT, Nat.reduceAdd, ↓reduceIte, reduceCtorEq, Nat.reduceLeDiff, ej, hpl, cS, hps, e1j])
            exact ⟨j + 1, hjt, by omega, by simp [subF, lk]⟩
          · have dj : decide ((j : Int) < q) = false := decide_eq_false (by omega)
            have hjq : j = q := by omega
            subst hjq
            have hpf := part_full (.str [98]) (.str []) j
            rw [hpf]
            clear hpf
            repeat (first | (refine W_seq ?_) | (refine W_reg ?_) | (refine W_regd ?_) | (refine W_block ?_) | (refine And.intro (by omega) ?_) | simp (maxSteps := 1000000) (disch := omega) only [cA, cB, lk, lkH, Dst.onT, Dst.onX, Dst.slot, setF, setH, mapF, mapH, initF, binE, unE, cnt, boundE, newsE, freshE, opE, rmH, blkQ, frz_us, Nat.reduceEqDiff, Nat.reduceLT, Nat.reduceAdd, ↓reduceIte, reduceCtorEq, Nat.reduceLeDiff, dj])
            refine W_cond rfl (fun h => by cases h) (fun _ => W_exit ?_)
            obtain ⟨T, c⟩ := wide_calls j (by omega)
            have hrf := all_rep j (.str [98]) rfl
            have hfz := frz_rep j (.str [98]) 33
            generalize List.replicate j (DV.str [98]) = B at *
            simp (maxSteps := 1000000) (disch := omega) only [cA, cB, lk, lkH, Dst.onT, Dst.onX, Dst.slot, setF, setH, mapF, mapH, initF, binE, unE, cnt, boundE, newsE, freshE, opE, rmH, blkQ, frz_us, Nat.reduceEqDiff, Nat.reduceLT, Nat.reduceAdd, ↓reduceIte, reduceCtorEq, Nat.reduceLeDiff]
            refine W_freeze 33 (cells := B) (by simp [lkH]) hrf ?_
            simp (maxSteps := 1000000) (disch := omega) only [cA, cB, lk, lkH, Dst.onT, Dst.onX, Dst.slot, setF, setH, mapF, mapH, initF, binE, unE, cnt, boundE, newsE, freshE, opE, rmH, blkQ, frz_us, Nat.reduceEqDiff, Nat.reduceLT, Nat.reduceAdd, ↓reduceIte, reduceCtorEq, Nat.reduceLeDiff, hfz]
            by_cases z0 : j = 0
            · have g0 : decide ((j : Int) = 0) = true := decide_eq_true (by omega)
              rw [badE_0 z0] at c
              repeat (first | (refine W_seq ?_) | (refine W_reg ?_) | (refine W_regd ?_) | (refine W_block ?_) | (refine And.intro (by omega) ?_) | simp (maxSteps := 1000000) (disch := omega) only [cA, cB, lk, lkH, Dst.onT, Dst.onX, Dst.slot, setF, setH, mapF, mapH, initF, binE, unE, cnt, boundE, newsE, freshE, opE, rmH, blkQ, frz_us, Nat.reduceEqDiff, Nat.reduceLT, Nat.reduceAdd, ↓reduceIte, reduceCtorEq, Nat.reduceLeDiff, cS, rfm_sl, rfm_nil] | (refine callC_pure (c) rfl ?_) | exact W_ret (RetP_1 (.imm rfl)) | exact W_ret (RetP_c rfl rfl rfl (.imm rfl)))
              repeat (first | (refine W_seq ?_) | (refine W_reg ?_) | (refine W_regd ?_) | (refine W_block ?_) | (refine And.intro (by omega) ?_) | simp (maxSteps := 1000000) (disch := omega) only [cA, cB, lk, lkH, Dst.onT, Dst.onX, Dst.slot, setF, setH, mapF, mapH, initF, binE, unE, cnt, boundE, newsE, freshE, opE, rmH, blkQ, frz_us, Nat.reduceEqDiff, Nat.reduceLT, Nat.reduceAdd, ↓reduceIte, reduceCtorEq, Nat.reduceLeDiff, g0])
              refine W_cond rfl (fun _ => ?_) (fun h => by cases h)
              repeat (first | (refine W_seq ?_) | (refine W_reg ?_) | (refine W_regd ?_) | (refine W_block ?_) | (refine And.intro (by omega) ?_) | simp (maxSteps := 1000000) (disch := omega) only [cA, cB, lk, lkH, Dst.onT, Dst.onX, Dst.slot, setF, setH, mapF, mapH, initF, binE, unE, cnt, boundE, newsE, freshE, opE, rmH, blkQ, frz_us, Nat.reduceEqDiff, Nat.reduceLT, Nat.reduceAdd, ↓reduceIte, reduceCtorEq, Nat.reduceLeDiff, decide_true] | (refine callC_pure (aw) rfl ?_) | exact W_ret (RetP_1 (.imm rfl)) | exact W_ret (RetP_c rfl rfl rfl (.imm rfl)))
            · have g0 : decide ((j : Int) = 0) = false := decide_eq_false (by omega)
              by_cases z1 : 32 < j
              · have g1 : decide ((32 : Int) < (j : Int)) = true := decide_eq_true (by omega)
                rw [badE_g z1] at c
                repeat (first | (refine W_seq ?_) | (refine W_reg ?_) | (refine W_regd ?_) | (refine W_block ?_) | (refine And.intro (by omega) ?_) | simp (maxSteps := 1000000) (disch := omega) only [cA, cB, lk, lkH, Dst.onT, Dst.onX, Dst.slot, setF, setH, mapF, mapH, initF, binE, unE, cnt, boundE, newsE, freshE, opE, rmH, blkQ, frz_us, Nat.reduceEqDiff, Nat.reduceLT, Nat.reduceAdd, ↓reduceIte, reduceCtorEq, Nat.reduceLeDiff, cS, rfm_sl, rfm_nil] | (refine callC_pure (c) rfl ?_) | exact W_ret (RetP_1 (.imm rfl)) | exact W_ret (RetP_c rfl rfl rfl (.imm rfl)))
                repeat (first | (refine W_seq ?_) | (refine W_reg ?_) | (refine W_regd ?_) | (refine W_block ?_) | (refine And.intro (by omega) ?_) | simp (maxSteps := 1000000) (disch := omega) only [cA, cB, lk, lkH, Dst.onT, Dst.onX, Dst.slot, setF, setH, mapF, mapH, initF, binE, unE, cnt, boundE, newsE, freshE, opE, rmH, blkQ, frz_us, Nat.reduceEqDiff, Nat.reduceLT, Nat.reduceAdd, ↓reduceIte, reduceCtorEq, Nat.reduceLeDiff, g0, g1])
                refine W_cond rfl (fun _ => ?_) (fun h => by cases h)
                repeat (first | (refine W_seq ?_) | (refine W_reg ?_) | (refine W_regd ?_) | (refine W_block ?_) | (refine And.intro (by omega) ?_) | simp (maxSteps := 1000000) (disch := omega) only [cA, cB, lk, lkH, Dst.onT, Dst.onX, Dst.slot, setF, setH, mapF, mapH, initF, binE, unE, cnt, boundE, newsE, freshE, opE, rmH, blkQ, frz_us, Nat.reduceEqDiff, Nat.reduceLT, Nat.reduceAdd, ↓reduceIte, reduceCtorEq, Nat.reduceLeDiff, decide_true] | (refine callC_pure (aw) rfl ?_) | exact W_ret (RetP_1 (.imm rfl)) | exact W_ret (RetP_c rfl rfl rfl (.imm rfl)))
              · have g1 : decide ((32 : Int) < (j : Int)) = false := decide_eq_false (by omega)
                rw [badE_ok z0 z1] at c
                repeat (first | (refine W_seq ?_) | (refine W_reg ?_) | (refine W_regd ?_) | (refine W_block ?_) | (refine And.intro (by omega) ?_) | simp (maxSteps := 1000000) (disch := omega) only [cA, cB, lk, lkH, Dst.onT, Dst.onX, Dst.slot, setF, setH, mapF, mapH, initF, binE, unE, cnt, boundE, newsE, freshE, opE, rmH, blkQ, frz_us, Nat.reduceEqDiff, Nat.reduceLT, Nat.reduceAdd, ↓reduceIte, reduceCtorEq, Nat.reduceLeDiff, cS, rfm_sl, rfm_nil] | (refine callC_pure (c) rfl ?_) | exact W_ret (RetP_1 (.imm rfl)) | exact W_ret (RetP_c rfl rfl rfl (.imm rfl)))
                repeat (first | (refine W_seq ?_) | (refine W_reg ?_) | (refine W_regd ?_) | (refine W_block ?_) | (refine And.intro (by omega) ?_) | simp (maxSteps := 1000000) (disch := omega) only [cA, cB, lk, lkH, Dst.onT, Dst.onX, Dst.slot, setF, setH, mapF, mapH, initF, binE, unE, cnt, boundE, newsE, freshE, opE, rmH, blkQ, frz_us, Nat.reduceEqDiff, Nat.reduceLT, Nat.reduceAdd, ↓reduceIte, reduceCtorEq, Nat.reduceLeDiff, g0, g1])
                refine W_cond rfl (fun h => by cases h) (fun _ => W_skip ?_)
                repeat (first | (refine W_seq ?_) | (refine W_reg ?_) | (refine W_regd ?_) | (refine W_block ?_) | (refine And.intro (by omega) ?_) | simp (maxSteps := 1000000) (disch := omega) only [cA, cB, lk, lkH, Dst.onT, Dst.onX, Dst.slot, setF, setH, mapF, mapH, initF, binE, unE, cnt, boundE, newsE, freshE, opE, rmH, blkQ, frz_us, Nat.reduceEqDiff, Nat.reduceLT, Nat.reduceAdd, ↓reduceIte, reduceCtorEq, Nat.reduceLeDiff, decide_true] | (refine callC_pure (aw) rfl ?_) | exact W_ret (RetP_1 (.imm rfl)) | exact W_ret (RetP_c rfl rfl rfl (.imm rfl)))
end Go.Proofs.Ytammbggabhnfdaa
namespace Go.Proofs.Ytammbggabhnfdaa
open Go Go.Dat Go.Proofs Go.RowKit
theorem law_of {f : Nat} {ds : List DV} {vs : Array Value} {w : World} (hc : PCalls Try.prog f ds (.bool true)) (hT : Tab Try.prog w) (hs : vs.size = ds.length) (hv : ∀ (k : Nat) d v, ds[k]? = some d → vs[k]? = some v → VI w (fun _ => False) d v) :
    Calls Try.prog f vs w fun e w' => e = .returned (.bool true) ∧ Below w.heap.size w w' := by
  refine (hc (fun _ => False) w vs hT (fun b h => h.elim) hs hv).mono ?_
  rintro e w' ⟨v, rfl, hvi, hx⟩
  refine ⟨?_, hx.os, hx.tape, hx.output, hx.size, fun k hk => hx.block k hk id⟩
  cases hvi; rfl
end Go.Proofs.Ytammbggabhnfdaa
