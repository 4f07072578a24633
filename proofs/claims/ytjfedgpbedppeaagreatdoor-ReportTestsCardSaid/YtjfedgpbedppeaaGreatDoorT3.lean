/- Lemmas of the walk; no conditions beyond those that each states. -/
import Derived.Laws.RangeAny
import Derived.Lib.DecodeN
import Derived.WalkMore
import Derived.Shelf.RegionOpenPlain
import Derived.Laws.Runes
import Derived.Shelf.Strings.Runes
import Derived.Lib.Small
import Derived.Deep.LoopGhost
import Derived.Lib.IndexLaws
import Derived.Shelf.Small.Utf8
import Derived.OpenShut
import Derived.Below
import Derived.HandedShaped
import Derived.Handed
import Derived.Test.YtjfedgpbedppeaaGreatDoorD2
import Derived.Test.YtjfedgpbedppeaaGreatDoorT2
import Derived.Test.YtjfedgpbedppeaaGreatDoorN1
import Derived.Test.YtjfedgpbedppeaaGreatDoorC1
import Derived.Test.YtjfedgpbedppeaaGreatDoorD3
set_option linter.unusedSimpArgs false
set_option linter.unusedVariables false
set_option linter.unnecessarySimpa false
set_option maxHeartbeats 4000000
namespace Go.Proofs.YtjfedgpbedppeaaGreatDoor
open Go Go.Dat Go.Proofs Go.RowKit Go.Shelf Nat32
abbrev XR := Bool × List Nat × List Nat
def xc (x : XR) : List DV := [.bool x.1, .sl 1 (us x.2.1), .sl 1 (us x.2.2)]
def xcs (xs : List XR) : List DV := xs.flatMap xc
def xv (x : XR) : Rat := rv x.1 x.2.1 x.2.2
def okx (m : Nat) (x : XR) : Prop := lim x.2.1 ∧ lim x.2.2 ∧ x.2.1.length ≤ m ∧ x.2.2.length ≤ m
theorem xcs_len : ∀ xs : List XR, (xcs xs).length = 3 * xs.length
 | [] => rfl
 | x :: xs => by
  have := xcs_len xs
  unfold xcs at this ⊢
  rw [List.flatMap_cons, List.length_append, this]
  simp [xc]; omega
theorem xcs_get : ∀ (xs : List XR) (k : Nat), k < xs.length → ((xcs xs).drop (3 * k)).take 3 = xc (xs.getD k (false, [], []))
 | x :: xs, 0, _ => by
  unfold xcs
  rw [List.flatMap_cons]
  rfl
 | x :: xs, k + 1, h => by
  have := xcs_get xs k (by simpa using h)
  unfold xcs at this ⊢
  rw [List.flatMap_cons, show 3 * (k + 1) = (xc x).length + 3 * k by simp [xc]; omega, List.drop_append, List.drop_eq_nil_of_le (by omega)]
  simp only [List.nil_append, Nat.add_sub_cancel_left, List.getD_cons_succ]
  exact this
theorem xcs_one (xs : List XR) : ∀ d ∈ xcs xs, d.one = true := by
 intro d hd
 unfold xcs at hd
 obtain ⟨x, _, h⟩ := List.mem_flatMap.1 hd
 simp only [xc, List.mem_cons, List.not_mem_nil, or_false] at h
 rcases h with rfl | rfl | rfl <;> rfl
theorem xcs_rf (xs : List XR) : ∀ d ∈ xcs xs, d.rf = true := by
 intro d hd
 unfold xcs at hd
 obtain ⟨x, _, h⟩ := List.mem_flatMap.1 hd
 simp only [xc, List.mem_cons, List.not_mem_nil, or_false] at h
 rcases h with rfl | rfl | rfl <;> rfl
theorem xcs_cells (xs : List XR) : (DV.agg (xcs xs)).cells? = some (xcs xs) := by
 simp only [DV.cells?]
 rw [if_pos (List.all_eq_true.2 (xcs_one xs))]
theorem xcs_has (o : Nat) (xs : List XR) : DV.hasL o (xcs xs) = false := by
 rw [DV.hasL_any, List.any_eq_false]
 exact fun d hd => by rw [has_of_rf o d (xcs_rf xs d hd)]; exact Bool.false_ne_true
theorem xc_has (o : Nat) (x : XR) : DV.hasL o (xc x) = false := by
 have := xcs_has o [x]
 unfold xcs at this
 rwa [List.flatMap_cons, List.flatMap_nil, List.append_nil] at this
def pts (c : List DV) : List DV := [.el c 0, .el c 3, .el c 6, .el c 9, .el c 12, .el c 15]
theorem pts_get (c : List DV) {k : Nat} (h : k < 6) : (pts c).getD k .undef = .el c (3 * k) := by
 match k, h with
 | 0, _ => rfl
 | 1, _ => rfl
 | 2, _ => rfl
 | 3, _ => rfl
 | 4, _ => rfl
 | 5, _ => rfl
theorem pts_len (c : List DV) : (pts c).length = 6 := rfl
theorem tw_get {k : Nat} (h : k < 6) : (strL tw).getD k .undef = .str (tw.getD k []) := strL_getD h
theorem twl : (strL tw).length = 6 := rfl
theorem rpWords_calls : PCalls Tryz.prog 38 [] (.sl 1 (strL tw)) := by
 refine PCalls_of isrpWords (by simp [fnrpWords]) ?_
 unfold coderpWords
 refine zS (zA @cS (zA @rfm_nil @rfm_str)) ?_
 exact W_ret (RetP_1 (.imm rfl))
theorem reTitles_calls : PCalls Tryz.prog 41 [] (.sl 1 (strL tw)) := by
 refine PCalls_of isreTitles (by simp [fnreTitles]) ?_
 unfold codereTitles
 refine zS (zA @cS (zA @rfm_nil @rfm_str)) ?_
 exact W_ret (RetP_1 (.imm rfl))
theorem rpNumbers_calls (c : List DV) : PCalls Tryz.prog 36 [.el c 0] (.sl 1 (pts c)) := by
 refine PCalls_of isrpNumbers (by simp [fnrpNumbers]) ?_
 unfold coderpNumbers
 refine zS (zA @cS (zA @one_el (zA @cells_el @laid_el))) ?_
 refine W_freeze 21 (cells := pts c) rfl rfl ?_
 refine zR ?_
 exact W_ret (RetP_1 (.imm rfl))
theorem xv_ok {xs : List XR} {m : Nat} (hx : ∀ x ∈ xs, okx m x) {k : Nat} (hk : k < xs.length) : okx m (xs.getD k (false, [], [])) := by
 rw [List.getD_eq_getElem?_getD, List.getElem?_eq_getElem hk]; exact hx _ (List.getElem_mem hk)
theorem xv_get (xs : List XR) (k : Nat) (hk : k < xs.length) : (xs.map xv).getD k 0 = xv (xs.getD k (false, [], [])) := by
 rw [List.getD_eq_getElem?_getD, List.getD_eq_getElem?_getD, List.getElem?_map, List.getElem?_eq_getElem hk]; rfl
theorem xv_fmt {x : XR} (h : okx 800 x) : (fmtQ (xv x)).length ≤ 16004 := fmtQ_len (m := 800) (RB_rv h.1 h.2.1 h.2.2.1 h.2.2.2 (by decide))
theorem tw_le {n : Nat} (h : n < 6) : (tw.getD n []).length ≤ 20 := by
 match n, h with
 | 0, _ => decide
 | 1, _ => decide
 | 2, _ => decide
 | 3, _ => decide
 | 4, _ => decide
 | 5, _ => decide
theorem tpre_bd {xs : List XR} (hx : ∀ x ∈ xs, okx 800 x) (hl : xs.length = 6) : ∀ n, n ≤ 6 → (tpre (xs.map xv) n).length ≤ n * 16100
 | 0, _ => Nat.zero_le _
 | n + 1, h => by
  have h1 := tpre_bd hx hl n (by omega)
  have h2 := xv_fmt (xv_ok hx (k := n) (by omega))
  simp only [tpre, List.length_append, tl, List.length_cons, List.length_nil]
  rw [xv_get xs n (by omega)]
  have h3 := tw_le (n := n) (by omega)
  omega
def TH (c0 : DV) (l : Bs) : Hp := [(786512, bys l), (2388483, [c0, .osl 1 786512 0 l.length])]
set_option maxRecDepth 10000 in
theorem rpTest_calls (xs : List XR) (hl : xs.length = 6) (hx : ∀ x ∈ xs, okx 800 x) : PCalls Tryz.prog 12 [.agg (xcs xs)] (.str (tst (xs.map xv))) := by
 have hc := xcs_cells xs
 have hne : xcs xs ≠ [] := fun e => by have := xcs_len xs; rw [e, hl] at this; cases this
 have hxl := xcs_len xs
 have hrf : ∀ d ∈ xcs xs, d.rf = true := xcs_rf xs
 have cw := rpWords_calls
 have cnum := rpNumbers_calls (xcs xs)
 have pl := pts_len (xcs xs)
 refine PCalls_of isrpTest (by simp [fnrpTest]) ?_
 unfold coderpTest
 refine W_seq ?_
 refine W_reg ?_
 refine zE hc ?_
 refine And.intro ⟨hne, hrf⟩ ?_
 refine W_seq ?_
 refine W_reg ?_
 refine zD ?_
 refine W_ownc 2388483 1 1 786512 (cells := [.nilp, .nils]) rfl rfl rfl ?_
 refine zD ?_
 repeat (first | refine zQ pl ?_ | refine cP cnum ?_ | exact zT)
 refine W_loop (σ := Nat × DV) (fun s => [(0, .agg (xcs xs)), (1, .el (xcs xs) 0), (2, .str []), (3, .ptr 2388483 0), (6, .sl 1 (pts (xcs xs))), (7, .int .i64 6), (8, .int .i64 s.1)])
  (fun s => TH s.2 (tpre (xs.map xv) s.1)) (fun s => s.1 ≤ 6 ∧ (s.2 = .nilp ∨ s.2 = .ptr 2388483 0)) (fun s => 6 - s.1) (0, .nilp) ⟨Nat.zero_le _, .inl rfl⟩ ?_ rfl ?_
 ·simp [subF, lk]
 ·rintro ⟨i, c0⟩ ⟨hi, hc0⟩
  try simp only at hi hc0 ⊢
  unfold TH
  have hbd := tpre_bd hx hl i hi
  by_cases hlt : i < 6
  ·have d1 : decide ((i : Int) < 6) = true := decide_eq_true (by omega)
   have ei : (i : Int) + 1 = ((i + 1 : Nat) : Int) := by omega
   have hgp := pts_get (xcs xs) hlt
   have hgw := tw_get hlt
   have hgx := xcs_get xs i (by omega)
   have hok := xv_ok hx (k := i) (by omega)
   have hb2 := tpre_bd hx hl (i + 1) (by omega)
   have hts : tpre (xs.map xv) (i + 1) = tpre (xs.map xv) i ++ ((tw.getD i [] ++ 32 :: fmtQ (xv (xs.getD i (false, [], [])))) ++ [10]) := by
    rw [← xv_get xs i (by omega)]; rfl
   have hwl := tw_le hlt
   have hql := xv_fmt hok
   have cf := qFormat_calls (xs.getD i (false, [], [])).1 (xs.getD i (false, [], [])).2.1 (xs.getD i (false, [], [])).2.2 hok.2.2.1 hok.2.2.2 hok.1 hok.2.1
   generalize xs.getD i (false, [], []) = x at *
   generalize tw.getD i [] = w at *
   obtain ⟨S', hS'⟩ : ∃ S', tpre (xs.map xv) (i + 1) = S' := ⟨_, rfl⟩
   rw [hS'] at hts hb2
   generalize tpre (xs.map xv) i = S at *
   have hts' := hS'.trans hts
   have hfit : 3 * i + 3 ≤ (xcs xs).length := by omega
   have hk3 : ((i : Int)).toNat = i := Int.toNat_natCast i
   refine zS d1 ?_
   refine wTs ?_
   refine zS (zA hgp (zA pl hk3)) ?_
   refine cP cw ?_
   refine zS (zA hgw (zA hk3 (zA @twl (zA hgx hgp)))) ?_
   refine cP cf ?_
   rw [show rv x.1 x.2.1 x.2.2 = xv x from rfl]
   generalize fmtQ (xv x) = q at *
   have l0 : (w ++ [32]).length ≤ 21 := by simp; omega
   have l1 : (w ++ [32] ++ q).length ≤ 16025 := by simp; omega
   refine zR ?_
   have ht1 : w ++ [32] ++ q ++ [10] = w ++ 32 :: q ++ [10] := by simp
   have bs : BCalls Tryz.prog 2388483 786512 37 [.str (w ++ [32] ++ q ++ [10])] S (.tup [.int .i64 (w ++ [32] ++ q ++ [10]).length, .nili]) (S ++ (w ++ [32] ++ q ++ [10])) := bws_calls 3 S _ (by simp; omega)
   refine callC_bld 2388483 786512 bs rfl rfl rfl hc0 (by decide) (by decide) (fun d h => by simp at h; subst h; rfl) rfl (by simp [DV.has, xcs_has, xc_has]) (by simp [DV.has, xcs_has, xc_has]) (fun p c h1 h2 h => by simp [lkH, Ne.symm h1, Ne.symm h2] at h) ?_
   refine zD ?_
   refine zS ei ?_
   refine ⟨(i + 1, .ptr 2388483 0), ⟨by omega, .inr rfl⟩, by simp; omega, by simp [subF, lk], ?_⟩
   simp only [hts', ht1]
  ·have d1 : decide ((i : Int) < 6) = false := decide_eq_false (by omega)
   obtain rfl : i = 6 := by omega
   refine zS d1 ?_
   refine wF ?_
   refine W_exit ?_
   refine zR ?_
   have cs : MRel Tryz.prog 40 [.ptr 2388483 0] (BH 2388483 786512 c0 (tst (xs.map xv))) fun r H' => r = .str (tst (xs.map xv)) ∧ H' = [(2388483, [.undef, .undef])] :=
    Str_calls Tryz.lays169 Tryz.Builder_Extra_169 2388483 786512 (by decide) (by decide) rfl (tst (xs.map xv)) (by unfold tst; omega) c0
   unfold tst at cs ⊢
   refine callC_bstr 2388483 786512 cs rfl rfl rfl hc0 (by decide) (by decide) rfl (by simp [DV.has, xcs_has, xc_has]) (fun p c h1 h2 h => by simp [lkH, Ne.symm h1, Ne.symm h2] at h) ?_
   refine zD ?_
   refine zR ?_
   exact W_ret (RetP_1 (.imm rfl))
end Go.Proofs.YtjfedgpbedppeaaGreatDoor
namespace Go.Proofs.YtjfedgpbedppeaaGreatDoor
open Go Go.Dat Go.Proofs Go.RowKit Go.Shelf Nat32
theorem six_xs {α : Type} {xs : List α} (h : xs.length = 6) : ∃ a b c d e f, xs = [a, b, c, d, e, f] := by
 match xs, h with
 | [a, b, c, d, e, f], _ => exact ⟨a, b, c, d, e, f, rfl⟩
theorem xc_cells (x : XR) : (DV.agg (xc x)).cells? = some (xc x) := by
 have := xcs_cells [x]
 unfold xcs at this
 rwa [List.flatMap_cons, List.flatMap_nil, List.append_nil] at this
theorem frz_agg5 (o : Nat) (cells : List DV) (xs : List XR) : frz o cells (.agg (xcs xs)) = .agg (xcs xs) := by
 simp [frz, purge, DV.has, xcs_has]
def z18 : List DV := [.bool false, .nils, .nils, .bool false, .nils, .nils, .bool false, .nils, .nils, .bool false, .nils, .nils, .bool false, .nils, .nils, .bool false, .nils, .nils]
theorem laid18 (a b c d e f : XR) : laid z18 [(0, 3, .agg (xc a)), (3, 3, .agg (xc b)), (6, 3, .agg (xc c)), (9, 3, .agg (xc d)), (12, 3, .agg (xc e)), (15, 3, .agg (xc f))] = some (xcs [a, b, c, d, e, f]) := by
 simp [laid, z18, xc, xcs, DV.cells?, DV.one, spl]
set_option maxRecDepth 10000 in
theorem reTest_calls (xs : List XR) (hl : xs.length = 6) (hx : ∀ x ∈ xs, okx 800 x) : PCalls Tryz.prog 13 [.agg (xcs xs)] (.str (tst (xs.map xv))) := by
 have hc := xcs_cells xs
 have hne : xcs xs ≠ [] := fun e => by have := xcs_len xs; rw [e, hl] at this; cases this
 have hxl := xcs_len xs
 have hrf : ∀ d ∈ xcs xs, d.rf = true := xcs_rf xs
 have ct := reTitles_calls
 refine PCalls_of isreTest (by simp [fnreTest]) ?_
 unfold codereTest
 refine W_seq ?_
 refine W_reg ?_
 refine zE hc ?_
 have hx18 : (xcs xs).length = 18 := by omega
 have hla : laid [.bool false, .nils, .nils, .bool false, .nils, .nils, .bool false, .nils, .nils, .bool false, .nils, .nils, .bool false, .nils, .nils, .bool false, .nils, .nils] [(0, 3, .agg (xc (xs.getD 0 (false, [], [])))), (3, 3, .agg (xc (xs.getD 1 (false, [], [])))), (6, 3, .agg (xc (xs.getD 2 (false, [], [])))), (9, 3, .agg (xc (xs.getD 3 (false, [], [])))), (12, 3, .agg (xc (xs.getD 4 (false, [], [])))), (15, 3, .agg (xc (xs.getD 5 (false, [], []))))] = some (xcs xs) := by
  obtain ⟨a, b, c, d, e, f, rfl⟩ := six_xs hl
  exact laid18 a b c d e f
 have g0 := xcs_get xs 0 (by omega)
 have g1 := xcs_get xs 1 (by omega)
 have g2 := xcs_get xs 2 (by omega)
 have g3 := xcs_get xs 3 (by omega)
 have g4 := xcs_get xs 4 (by omega)
 have g5 := xcs_get xs 5 (by omega)
 simp only [Nat.reduceMul] at g0 g1 g2 g3 g4 g5
 refine zS (zA g0 (zA g1 (zA g2 (zA g3 (zA g4 (zA g5 (zA hx18 hla))))))) ?_
 refine W_loop (σ := Nat) (fun s => [(0, .agg (xcs xs)), (1, .ptr 1 0), (2, .str []), (3, .str (tpre (xs.map xv) s)), (18, .sl 3 (xcs xs)), (19, .int .i64 6), (20, .int .i64 s)])
  (fun _ => [(1, xcs xs)]) (fun s => s ≤ 6) (fun s => 6 - s) 0 (Nat.zero_le _) ?_ rfl ?_
 ·simp [subF, lk, tpre]
 ·intro i hi
  try simp only at hi ⊢
  have hbd := tpre_bd hx hl i hi
  by_cases hlt : i < 6
  ·have d1 : decide ((i : Int) < 6) = true := decide_eq_true (by omega)
   have ei : (i : Int) + 1 = ((i + 1 : Nat) : Int) := by omega
   have hgw := tw_get hlt
   have hgx := xcs_get xs i (by omega)
   have hok := xv_ok hx (k := i) (by omega)
   have hwl := tw_le hlt
   have hql := xv_fmt hok
   have hts : tpre (xs.map xv) (i + 1) = tpre (xs.map xv) i ++ ((tw.getD i [] ++ 32 :: fmtQ (xv (xs.getD i (false, [], [])))) ++ [10]) := by
    rw [← xv_get xs i (by omega)]; rfl
   have cf := pFormat_calls (xs.getD i (false, [], [])).1 (xs.getD i (false, [], [])).2.1 (xs.getD i (false, [], [])).2.2 hok.2.2.1 hok.2.2.2 hok.1 hok.2.1
   generalize xs.getD i (false, [], []) = x at *
   generalize tw.getD i [] = w at *
   generalize tpre (xs.map xv) i = S at *
   have hfit : i * 3 + 3 ≤ (xcs xs).length := by omega
   rw [Nat.mul_comm] at hgx
   have hxc : (DV.agg (xc x)).cells? = some (xc x) := xc_cells x
   have hx3 : (xc x).length = 3 := rfl
   have h33 : (xc x).take 3 = xc x := rfl
   have hk3 : ((i : Int)).toNat = i := Int.toNat_natCast i
   rw [show rv x.1 x.2.1 x.2.2 = xv x from rfl] at cf
   generalize hq0 : fmtQ (xv x) = q at *
   have l0 : (w ++ [32]).length ≤ 21 := by simp; omega
   have l1 : (w ++ [32] ++ q).length ≤ 16025 := by simp; omega
   have l2 : (w ++ [32] ++ q ++ [10]).length ≤ 16026 := by simp; omega
   have ht1 : w ++ [32] ++ q ++ [10] = w ++ 32 :: q ++ [10] := by simp
   refine zS d1 ?_
   refine wTs ?_
   refine zS (zA hgw (zA hk3 (zA hgx (zA @twl (zA hxc (zA hx3 (zA h33 @cS))))))) ?_
   refine cP ct ?_
   refine zS (zA hgw (zA hk3 (zA hgx (zA @twl (zA hxc (zA hx3 (zA h33 @cS))))))) ?_
   refine cP cf ?_
   refine zD ?_
   refine And.intro (by omega) (And.intro (by omega) (And.intro (by omega) ?_))
   refine W_freeze 5 (cells := xc x) rfl rfl ?_
   refine zS ei ?_
   refine ⟨i + 1, by omega, by omega, by simp [subF, lk, hts, ht1, frz_ptr_ne, frz_agg5], by rw [map_frz 5 _ hrf]⟩
  ·have d1 : decide ((i : Int) < 6) = false := decide_eq_false (by omega)
   obtain rfl : i = 6 := by omega
   refine zS d1 ?_
   refine wF ?_
   refine W_exit ?_
   refine zR ?_
   exact W_ret (RetP_1 (.imm rfl))
end Go.Proofs.YtjfedgpbedppeaaGreatDoor
namespace Go.Proofs.YtjfedgpbedppeaaGreatDoor
open Go Go.Dat Go.Proofs Go.RowKit Go.Shelf Nat32
def offs6 : List Nat := [0, 3, 6, 9, 12, 15]
theorem rpNumbers_own {cells : List DV} (hl : cells.length = 18) (hrf : ∀ d ∈ cells, d.rf = true) : MRel Tryz.prog 36 [.ptr 1048576 0] [(1048576, cells)] fun r H' => r = .osl 1 21 0 offs6.length ∧ H' = [(1048576, cells), (21, pp 1048576 offs6)] := by
 refine MRel_of isrpNumbers (by simp [fnrpNumbers]) ?_
 unfold coderpNumbers
 refine zS (zA @cS (zA @one_ptr (zA @cells_ptr @laid_ptr))) ?_
 exact W_ret (RetPP (by decide) rfl rfl rfl hrf)
theorem cutPrefix_calls (s p : Bs) : PCalls Tryz.prog 45 [.str s, .str p] (.tup [.str (Lib.trimPrefix s p), .bool (Lib.hasPrefix s p)]) :=
 PCalls_str2 (fun _ _ => .tup rfl fun k d v hd hv => (match k, hd, hv with
  | 0, hd, hv => by cases hd; cases hv; exact .str _
  | 1, hd, hv => by cases hd; cases hv; exact .bool _
  | k + 2, hd, hv => by cases hd)) fun w => (Tryz.strings_CutPrefix ⟨s.toArray⟩ ⟨p.toArray⟩ w).mono fun e w' h => ⟨h.1, by rw [h.2]; exact Below.refl _ _⟩
theorem pp6 {k : Nat} (h : k < 6) : (pp 6 offs6).getD k .undef = .ptr 6 (3 * k) := by
 match k, h with
 | 0, _ => rfl
 | 1, _ => rfl
 | 2, _ => rfl
 | 3, _ => rfl
 | 4, _ => rfl
 | 5, _ => rfl
def xq (r : Rat) : XR := (decide (r.num < 0), limbs r.num.natAbs, dn r.den)
theorem xv_xq (r : Rat) : xv (xq r) = r := rv_Q r
theorem xc_xq (r : Rat) : .agg (xc (xq r)) = Q r := rfl
theorem cells18 {rs : List Rat} (h : rs.length ≤ 6) : (xcs (rs.map xq) ++ z18.drop (3 * rs.length)).length = 18 := by
 rw [List.length_append, xcs_len, List.length_map, List.length_drop]
 show 3 * rs.length + (18 - 3 * rs.length) = 18
 omega
theorem cells_st {rs : List Rat} (h : rs.length < 6) (x : Rat) : (xcs (rs.map xq) ++ z18.drop (3 * rs.length)).take (3 * rs.length) ++ xc (xq x) ++ (xcs (rs.map xq) ++ z18.drop (3 * rs.length)).drop (3 * rs.length + 3) = xcs ((rs ++ [x]).map xq) ++ z18.drop (3 * (rs.length + 1)) := by
 have hl : (xcs (rs.map xq)).length = 3 * rs.length := by rw [xcs_len, List.length_map]
 rw [← hl, List.take_left, List.drop_append, List.drop_eq_nil_of_le (by omega)]
 have : xcs ((rs ++ [x]).map xq) = xcs (rs.map xq) ++ xc (xq x) := by unfold xcs; simp
 rw [this, List.nil_append, List.drop_drop, hl]
 congr 2
 omega
theorem xcs_agg (xs : List XR) : (DV.agg (xcs xs)).rf = true := by rw [DV.rf_agg]; exact List.all_eq_true.2 (xcs_rf xs)
theorem z18_rf : ∀ d ∈ z18, d.rf = true := by decide
theorem cells_rf (rs : List Rat) (n : Nat) : ∀ d ∈ xcs (rs.map xq) ++ z18.drop n, d.rf = true := by
 intro d hd
 rcases List.mem_append.1 hd with h | h
 ·exact xcs_rf _ d h
 ·exact z18_rf d (List.mem_of_mem_drop h)
theorem frz_pp (cs : List DV) : (pp 6 offs6).map (frz 11 cs) = pp 6 offs6 := by
 simp [pp, offs6, frz_ptr_ne]
theorem xvs_xq (rs : List Rat) : (rs.map xq).map xv = rs := by
 rw [List.map_map]
 conv => rhs; rw [← List.map_id rs]
 exact List.map_congr_left fun r _ => xv_xq r
theorem okx_xq {r : Rat} {m : Nat} (h : RB r m) (hm : 1 ≤ m) : okx m (xq r) := ⟨lim_limbs _, lim_dn _, h.1, RB_dn h⟩
noncomputable def rdR (T : Bs) : DV := match rdT T with
 | some rs => .tup [.agg (xcs (rs.map xq)), .int .i64 0]
 | none => .tup [.agg z18, .int .i64 3]
theorem rdR_none {T : Bs} (h : rdT T = none) : rdR T = .tup [.agg z18, .int .i64 3] := by unfold rdR; rw [h]
theorem rdR_some {T : Bs} {rs : List Rat} (h : rdT T = some rs) : rdR T = .tup [.agg (xcs (rs.map xq)), .int .i64 0] := by unfold rdR; rw [h]
set_option maxRecDepth 10000 in
theorem rpReadTest_calls (T : Bs) (hT : T.length ≤ 450) : PCalls Tryz.prog 15 [.str T] (rdR T) := by
 have cl := rpLines_calls T (by omega)
 have cw := rpWords_calls
 have hwl := twl
 have hz : z18.length = 18 := rfl
 have hz2 : z18.drop 18 = [] := rfl
 refine PCalls_of isrpReadTest (by simp [fnrpReadTest]) ?_
 unfold linesD at cl
 unfold coderpReadTest
 cases hs : Lib.hasSuffix T [10]
 ·rw [hs] at cl
  rw [rdR_none (rd_bad0 (.inl hs))]
  rw [if_neg (by decide)] at cl
  repeat (first | refine zP ?_ | refine cP cl ?_ | exact zT)
  refine wT ?_
  refine zS (zA @cS (zA hz hz2)) ?_
  exact W_ret (RetP_ct rfl rfl rfl (.imm rfl) (.imm rfl))
 ·rw [hs, if_pos rfl] at cl
  change PCalls _ _ _ (.tup [.sl 1 (strL (lnT T)), .bool true]) at cl
  have hll := strL_len (lnT T)
  by_cases h6 : (lnT T).length = 6
  ·have d6 : decide (¬ (((lnT T).length : Nat) : Int) = ((6 : Nat) : Int)) = false := by rw [h6]; decide
   repeat (first | refine zQ (zA hll (zA hwl d6)) ?_ | refine cP cl ?_ | refine cP cw ?_ | exact zT)
   refine wFs ?_
   refine zR ?_
   refine callC_ptrs (cells := z18) 6 28 (rpNumbers_own rfl (by decide)) rfl (by decide) (by decide) (by decide) (by decide) (by decide) (by decide) rfl rfl (by decide) ?_
   refine zR ?_
   refine W_loop (σ := List Rat) (fun rs => [(0, .str T), (2, .ptr 2 0), (3, .int .i64 0), (4, .sl 1 (strL (lnT T))), (6, .ptr 6 0), (28, .osl 1 28 0 6), (29, .int .i64 6), (30, .int .i64 rs.length)])
    (fun rs => [(2, z18), (6, xcs (rs.map xq) ++ z18.drop (3 * rs.length)), (28, pp 6 offs6)]) (fun rs => rs.length ≤ 6 ∧ (∀ r ∈ rs, RB r 500) ∧ ∀ k, k < rs.length → parseQ (fld T k) = some (rs.getD k 0)) (fun rs => 6 - rs.length) [] ⟨Nat.zero_le _, by simp, by simp⟩ ?_ rfl ?_
   ·simp [subF, lk, offs6]
   ·rintro rs ⟨hi, hRB, hps⟩
    try simp only at hi hRB hps ⊢
    by_cases hlt : rs.length < 6
    ·have d1 : decide ((rs.length : Int) < 6) = true := decide_eq_true (by omega)
     have ei : (rs.length : Int) + 1 = ((rs.length + 1 : Nat) : Int) := by omega
     have hgl := strL_getD (r := lnT T) (j := rs.length) (by omega)
     have hgw := tw_get hlt
     have hgp := pp6 hlt
     have ppl : (pp 6 offs6).length = 6 := rfl
     have hlen := lnT_le T rs.length
     have hfl := fld_le T rs.length
     have cc := cutPrefix_calls ((lnT T).getD rs.length []) (tw.getD rs.length [] ++ [32])
     change PCalls _ _ _ (.tup [.str (fld T rs.length), .bool (pfx T rs.length)]) at cc
     have cq := qParse_all (fld T rs.length) (by omega)
     have hwb := tw_le hlt
     have hk3 : ((rs.length : Int)).toNat = rs.length := Int.toNat_natCast _
     have hcl := cells18 (rs := rs) (by omega)
     have hbad := rd_bad (T := T) (by omega) hlt
     generalize hX : fld T rs.length = X at *
     generalize hP : pfx T rs.length = P at *
     generalize (lnT T).getD rs.length [] = l at *
     generalize tw.getD rs.length [] = w at *
     refine zS d1 ?_
     refine wTs ?_
     refine zS (zA hgl (zA hgw (zA hgp (zA hk3 (zA hll (zA h6 (zA hwl ppl))))))) ?_
     refine cP cw ?_
     refine zS (zA hgl (zA hgw (zA hgp (zA hk3 (zA hll (zA h6 hwl)))))) ?_
     refine cP cc ?_
     refine zR ?_
     refine cP cq ?_
     cases hq : parseQ X with
     | none =>
      rw [rdR_none (hbad (.inr hq))]
      rw [show resQ none = .tup [.agg (xc (xq 0)), .bool false] from rfl]
      have hxc := xc_cells (xq 0)
      have hx3 : (xc (xq 0)).length = 3 := rfl
      have h33 : (xc (xq 0)).take 3 = xc (xq 0) := rfl
      cases P
      ·refine zS (zA hxc (zA hx3 (zA h33 @cS))) ?_
       refine wT ?_
       refine zS (zA @cS (zA hz hz2)) ?_
       exact W_ret (RetP_ct rfl rfl rfl (.imm rfl) (.imm rfl))
      ·refine zS (zA hxc (zA hx3 (zA h33 @cS))) ?_
       refine wT ?_
       refine zS (zA @cS (zA hz hz2)) ?_
       exact W_ret (RetP_ct rfl rfl rfl (.imm rfl) (.imm rfl))
     | some x =>
      rw [show resQ (some x) = .tup [.agg (xc (xq x)), .bool true] from rfl]
      have hxc := xc_cells (xq x)
      have hx3 : (xc (xq x)).length = 3 := rfl
      have h33 : (xc (xq x)).take 3 = xc (xq x) := rfl
      cases hPP : P
      ·rw [rdR_none (hbad (.inl hPP))]
       refine zS (zA hxc (zA hx3 (zA h33 @cS))) ?_
       refine wT ?_
       refine zS (zA @cS (zA hz hz2)) ?_
       exact W_ret (RetP_ct rfl rfl rfl (.imm rfl) (.imm rfl))
      ·have hst := cells_st hlt x
       have hRx := parseQ_RB5 (l := X) (by omega) hq
       refine zS (zA hxc (zA hx3 (zA h33 (zA @cS hgp)))) ?_
       refine wFs ?_
       refine W_reg ?_
       refine zE (zA hxc (zA hx3 (zA h33 (zA @cS (zA hgp hcl))))) ?_
       refine And.intro (by omega) ?_
       refine W_freeze 11 (cells := xc (xq x)) rfl rfl ?_
       rw [hst]
       refine zS ei ?_
       have hlr : (rs ++ [x]).length = rs.length + 1 := by simp
       refine ⟨rs ++ [x], ⟨by omega, fun r hr => ?_, fun k hk => ?_⟩, by omega, ?_, ?_⟩
       ·rcases List.mem_append.1 hr with h | h
        ·exact hRB r h
        ·rw [List.mem_singleton.1 h]; exact hRx
       ·by_cases e : k < rs.length
        ·rw [hps k e, List.getD_eq_getElem?_getD, List.getD_eq_getElem?_getD, List.getElem?_append_left e]
        ·obtain rfl : k = rs.length := by omega
         rw [hX, hq, List.getD_eq_getElem?_getD, List.getElem?_append_right (Nat.le_refl _), Nat.sub_self]; rfl
       ·simp [subF, lk, hlr, frz_ptr_ne, frz_osl_ne]
       ·rw [hlr, map_frz 11 _ z18_rf, map_frz 11 _ (cells_rf _ _), frz_pp]
    ·have d1 : decide ((rs.length : Int) < 6) = false := decide_eq_false (by omega)
     have h66 : rs.length = 6 := by omega
     have hce : xcs (rs.map xq) ++ z18.drop (3 * rs.length) = xcs (rs.map xq) := by rw [h66]; exact List.append_nil _
     have hcl : (xcs (rs.map xq)).length = 18 := by rw [xcs_len, List.length_map, h66]
     have hok : ∀ x ∈ rs.map xq, okx 800 x := fun x hx => by
      obtain ⟨r, hr, rfl⟩ := List.mem_map.1 hx
      exact okx_xq ((hRB r hr).mono (by decide)) (by decide)
     have ct := rpTest_calls (rs.map xq) (by rw [List.length_map, h66]) hok
     rw [xvs_xq] at ct
     have hend := rd_end (T := T) (by omega) h66 fun k hk => hps k (by omega)
     have ht18 : (xcs (rs.map xq)).take 18 = xcs (rs.map xq) := List.take_of_length_le (by omega)
     have hd18 : (xcs (rs.map xq)).drop 18 = [] := List.drop_eq_nil_of_le (by omega)
     have hcc := xcs_cells (rs.map xq)
     rw [hce]
     refine zS d1 ?_
     refine wF ?_
     refine W_exit ?_
     refine zS (zA hcl (zA ht18 @List.drop_zero.{0})) ?_
     refine callC_pure ct (by rw [List.all_cons, xcs_agg]; rfl) ?_
     by_cases he : tst rs = T
     ·rw [if_pos he] at hend
      rw [rdR_some hend]
      have dn : decide (¬ tst rs = T) = false := decide_eq_false (fun h => h he)
      refine zS dn ?_
      refine wFs ?_
      refine zS (zA hcl (zA ht18 (zA hd18 (zA hcc (zA @cS (zA hz hz2)))))) ?_
      exact W_ret (RetP_ct rfl rfl hcl (.imm (xcs_agg _)) (.imm rfl))
     ·rw [if_neg he] at hend
      rw [rdR_none hend]
      have dn : decide (¬ tst rs = T) = true := decide_eq_true he
      refine zS dn ?_
      refine wT ?_
      refine zS (zA @cS (zA hz hz2)) ?_
      exact W_ret (RetP_ct rfl rfl rfl (.imm rfl) (.imm rfl))
  ·have d6 : decide (¬ (((lnT T).length : Nat) : Int) = ((6 : Nat) : Int)) = true := decide_eq_true (by omega)
   rw [rdR_none (rd_bad0 (.inr h6))]
   repeat (first | refine zQ (zA hll (zA hwl d6)) ?_ | refine cP cl ?_ | refine cP cw ?_ | exact zT)
   refine wT ?_
   refine zS (zA @cS (zA hz hz2)) ?_
   exact W_ret (RetP_ct rfl rfl rfl (.imm rfl) (.imm rfl))
end Go.Proofs.YtjfedgpbedppeaaGreatDoor
namespace Go.Proofs.YtjfedgpbedppeaaGreatDoor
open Go Go.Dat Go.Proofs Go.RowKit Go.Shelf Nat32
theorem getD_mem' (l : List Bs) {k : Nat} (h : k < l.length) : l.getD k [] ∈ l := by rw [List.getD_eq_getElem?_getD, List.getElem?_eq_getElem h]; exact List.getElem_mem h
theorem xcs_app (xs : List XR) (x : XR) : xcs xs ++ xc x = xcs (xs ++ [x]) := by unfold xcs; simp
theorem xc_one (x : XR) : ∀ d ∈ xc x, d.one = true := by
 intro d hd
 simp only [xc, List.mem_cons, List.not_mem_nil, or_false] at hd
 rcases hd with rfl | rfl | rfl <;> rfl
theorem laid3 (x : XR) : laid [.bool false, .nils, .nils] [(0, 3, .agg (xc x))] = some (xc x) := by
 simp [laid, xc, DV.cells?, DV.one, spl]
theorem xc_rf (x : XR) : ∀ d ∈ xc x, d.rf = true := by
 intro d hd
 simp only [xc, List.mem_cons, List.not_mem_nil, or_false] at hd
 rcases hd with rfl | rfl | rfl <;> rfl
set_option maxRecDepth 10000 in
theorem reReadTest_calls (T : Bs) (hT : T.length ≤ 450) : PCalls Tryz.prog 16 [.str T] (rdR T) := by
 have cw := reWords_calls T (by omega)
 have hbd := words_bd T
 have hbadk : ∀ k, k < (wordsL T).length → (((wordsL T).getD k []).length ≠ 2 ∨ parseQ (wfld T k) = none) → rdT T = none := fun k h1 h2 => rw_bad (by omega) h1 h2
 have hbad6 : (wordsL T).length ≠ 6 → rdT T = none := fun h => rw_bad6 h
 have hend0 : ∀ rs : List Rat, rs.length = 6 → (∀ k, k < 6 → parseQ (wfld T k) = some (rs.getD k 0)) → rdT T = if tst rs = T then some rs else none := fun rs h1 h2 => rw_end (by omega) h1 h2
 have hwf : ∀ k, wfld T k = ((wordsL T).getD k []).getD 1 [] := fun k => rfl
 generalize wordsL T = W at *
 have hz : z18.length = 18 := rfl
 have hz2 : z18.drop 18 = [] := rfl
 have hWl := recD_len W
 refine PCalls_of isreReadTest (by simp [fnreReadTest]) ?_
 unfold codereReadTest
 refine W_seq ?_
 refine W_reg ?_
 refine zD ?_
 refine W_seq ?_
 refine W_reg ?_
 refine zD ?_
 refine W_own 4 3 34 rfl (by simp [lkH]) ?_
 refine zR ?_
 refine cP cw ?_
 refine zS hWl ?_
 refine W_loop (σ := List Rat) (fun rs => [(0, .str T), (2, .ptr 2 0), (3, .int .i64 0), (4, .osl 3 34 0 rs.length), (11, .sl 1 (recD W)), (12, .int .i64 W.length), (13, .int .i64 rs.length)])
  (fun rs => [(2, z18), (34, xcs (rs.map xq))]) (fun rs => rs.length ≤ W.length ∧ (∀ r ∈ rs, RB r 500) ∧ ∀ k, k < rs.length → parseQ (wfld T k) = some (rs.getD k 0)) (fun rs => W.length - rs.length) [] ⟨Nat.zero_le _, by simp, by simp⟩ ?_ rfl ?_
 ·simp [subF, lk]
 ·rintro rs ⟨hi, hRB, hps⟩
  try simp only at hi hRB hps ⊢
  by_cases hlt : rs.length < W.length
  ·have d1 : decide ((rs.length : Int) < (W.length : Int)) = true := decide_eq_true (by omega)
   have ei : (rs.length : Int) + 1 = ((rs.length + 1 : Nat) : Int) := by omega
   have hgl := recD_getD (recs := W) (i := rs.length) hlt
   have hbad := hbadk rs.length hlt
   have hmem : W.getD rs.length [] ∈ W := by rw [List.getD_eq_getElem?_getD, List.getElem?_eq_getElem hlt]; exact List.getElem_mem hlt
   have hb := hbd.2 _ hmem
   have hsl := strL_len (W.getD rs.length [])
   have hwk := hwf rs.length
   have hk3 : ((rs.length : Int)).toNat = rs.length := Int.toNat_natCast _
   have hxl : (xcs (rs.map xq)).length = rs.length * 3 := by rw [xcs_len, List.length_map]; omega
   by_cases h2 : (W.getD rs.length []).length = 2
   ·have hgf := strL_getD (r := W.getD rs.length []) (j := 1) (by omega)
    have hfm := getD_mem' (W.getD rs.length []) (k := 1) (by omega)
    have hfl := hb.2 _ hfm
    rw [← hwk] at hgf hfl
    have cq := pParse_calls (wfld T rs.length) (by omega)
    generalize hX : wfld T rs.length = X at *
    generalize hl : W.getD rs.length [] = l at *
    have d2 : decide (¬ ((l.length : Nat) : Int) = 2) = false := decide_eq_false (by omega)
    refine zS d1 ?_
    refine wTs ?_
    refine zS (zA hgl (zA hk3 (zA hWl (zA hsl d2)))) ?_
    refine wFs ?_
    have e1 : Int.toNat 1 = 1 := rfl
    refine zS (zA hsl (zA h2 (zA hgf e1))) ?_
    refine cP cq ?_
    cases hq : parseQ X with
    | none =>
     rw [rdR_none (hbad (.inr hq))]
     rw [show resQ none = .tup [.agg (xc (xq 0)), .bool false] from rfl]
     have hxc := xc_cells (xq 0)
     have hx3 : (xc (xq 0)).length = 3 := rfl
     have h33 : (xc (xq 0)).take 3 = xc (xq 0) := rfl
     refine zS (zA hxc (zA hx3 (zA h33 @cS))) ?_
     refine wT ?_
     refine zS (zA @cS (zA hz hz2)) ?_
     exact W_ret (RetP_ct rfl rfl rfl (.imm rfl) (.imm rfl))
    | some x =>
     rw [show resQ (some x) = .tup [.agg (xc (xq x)), .bool true] from rfl]
     have hxc := xc_cells (xq x)
     have hx3 : (xc (xq x)).length = 3 := rfl
     have h33 : (xc (xq x)).take 3 = xc (xq x) := rfl
     have hRx := parseQ_RB5 (l := X) (by omega) hq
     refine zS (zA hxc (zA hx3 (zA h33 @cS))) ?_
     refine wFs ?_
     refine W_reg ?_
     have hla := laid3 (xq x)
     have hrf := xc_rf (xq x)
     refine zE (zA hxc (zA hx3 (zA h33 (zA hxl (zA hla @List.drop_zero.{0}))))) ?_
     have hW := hbd.1
     refine And.intro hrf (And.intro (And.intro (by omega) (And.intro (by omega) (And.intro (fun h => h) (xc_one _)))) ?_)
     refine W_freeze 7 (cells := xc (xq x)) rfl rfl ?_
     refine zS ei ?_
     have hlr : (rs ++ [x]).length = rs.length + 1 := by simp
     have hma : (rs ++ [x]).map xq = rs.map xq ++ [xq x] := by simp
     refine ⟨rs ++ [x], ⟨by omega, fun r hr => ?_, fun k hk => ?_⟩, by omega, ?_, ?_⟩
     ·rcases List.mem_append.1 hr with h | h
      ·exact hRB r h
      ·rw [List.mem_singleton.1 h]; exact hRx
     ·by_cases e : k < rs.length
      ·rw [hps k e, List.getD_eq_getElem?_getD, List.getD_eq_getElem?_getD, List.getElem?_append_left e]
      ·obtain rfl : k = rs.length := by omega
       rw [hX, hq, List.getD_eq_getElem?_getD, List.getElem?_append_right (Nat.le_refl _), Nat.sub_self]; rfl
     ·simp [subF, lk, hlr, frz_ptr_ne, frz_osl_ne, purge, DV.has]
     ·rw [hma, ← xcs_app]
      simp only [List.map_append, map_purge 34 (xcs_rf _), map_purge 34 (xc_rf _), map_purge 34 z18_rf, map_frz 7 _ z18_rf, map_frz 7 _ (xcs_rf _), map_frz 7 _ (xc_rf _)]
   ·have d2 : decide (¬ (((W.getD rs.length []).length : Nat) : Int) = 2) = true := decide_eq_true (by omega)
    rw [rdR_none (hbad (.inl h2))]
    generalize W.getD rs.length [] = l at *
    refine zS d1 ?_
    refine wTs ?_
    refine zS (zA hgl (zA hk3 (zA hWl (zA hsl d2)))) ?_
    refine wT ?_
    refine zS (zA @cS (zA hz hz2)) ?_
    exact W_ret (RetP_ct rfl rfl rfl (.imm rfl) (.imm rfl))
  ·have d1 : decide ((rs.length : Int) < (W.length : Int)) = false := decide_eq_false (by omega)
   refine zS d1 ?_
   refine wF ?_
   refine W_exit ?_
   have hW := hbd.1
   have hxl : (xcs (rs.map xq)).length = rs.length * 3 := by rw [xcs_len, List.length_map]; omega
   refine W_freeze 34 (cells := xcs (rs.map xq)) rfl (List.all_eq_true.2 (xcs_rf _)) ?_
   have hfz : frz 34 (xcs (rs.map xq)) (.osl 3 34 0 rs.length) = .sl 3 (xcs (rs.map xq)) := by
    rw [frz_osl_eq 34 _ 0 rs.length (by decide) (by omega), List.drop_zero, List.take_of_length_le (by omega)]
   have hd3 : rs.length * 3 / 3 = rs.length := by omega
   have hf2 : frz 34 (xcs (rs.map xq)) (.ptr 2 0) = .ptr 2 0 := frz_ptr_ne _ _ _ (by decide)
   have hf3 : z18.map (frz 34 (xcs (rs.map xq))) = z18 := map_frz 34 _ z18_rf
   by_cases h6 : rs.length = 6
   ·have d6 : decide (¬ ((rs.length : Nat) : Int) = 6) = false := by rw [h6]; rfl
    have hcl : (xcs (rs.map xq)).length = 18 := by omega
    have hok : ∀ x ∈ rs.map xq, okx 800 x := fun x hx => by
     obtain ⟨r, hr, rfl⟩ := List.mem_map.1 hx
     exact okx_xq ((hRB r hr).mono (by decide)) (by decide)
    have ct := reTest_calls (rs.map xq) (by rw [List.length_map, h6]) hok
    rw [xvs_xq] at ct
    have hend := hend0 rs h6 fun k hk => hps k (by omega)
    refine zS (zA hfz (zA hxl (zA hd3 (zA d6 (zA hf2 hf3))))) ?_
    refine wFs ?_
    have e0 : Int.toNat 0 = 0 := rfl
    have e1 : Int.toNat 1 = 1 := rfl
    have e2 : Int.toNat 2 = 2 := rfl
    have e3 : Int.toNat 3 = 3 := rfl
    have e4 : Int.toNat 4 = 4 := rfl
    have e5 : Int.toNat 5 = 5 := rfl
    have hl6 : (rs.map xq).length = 6 := by rw [List.length_map, h6]
    generalize hxs : rs.map xq = xs at *
    have hla : laid [.bool false, .nils, .nils, .bool false, .nils, .nils, .bool false, .nils, .nils, .bool false, .nils, .nils, .bool false, .nils, .nils, .bool false, .nils, .nils] [(0, 3, .agg (xc (xs.getD 0 (false, [], [])))), (3, 3, .agg (xc (xs.getD 1 (false, [], [])))), (6, 3, .agg (xc (xs.getD 2 (false, [], [])))), (9, 3, .agg (xc (xs.getD 3 (false, [], [])))), (12, 3, .agg (xc (xs.getD 4 (false, [], [])))), (15, 3, .agg (xc (xs.getD 5 (false, [], []))))] = some (xcs xs) := by
     obtain ⟨a, b, c, d, e, f, rfl⟩ := six_xs hl6
     exact laid18 a b c d e f
    have g0 := xcs_get xs 0 (by omega)
    have g1 := xcs_get xs 1 (by omega)
    have g2 := xcs_get xs 2 (by omega)
    have g3 := xcs_get xs 3 (by omega)
    have g4 := xcs_get xs 4 (by omega)
    have g5 := xcs_get xs 5 (by omega)
    simp only [Nat.reduceMul] at g0 g1 g2 g3 g4 g5
    refine zS (zA e0 (zA e1 (zA e2 (zA e3 (zA e4 (zA e5 (zA g0 (zA g1 (zA g2 (zA g3 (zA g4 (zA g5 (zA hla hcl))))))))))))) ?_
    clear hla
    have hcc := xcs_cells xs
    have ht18 : (xcs xs).take 18 = xcs xs := List.take_of_length_le (by omega)
    refine zS (zA hcc (zA hcl (zA ht18 @cS))) ?_
    refine callC_pure ct (by rw [List.all_cons, xcs_agg]; rfl) ?_
    by_cases he : tst rs = T
    ·rw [if_pos he] at hend
     rw [rdR_some hend, hxs]
     have dn : decide (¬ tst rs = T) = false := decide_eq_false (fun h => h he)
     refine zS dn ?_
     refine wFs ?_
     refine zS (zA hcl (zA ht18 (zA hcc (zA @cS (zA hz hz2))))) ?_
     exact W_ret (RetP_ct rfl rfl hcl (.imm (xcs_agg _)) (.imm rfl))
    ·rw [if_neg he] at hend
     rw [rdR_none hend]
     have dn : decide (¬ tst rs = T) = true := decide_eq_true he
     refine zS dn ?_
     refine wT ?_
     refine zS (zA @cS (zA hz hz2)) ?_
     exact W_ret (RetP_ct rfl rfl rfl (.imm rfl) (.imm rfl))
   ·have d6 : decide (¬ ((rs.length : Nat) : Int) = 6) = true := decide_eq_true (by omega)
    rw [rdR_none (hbad6 (by omega))]
    refine zS (zA hfz (zA hxl (zA hd3 (zA d6 (zA hf2 hf3))))) ?_
    refine wT ?_
    refine zS (zA @cS (zA hz hz2)) ?_
    exact W_ret (RetP_ct rfl rfl rfl (.imm rfl) (.imm rfl))
end Go.Proofs.YtjfedgpbedppeaaGreatDoor
namespace Go.Proofs.YtjfedgpbedppeaaGreatDoor
open Go Go.Dat Go.Proofs Go.RowKit Go.Shelf Nat32
theorem pFraction_calls (a b : Int) (ha : a.natAbs ≤ 1000000) (hb : b ≠ 0) (hb2 : b.natAbs ≤ 1000000) : PCalls Tryz.prog 34 [.int .i64 a, .int .i64 b] (Q (Rat.divInt a b)) := by
 have c1 := sFromInt_calls a (by omega) (by omega)
 have c2 := sFromInt_calls b (by omega) (by omega)
 have il1 : ∀ z : Int, z.natAbs ≤ 1000000 → il z ≤ 900 := fun z hz => Nat.le_trans (limbs_len.2 (show z.natAbs < 4294967296 ^ 1 by omega)) (by decide)
 have c3 := p_over_calls a b hb (il1 a ha) (il1 b hb2)
 refine PCalls_of ispFraction (by simp [fnpFraction]) ?_
 unfold codepFraction
 generalize Rat.divInt a b = r at *
 have hx3 : (XL r).length = 3 := rfl
 have hcc : (Q r).cells? = some (XL r) := xc_cells (xq r)
 repeat (first | refine zP ?_ | refine cP c1 ?_ | refine cP c2 ?_ | refine cP c3 ?_ | exact zT)
 refine zS (zA hcc (zA hx3 @cS)) ?_
 exact W_ret (RetP_c rfl rfl rfl (.imm rfl))
theorem take_sn {α : Type} (R : List α) (z : α) {i : Nat} (hi : i < R.length) : R.take (i + 1) = R.take i ++ [R.getD i z] := by
 rw [List.getD_eq_getElem?_getD, List.take_add_one, List.getElem?_eq_getElem hi]; rfl
theorem mdLightList_calls (xs : List XR) (n : Nat) (hx : xs.length ≤ 1000000) (hn : n ≤ 1000000) : PCalls Tryz.prog 6 [.sl 3 (xcs xs), .int .i64 n] (.bool (decide (xs.length ≤ n) && xs.all fun x => lightB x.2.1 x.2.2)) := by
 have hxl : (xcs xs).length = xs.length * 3 := by rw [xcs_len]; omega
 have hd3 : xs.length * 3 / 3 = xs.length := by omega
 refine PCalls_of ismdLightList (by simp [fnmdLightList]) ?_
 unfold codemdLightList
 by_cases h : n < xs.length
 ·have d1 : decide ((n : Int) < (xs.length : Int)) = true := decide_eq_true (by omega)
  rw [decide_eq_false (show ¬ xs.length ≤ n by omega), Bool.false_and]
  refine zS (zA hxl (zA hd3 d1)) ?_
  refine wT ?_
  refine zR ?_
  exact W_ret (RetP_1 (.imm rfl))
 ·have d1 : decide ((n : Int) < (xs.length : Int)) = false := decide_eq_false (by omega)
  rw [decide_eq_true (show xs.length ≤ n by omega), Bool.true_and]
  refine zS (zA hxl (zA hd3 d1)) ?_
  refine wFs ?_
  refine zR ?_
  refine W_loop (σ := Nat) (fun i => [(0, .sl 3 (xcs xs)), (5, .int .i64 i)]) (fun _ => []) (fun i => i ≤ xs.length ∧ (xs.take i).all fun x => lightB x.2.1 x.2.2) (fun i => xs.length - i) 0 ⟨Nat.zero_le _, rfl⟩ ?_ rfl ?_
  ·simp [subF, lk]
  ·rintro i ⟨hi, hall⟩
   try simp only at hi hall ⊢
   by_cases hlt : i < xs.length
   ·have d2 : decide ((i : Int) < (xs.length : Int)) = true := decide_eq_true (by omega)
    have ei : (i : Int) + 1 = ((i + 1 : Nat) : Int) := by omega
    have hgx := xcs_get xs i hlt
    rw [Nat.mul_comm] at hgx
    have hk3 : ((i : Int)).toNat = i := Int.toNat_natCast i
    have hts := take_sn xs (false, [], []) hlt
    have cm := mdLight_calls (xs.getD i (false, [], [])).1 (xs.getD i (false, [], [])).2.1 (xs.getD i (false, [], [])).2.2
    have hmem : xs.getD i (false, [], []) ∈ xs := by rw [List.getD_eq_getElem?_getD, List.getElem?_eq_getElem hlt]; exact List.getElem_mem hlt
    generalize xs.getD i (false, [], []) = x at *
    change PCalls _ _ [.agg (xc x)] _ at cm
    refine zS (zA hxl (zA hd3 d2)) ?_
    refine wTs ?_
    cases hb : lightB x.2.1 x.2.2
    ·rw [hb] at cm
     have hf : (xs.all fun x => lightB x.2.1 x.2.2) = false := by
      rw [List.all_eq_false]; exact ⟨x, hmem, by rw [hb]; exact Bool.false_ne_true⟩
     rw [hf]
     refine zS (zA hxl (zA hk3 hgx)) ?_
     refine callC_pure cm (by rw [List.all_cons, DV.rf_agg, List.all_eq_true.2 (xc_rf x)]; rfl) ?_
     refine zR ?_
     refine wT ?_
     refine zR ?_
     exact W_ret (RetP_1 (.imm rfl))
    ·rw [hb] at cm
     refine zS (zA hxl (zA hk3 hgx)) ?_
     refine callC_pure cm (by rw [List.all_cons, DV.rf_agg, List.all_eq_true.2 (xc_rf x)]; rfl) ?_
     refine zR ?_
     refine wFs ?_
     refine zS ei ?_
     refine ⟨i + 1, ⟨by omega, by rw [hts, List.all_append, hall]; simp [hb]⟩, by omega, by simp [subF, lk]⟩
   ·have d2 : decide ((i : Int) < (xs.length : Int)) = false := decide_eq_false (by omega)
    rw [List.take_of_length_le (by omega)] at hall
    rw [hall]
    refine zS (zA hxl (zA hd3 d2)) ?_
    refine wF ?_
    refine W_exit ?_
    refine zR ?_
    exact W_ret (RetP_1 (.imm rfl))
end Go.Proofs.YtjfedgpbedppeaaGreatDoor
namespace Go.Proofs.YtjfedgpbedppeaaGreatDoor
open Go Go.Dat Go.Proofs Go.RowKit Go.Shelf Nat32
def smX (x : XR) : Prop := smQ x.2.1 x.2.2
theorem smX.ok {x : XR} (h : smX x) : okx 4 x := ⟨h.1, h.2.1, h.2.2.1, h.2.2.2.1⟩
theorem smX.fmt {x : XR} (h : smX x) : (fmtQ (xv x)).length ≤ 10 := fmt_sm (smR_rv h)
theorem smX_xq {r : Rat} (h : smR r) : smX (xq r) := smQ_Q h
def numQ (r : DV) (c' : List DV) : Prop := isTp c' ∧ ∃ x : XR, smX x ∧ r = .agg (xc x)
theorem wPick_calls (c : List DV) (l : List Int) (hl0 : 0 < l.length) (hl : l.length ≤ 1000) (hc : isTp c) : TCalls Tryz.prog 21 [.ptr 1048576 0, .sl 1 (l.map (.int .i64))] c fun r c' => isTp c' ∧ ∃ v ∈ l, r = .int .i64 v := by
 have cn := wNext_calls c l.length hc (by omega)
 have hil := ints_len l
 refine MRel_of iswPick (by simp [fnwPick]) ?_
 unfold codewPick
 refine zS hil ?_
 refine callC_lend1 1048576 cn rfl (by simp [lkH]) hc.rf (by simp [rn, fwd1]) fun r c' hr hc' hQ => ?_
 obtain ⟨ht, k, hk, rfl⟩ := hQ
 have e3 : ((k : Int)).toNat = k := Int.toNat_natCast k
 have hkl : k < l.length := by omega
 have hlt : (k : Int) < (l.length : Int) := by omega
 have hg := ints_getD hkl
 have hm : l.getD k 0 ∈ l := by rw [List.getD_eq_getElem?_getD, List.getElem?_eq_getElem hkl]; exact List.getElem_mem hkl
 refine zS (zA e3 (zA hg hil)) ?_
 exact W_ret (RetT (c' := c') rfl (by simp [lkH, setH]) hc' ⟨ht, _, hm, rfl⟩)
theorem RetTC {n k o : Nat} {fr : Fr} {H : Hp} {cells c' cs : List DV} {Q : DV → List DV → Prop} (h1 : lk fr k = .ptr o 0) (h2 : lkH H o = some cs) (h3 : cs.length = n) (hd : (DV.agg cs).rf = true) (hh : lkH H 1048576 = some c') (hc : ∀ d ∈ c', d.rf = true) (hQ : Q (.agg cs) c') :
  RetPR [.cn n k] [(1048576, cells)] (fun r H' => ∃ c', H' = [(1048576, c')] ∧ (∀ d ∈ c', d.rf = true) ∧ r.rf = true ∧ Q r c') .ret fr H := by
 refine ⟨.inr rfl, [.agg cs], .agg cs, [(1048576, c')], ⟨c', rfl, hc, hd, hQ⟩, fun o _ h => ?_, ?_, rn_rf _ _ hd, fun o c h => ?_⟩
 ·rw [lkH_one] at h ⊢
  split at h
  ·rename_i e; rw [if_pos e]; rfl
  ·cases h
 ·simp [resDs, resD1, h1, h2, h3, List.take_of_length_le (Nat.le_of_eq h3)]
 ·rw [lkH_one] at h
  split at h
  ·rename_i e
   subst e
   cases h
   exact ⟨_, hh, map_rf _ hc⟩
  ·cases h
theorem xc_agg (x : XR) : (DV.agg (xc x)).rf = true := by rw [DV.rf_agg]; exact List.all_eq_true.2 (xc_rf x)
theorem pInt_calls (v : Int) (h : v.natAbs ≤ 1000) : PCalls Tryz.prog 35 [.int .i64 v] (.agg (xc (xq (v : Rat)))) := pFromInt_calls v (by omega) (by omega)
theorem pFrac_calls (a b : Int) (ha : a.natAbs ≤ 1000) (hb : b ≠ 0) (hb2 : b.natAbs ≤ 1000) : PCalls Tryz.prog 34 [.int .i64 a, .int .i64 b] (.agg (xc (xq (Rat.divInt a b)))) := pFraction_calls a b (by omega) hb (by omega)
def ratQ (r : DV) (c' : List DV) : Prop := isTp c' ∧ ∃ q : Rat, smR q ∧ r = .agg (xc (xq q))
theorem wRat_calls (c : List DV) (hc : isTp c) : TCalls Tryz.prog 10 [.ptr 1048576 0] c ratQ := by
 have cn := wNext_calls c 8 hc (by decide)
 refine MRel_of iswRat (by simp [fnwRat]) ?_
 unfold codewRat
 refine zR ?_
 refine callC_lend1 1048576 cn rfl (by simp [lkH]) hc.rf (by simp [rn, fwd1]) fun r c1 hr hc1 hQ => ?_
 obtain ⟨ht, k, hk, rfl⟩ := hQ
 by_cases h6 : k = 6
 ·have d6 : decide ((k : Int) = 6) = true := decide_eq_true (by omega)
  refine zS d6 ?_
  refine wT ?_
  refine zR ?_
  have cn1 := wNext_calls c1 13 ht (by decide)
  refine callC_lend1 1048576 cn1 rfl (by simp [lkH, setH]) ht.rf (by simp [rn, fwd1]) fun r c2 hr hc2 hQ => ?_
  obtain ⟨ht2, k2, hk2, rfl⟩ := hQ
  refine zR ?_
  have cn2 := wNext_calls c2 6 ht2 (by decide)
  refine callC_lend1 1048576 cn2 rfl (by simp [lkH, setH]) ht2.rf (by simp [rn, fwd1]) fun r c3 hr hc3 hQ => ?_
  obtain ⟨ht3, k3, hk3, rfl⟩ := hQ
  refine zR ?_
  have cf := pFrac_calls ((k2 : Int) - 6) (1 + (k3 : Int)) (by omega) (by omega) (by omega)
  refine cP cf ?_
  have hsm := (smR_divInt (z := (k2 : Int) - 6) (e := 1 + (k3 : Int)) (by omega) (by omega) (by omega))
  generalize (Rat.divInt ((k2 : Int) - 6) (1 + (k3 : Int))) = q at *
  have hxc := xc_cells (xq q)
  have hx3 : (xc (xq q)).length = 3 := rfl
  refine zS (zA hxc (zA hx3 @cS)) ?_
  exact W_ret (RetTC (c' := c3) rfl rfl rfl (xc_agg _) (by simp [lkH, setH]) hc3 ⟨ht3, q, hsm, rfl⟩)
 ·have d6 : decide ((k : Int) = 6) = false := decide_eq_false (by omega)
  refine zS d6 ?_
  refine wF ?_
  by_cases h7 : k = 7
  ·have d7 : decide ((k : Int) = 7) = true := decide_eq_true (by omega)
   refine zS d7 ?_
   refine wT ?_
   refine zR ?_
   have cn1 := wNext_calls c1 2001 ht (by decide)
   refine callC_lend1 1048576 cn1 rfl (by simp [lkH, setH]) ht.rf (by simp [rn, fwd1]) fun r c2 hr hc2 hQ => ?_
   obtain ⟨ht2, k2, hk2, rfl⟩ := hQ
   refine zS (zA @cS (zA @rfm_nil0 @rfm_int)) ?_
   have cp := wPick_calls c2 [1, 1, 7] (by decide) (by decide) ht2
   refine callC_lend1 1048576 cp rfl (by simp [lkH, setH]) ht2.rf (by simp [rn, fwd1, rnL]) fun r c3 hr hc3 hQ => ?_
   obtain ⟨ht3, v, hv, rfl⟩ := hQ
   have hv1 : v = 1 ∨ v = 7 := by simpa using hv
   refine zR ?_
   have cf := pFrac_calls ((k2 : Int) - 1000) v (by omega) (by omega) (by omega)
   refine cP cf ?_
   have hsm := (smR_divInt (z := (k2 : Int) - 1000) (e := v) (by omega) (by omega) (by omega))
   generalize (Rat.divInt ((k2 : Int) - 1000) v) = q at *
   have hxc := xc_cells (xq q)
   have hx3 : (xc (xq q)).length = 3 := rfl
   refine zS (zA hxc (zA hx3 @cS)) ?_
   exact W_ret (RetTC (c' := c3) rfl rfl rfl (xc_agg _) (by simp [lkH, setH]) hc3 ⟨ht3, q, hsm, rfl⟩)
  ·have d7 : decide ((k : Int) = 7) = false := decide_eq_false (by omega)
   refine zS d7 ?_
   refine wFs ?_
   refine zR ?_
   have cn1 := wNext_calls c1 9 ht (by decide)
   refine callC_lend1 1048576 cn1 rfl (by simp [lkH, setH]) ht.rf (by simp [rn, fwd1]) fun r c2 hr hc2 hQ => ?_
   obtain ⟨ht2, k2, hk2, rfl⟩ := hQ
   refine zR ?_
   have cf := pInt_calls ((k2 : Int) - 4) (by omega)
   refine cP cf ?_
   have hsm := (smR_int (v := (k2 : Int) - 4) (by omega))
   generalize (((k2 : Int) - 4 : Int) : Rat) = q at *
   have hxc := xc_cells (xq q)
   have hx3 : (xc (xq q)).length = 3 := rfl
   refine zS (zA hxc (zA hx3 @cS)) ?_
   exact W_ret (RetTC (c' := c2) rfl rfl rfl (xc_agg _) (by simp [lkH, setH]) hc2 ⟨ht2, q, hsm, rfl⟩)
end Go.Proofs.YtjfedgpbedppeaaGreatDoor
namespace Go.Proofs.YtjfedgpbedppeaaGreatDoor
open Go Go.Dat Go.Proofs Go.RowKit Go.Shelf Nat32
theorem us_app (a b : List Nat) : us a ++ us b = us (a ++ b) := by unfold us; rw [List.map_append]
theorem us_rf' (l : List Nat) : ∀ d ∈ us l, d.rf = true := by
 intro d hd
 unfold us at hd
 obtain ⟨n, _, rfl⟩ := List.mem_map.1 hd
 rfl
theorem us_one' (l : List Nat) : ∀ d ∈ us l, d.one = true := by
 intro d hd
 unfold us at hd
 obtain ⟨n, _, rfl⟩ := List.mem_map.1 hd
 rfl
theorem wOdd_calls (c : List DV) (hc : isTp c) : TCalls Tryz.prog 9 [.ptr 1048576 0] c numQ := by
 have cn := wRat_calls c hc
 refine MRel_of iswOdd (by simp [fnwOdd]) ?_
 unfold codewOdd
 refine zR ?_
 refine callC_lend1 1048576 cn rfl (by simp [lkH, setH]) hc.rf (by simp [rn, fwd1]) fun r c1 hr hc1 hQ => ?_
 obtain ⟨ht, q, hq, rfl⟩ := hQ
 have hxc := xc_cells (xq q)
 have hx3 : (xc (xq q)).length = 3 := rfl
 have h33 : (xc (xq q)).take 3 = xc (xq q) := rfl
 refine zS (zA hxc (zA hx3 @cS)) ?_
 have cn1 := wNext_calls c1 24 ht (by decide)
 refine callC_lend1 1048576 cn1 rfl (by simp [lkH, setH]) ht.rf (by simp [rn, fwd1]) fun r c2 hr hc2 hQ => ?_
 obtain ⟨ht2, k, hk, rfl⟩ := hQ
 by_cases h20 : k = 20
 ·have d20 : decide ((k : Int) = 20) = true := decide_eq_true (by omega)
  refine zS d20 ?_
  refine wT ?_
  have hset : (xc (xq q)).set 2 (.sl 1 [.int .u32 1]) = xc ((xq q).1, limbs q.num.natAbs, [1]) := rfl
  have hsm : smX ((xq q).1, limbs q.num.natAbs, [1]) := smQ_den1 hq
  generalize ((xq q).1, limbs q.num.natAbs, [1]) = y at *
  have hyc := xc_cells y
  have hy3 : (xc y).length = 3 := rfl
  have hyt : (xc y).take 3 = xc y := rfl
  refine zS (zA hset (zA hx3 (zA hy3 (zA hyt (zA hyc (zA @rfm_nil0 (zA @rfm_int (zA @List.drop_zero.{0} (zA @cells_int (zA @laid_int @laid_nil)))))))))) ?_
  refine And.intro rfl ?_
  refine zS (zA hy3 (zA hyt (zA hyc (zA @List.drop_zero.{0} @cS)))) ?_
  exact W_ret (RetTC (c' := c2) rfl rfl rfl (xc_agg _) (by simp [lkH, setH]) hc2 ⟨ht2, y, hsm, rfl⟩)
 ·have d20 : decide ((k : Int) = 20) = false := decide_eq_false (by omega)
  refine zS d20 ?_
  refine wF ?_
  by_cases h21 : k = 21
  ·have d21 : decide ((k : Int) = 21) = true := decide_eq_true (by omega)
   refine zS d21 ?_
   refine wT ?_
   have hg1 : (xc (xq q)).getD 1 .undef = .sl 1 (us (limbs q.num.natAbs)) := rfl
   have hul := limbs_sm hq.1
   generalize hl : limbs q.num.natAbs = l at *
   have p1 : purge 17 (.ptr 1048576 0) = .ptr 1048576 0 := rfl
   have p2 : purge 17 (.ptr 2 0) = .ptr 2 0 := rfl
   have p3 : purge 17 (.ptr 3 0) = .ptr 3 0 := rfl
   have p4 : purge 17 (.ptr 3 1) = .ptr 3 1 := rfl
   have u1 : ∀ d ∈ us l, d.one = true := us_one' l
   have u2 : (us l).map (purge 17) = us l := map_purge 17 (us_rf' l)
   have u3 : (xc (xq q)).map (purge 17) = xc (xq q) := map_purge 17 (xc_rf _)
   have u4 : c2.map (purge 17) = c2 := map_purge 17 hc2
   have u5 : (us l ++ [DV.int .u32 0]).map (purge 17) = us l ++ [DV.int .u32 0] := by rw [List.map_append, u2]; rfl
   have hla3 : laid [.int .u32 0] [(0, 1, .int .u32 0)] = some [.int .u32 0] := rfl
   have hy0 : us l ++ [DV.int .u32 0] = us (l ++ [0]) := us_app l [0]
   have hset : (xc (xq q)).set 1 (.sl 1 (us (l ++ [0]))) = xc ((xq q).1, l ++ [0], dn q.den) := rfl
   have hsm : smX ((xq q).1, l ++ [0], dn q.den) := by rw [← hl]; exact smQ_app0 hq
   refine zS (zA hg1 (zA @us_length (zA p1 (zA p2 (zA p3 (zA p4 (zA u2 (zA u3 (zA u4 (zA u5 hla3)))))))))) ?_
   have v1 : ∀ d ∈ [DV.int IntKind.u32 0], d.rf = true := fun d hd => by rw [List.mem_singleton.1 hd]; rfl
   have v2 : ∀ d ∈ [DV.int IntKind.u32 0], d.one = true := fun d hd => by rw [List.mem_singleton.1 hd]; rfl
   refine And.intro ⟨by omega, by omega, u1⟩ (And.intro v1 (And.intro ⟨by omega, by omega, fun h => h, v2⟩ (And.intro ⟨rfl, by rw [hx3]; decide⟩ ?_)))
   have hfl : frz 17 (us l ++ [DV.int .u32 0]) (.osl 1 17 0 (l.length + 1)) = .sl 1 (us (l ++ [0])) := by
    rw [hy0]; exact frz_us (by simp)
   refine W_freeze 17 (cells := us l ++ [DV.int .u32 0]) rfl (by rw [hy0]; exact us_rf _) ?_
   have f1 : frz 17 (us l ++ [DV.int .u32 0]) (.ptr 1048576 0) = .ptr 1048576 0 := frz_ptr_ne _ _ _ (by decide)
   have f2 : frz 17 (us l ++ [DV.int .u32 0]) (.ptr 2 0) = .ptr 2 0 := frz_ptr_ne _ _ _ (by decide)
   have f3 : frz 17 (us l ++ [DV.int .u32 0]) (.ptr 3 0) = .ptr 3 0 := frz_ptr_ne _ _ _ (by decide)
   have f4 : c2.map (frz 17 (us l ++ [DV.int .u32 0])) = c2 := map_frz 17 _ hc2
   have f5 : ((xc (xq q)).set 1 (.osl 1 17 0 (l.length + 1))).map (frz 17 (us l ++ [DV.int .u32 0])) = xc ((xq q).1, l ++ [0], dn q.den) := by
    show [_, _, _] = [_, _, _]
    rw [hfl]; rfl
   generalize us l ++ [DV.int .u32 0] = cs at *
   generalize ((xq q).1, l ++ [0], dn q.den) = y at *
   have hyc := xc_cells y
   have hy3 : (xc y).length = 3 := rfl
   have hyt : (xc y).take 3 = xc y := rfl
   refine zS (zA f1 (zA f2 (zA f3 (zA f4 (zA f5 (zA hy3 (zA hyt (zA hyc @List.drop_zero.{0})))))))) ?_
   refine zS (zA hy3 @cS) ?_
   exact W_ret (RetTC (c' := c2) rfl rfl rfl (xc_agg _) (by simp [lkH, setH]) hc2 ⟨ht2, y, hsm, rfl⟩)
  ·have d21 : decide ((k : Int) = 21) = false := decide_eq_false (by omega)
   refine zS d21 ?_
   refine wF ?_
   by_cases h22 : k = 22
   ·have d22 : decide ((k : Int) = 22) = true := decide_eq_true (by omega)
    refine zS d22 ?_
    refine wT ?_
    have hla : laid [.bool false, .nils, .nils] [(0, 2, .agg [.bool true, .nils])] = some [.bool true, .nils, .nils] := rfl
    have hla1 : laid [.bool false, .nils] [(0, 1, .bool true)] = some [.bool true, .nils] := rfl
    refine zS (zA hla (zA hla1 (zA hx3 h33))) ?_
    refine zS @cS ?_
    refine W_hnz 2 1 rfl ?_
    exact W_ret (RetTC (c' := c2) rfl rfl rfl (xc_agg (true, [], [])) (by simp [lkH, setH]) hc2 ⟨ht2, (true, [], []), smQ_0, rfl⟩)
   ·have d22 : decide ((k : Int) = 22) = false := decide_eq_false (by omega)
    refine zS d22 ?_
    refine wF ?_
    by_cases h23 : k = 23
    ·have d23 : decide ((k : Int) = 23) = true := decide_eq_true (by omega)
     refine zS d23 ?_
     refine wT ?_
     have hla : laid [.bool false, .nils, .nils] [(0, 2, .agg [.bool false, .sl 1 [.int .u32 2]]), (2, 1, .sl 1 [.int .u32 4])] = some [.bool false, .sl 1 [.int .u32 2], .sl 1 [.int .u32 4]] := rfl
     have hla1 : laid [.bool false, .nils] [(1, 1, .sl 1 [.int .u32 2])] = some [.bool false, .sl 1 [.int .u32 2]] := rfl
     have hla2 : laid [.int .u32 0] [(0, 1, .int .u32 2)] = some [.int .u32 2] := rfl
     have hla3 : laid [.int .u32 0] [(0, 1, .int .u32 4)] = some [.int .u32 4] := rfl
     refine zS (zA hla (zA hla1 (zA hla2 (zA hla3 (zA hx3 (zA h33 (zA @rfm_nil0 @rfm_int))))))) ?_
     refine zS @cS ?_
     exact W_ret (RetTC (c' := c2) rfl rfl rfl (xc_agg (false, [2], [4])) (by simp [lkH, setH]) hc2 ⟨ht2, (false, [2], [4]), smQ_24, rfl⟩)
    ·have d23 : decide ((k : Int) = 23) = false := decide_eq_false (by omega)
     refine zS d23 ?_
     refine wFs ?_
     repeat (first | refine W_seq ?_ | refine W_reg ?_ | refine W_regd ?_ | refine W_regs ?_ | refine W_regp ?_ | refine W_block ?_ | refine And.intro (by omega) ?_ | simp (maxSteps := 1000000) (disch := omega) only [cA, cB, cN, FnD.nb, lk, lkH, Dst.onT, Dst.onX, Dst.slot, setF, setH, mapF, mapH, initF, binE, unE, cnt, boundE, newsE, freshE, freshT, opE, rmH, blkQ, frz_us, Nat.reduceEqDiff, Nat.reduceLT, Nat.reduceAdd, Nat.reduceMul, Nat.reduceMod, ↓reduceIte, reduceCtorEq, Nat.reduceLeDiff, cS, hx3, h33, hxc])
     exact W_ret (RetTC (c' := c2) rfl rfl rfl (xc_agg _) (by simp [lkH, setH]) hc2 ⟨ht2, _, smX_xq hq, rfl⟩)
end Go.Proofs.YtjfedgpbedppeaaGreatDoor
namespace Go.Proofs.YtjfedgpbedppeaaGreatDoor
open Go Go.Dat Go.Proofs Go.RowKit Go.Shelf Nat32
theorem wLevel_calls (c : List DV) (hc : isTp c) : TCalls Tryz.prog 11 [.ptr 1048576 0] c numQ := by
 have cn := wNext_calls c 12 hc (by decide)
 refine MRel_of iswLevel (by simp [fnwLevel]) ?_
 unfold codewLevel
 refine zR ?_
 refine callC_lend1 1048576 cn rfl (by simp [lkH]) hc.rf (by simp [rn, fwd1]) fun r c1 hr hc1 hQ => ?_
 obtain ⟨ht, k, hk, rfl⟩ := hQ
 by_cases h10 : k = 10
 ·have d10 : decide ((k : Int) = 10) = true := decide_eq_true (by omega)
  refine zS d10 ?_
  refine wT ?_
  refine zR ?_
  have cn1 := wOdd_calls c1 ht
  refine callC_lend1 1048576 cn1 rfl (by simp [lkH, setH]) ht.rf (by simp [rn, fwd1]) fun r c2 hr hc2 hQ => ?_
  obtain ⟨ht2, x, hsm, rfl⟩ := hQ
  have hxc := xc_cells x
  have hx3 : (xc x).length = 3 := rfl
  refine zS (zA hxc (zA hx3 @cS)) ?_
  exact W_ret (RetTC (c' := c2) rfl rfl rfl (xc_agg x) (by simp [lkH, setH]) hc2 ⟨ht2, x, hsm, rfl⟩)
 ·have d10 : decide ((k : Int) = 10) = false := decide_eq_false (by omega)
  refine zS d10 ?_
  refine wF ?_
  by_cases h11 : k = 11
  ·have d11 : decide ((k : Int) = 11) = true := decide_eq_true (by omega)
   refine zS d11 ?_
   refine wT ?_
   refine zS (zA @cS (zA @rfm_nil0 @rfm_int)) ?_
   have cp := wPick_calls c1 [0, 1] (by decide) (by decide) ht
   refine callC_lend1 1048576 cp rfl (by simp [lkH, setH]) ht.rf (by simp [rn, fwd1, rnL]) fun r c3 hr hc3 hQ => ?_
   obtain ⟨ht3, v, hv, rfl⟩ := hQ
   have hv1 : v = 0 ∨ v = 1 := by simpa using hv
   refine zR ?_
   have cf := pInt_calls v (by omega)
   refine cP cf ?_
   have hsm := (smR_int (v := v) (by omega))
   generalize ((v : Int) : Rat) = q at *
   have hxc := xc_cells (xq q)
   have hx3 : (xc (xq q)).length = 3 := rfl
   refine zS (zA hxc (zA hx3 @cS)) ?_
   exact W_ret (RetTC (c' := c3) rfl rfl rfl (xc_agg _) (by simp [lkH, setH]) hc3 ⟨ht3, _, smX_xq hsm, rfl⟩)
  ·have d11 : decide ((k : Int) = 11) = false := decide_eq_false (by omega)
   refine zS d11 ?_
   refine wFs ?_
   refine zR ?_
   have cn1 := wNext_calls c1 21 ht (by decide)
   refine callC_lend1 1048576 cn1 rfl (by simp [lkH, setH]) ht.rf (by simp [rn, fwd1]) fun r c2 hr hc2 hQ => ?_
   obtain ⟨ht2, k2, hk2, rfl⟩ := hQ
   refine zR ?_
   have cf := pFrac_calls (k2 : Int) 20 (by omega) (by omega) (by omega)
   refine cP cf ?_
   have hsm := (smR_divInt (z := (k2 : Int)) (e := 20) (by omega) (by omega) (by omega))
   generalize (Rat.divInt (k2 : Int) 20) = q at *
   have hxc := xc_cells (xq q)
   have hx3 : (xc (xq q)).length = 3 := rfl
   refine zS (zA hxc (zA hx3 @cS)) ?_
   exact W_ret (RetTC (c' := c2) rfl rfl rfl (xc_agg _) (by simp [lkH, setH]) hc2 ⟨ht2, _, smX_xq hsm, rfl⟩)
end Go.Proofs.YtjfedgpbedppeaaGreatDoor
namespace Go.Proofs.YtjfedgpbedppeaaGreatDoor
open Go Go.Dat Go.Proofs Go.RowKit Go.Shelf Nat32
theorem xcs_map_get (rs : List Rat) {i : Nat} (h : i < rs.length) : (rs.map xq).getD i (false, [], []) = xq (rs.getD i 0) := by
 rw [List.getD_eq_getElem?_getD, List.getD_eq_getElem?_getD, List.getElem?_map, List.getElem?_eq_getElem h]; rfl
theorem pSameList_calls (rs : List Rat) (hl : rs.length ≤ 1000) (hRB : ∀ r ∈ rs, RB r 900) : PCalls Tryz.prog 27 [.sl 3 (xcs (rs.map xq)), .sl 3 (xcs (rs.map xq))] (.bool true) := by
 have hxl : (xcs (rs.map xq)).length = rs.length * 3 := by rw [xcs_len, List.length_map]; omega
 have hd3 : rs.length * 3 / 3 = rs.length := by omega
 have d0 : decide (¬ ((rs.length : Nat) : Int) = (rs.length : Int)) = false := decide_eq_false (fun h => h rfl)
 refine PCalls_of ispSameList (by simp [fnpSameList]) ?_
 unfold codepSameList
 refine zS (zA hxl (zA hd3 d0)) ?_
 refine wFs ?_
 refine zR ?_
 refine W_loop (σ := Nat) (fun i => [(0, .sl 3 (xcs (rs.map xq))), (1, .sl 3 (xcs (rs.map xq))), (5, .int .i64 i)]) (fun _ => []) (fun i => i ≤ rs.length) (fun i => rs.length - i) 0 (Nat.zero_le _) ?_ rfl ?_
 ·simp [subF, lk]
 ·intro i hi
  try simp only at hi ⊢
  by_cases hlt : i < rs.length
  ·have d2 : decide ((i : Int) < (rs.length : Int)) = true := decide_eq_true (by omega)
   have ei : (i : Int) + 1 = ((i + 1 : Nat) : Int) := by omega
   have hgx := xcs_get (rs.map xq) i (by rw [List.length_map]; exact hlt)
   rw [Nat.mul_comm, xcs_map_get rs hlt] at hgx
   have hk3 : ((i : Int)).toNat = i := Int.toNat_natCast i
   have hmem : rs.getD i 0 ∈ rs := by rw [List.getD_eq_getElem?_getD, List.getElem?_eq_getElem hlt]; exact List.getElem_mem hlt
   have cm := pSameT (rs.getD i 0) (hRB _ hmem)
   rw [← xc_xq] at cm
   have hfit : i * 3 + 3 ≤ (xcs (rs.map xq)).length := by omega
   generalize rs.getD i 0 = q at *
   refine zS (zA hxl (zA hd3 d2)) ?_
   refine wTs ?_
   refine zS (zA hxl (zA hk3 hgx)) ?_
   refine callC_pure cm (by rw [List.all_cons, List.all_cons, xc_agg]; rfl) ?_
   refine zR ?_
   refine wFs ?_
   refine zS ei ?_
   refine ⟨i + 1, by omega, by omega, by simp [subF, lk]⟩
  ·have d2 : decide ((i : Int) < (rs.length : Int)) = false := decide_eq_false (by omega)
   refine zS (zA hxl (zA hd3 d2)) ?_
   refine wF ?_
   refine W_exit ?_
   refine zR ?_
   exact W_ret (RetP_1 (.imm rfl))
theorem rtSame_calls (rs : List Rat) (hl : rs.length = 6) (hRB : ∀ r ∈ rs, RB r 900) : PCalls Tryz.prog 49 [.agg (xcs (rs.map xq)), .agg (xcs (rs.map xq))] (.bool true) := by
 have cm := pSameList_calls rs (by omega) hRB
 have hl6 : (rs.map xq).length = 6 := by rw [List.length_map, hl]
 generalize rs.map xq = xs at *
 have hc := xcs_cells xs
 have hne : xcs xs ≠ [] := fun e => by have := xcs_len xs; rw [e, hl6] at this; cases this
 have hrf : ∀ d ∈ xcs xs, d.rf = true := xcs_rf xs
 have hx18 : (xcs xs).length = 18 := by rw [xcs_len]; omega
 have hla : laid [.bool false, .nils, .nils, .bool false, .nils, .nils, .bool false, .nils, .nils, .bool false, .nils, .nils, .bool false, .nils, .nils, .bool false, .nils, .nils] [(0, 3, .agg (xc (xs.getD 0 (false, [], [])))), (3, 3, .agg (xc (xs.getD 1 (false, [], [])))), (6, 3, .agg (xc (xs.getD 2 (false, [], [])))), (9, 3, .agg (xc (xs.getD 3 (false, [], [])))), (12, 3, .agg (xc (xs.getD 4 (false, [], [])))), (15, 3, .agg (xc (xs.getD 5 (false, [], []))))] = some (xcs xs) := by
  obtain ⟨a, b, c, d, e, f, rfl⟩ := six_xs hl6
  exact laid18 a b c d e f
 have g0 := xcs_get xs 0 (by omega)
 have g1 := xcs_get xs 1 (by omega)
 have g2 := xcs_get xs 2 (by omega)
 have g3 := xcs_get xs 3 (by omega)
 have g4 := xcs_get xs 4 (by omega)
 have g5 := xcs_get xs 5 (by omega)
 simp only [Nat.reduceMul] at g0 g1 g2 g3 g4 g5
 refine PCalls_of isrtSame (by simp [fnrtSame]) ?_
 unfold codertSame
 refine W_seq ?_
 refine W_reg ?_
 refine zE hc ?_
 refine zS (zA g0 (zA g1 (zA g2 (zA g3 (zA g4 (zA g5 (zA hx18 hla))))))) ?_
 refine callC_pure cm (by simp [List.all_cons, DV.rf]) ?_
 refine zR ?_
 exact W_ret (RetP_1 (.imm rfl))
theorem reSame_calls (rs : List Rat) (hl : rs.length = 6) (hRB : ∀ r ∈ rs, RB r 900) : PCalls Tryz.prog 17 [.agg (xcs (rs.map xq)), .agg (xcs (rs.map xq))] (.bool true) := by
 have cm := rtSame_calls rs hl hRB
 have hl6 : (rs.map xq).length = 6 := by rw [List.length_map, hl]
 generalize rs.map xq = xs at *
 have hc := xcs_cells xs
 have hx18 : (xcs xs).length = 18 := by rw [xcs_len]; omega
 have ht18 : (xcs xs).take 18 = xcs xs := List.take_of_length_le (by omega)
 refine PCalls_of isreSameTest (by simp [fnreSameTest]) ?_
 unfold codereSameTest
 refine W_seq ?_
 refine W_reg ?_
 refine zE hc ?_
 refine zS (zA hx18 (zA ht18 @List.drop_zero.{0})) ?_
 refine callC_pure cm (by rw [List.all_cons, List.all_cons, xcs_agg]; rfl) ?_
 refine zR ?_
 exact W_ret (RetP_1 (.imm rfl))
end Go.Proofs.YtjfedgpbedppeaaGreatDoor
namespace Go.Proofs.YtjfedgpbedppeaaGreatDoor
open Go Go.Dat Go.Proofs Nat32 Go.RowKit
theorem rfk_nil : (∀ d ∈ ([] : List DV), d.rf = true) ↔ True := by simp
theorem rfk_str (l : List UInt8) (xs : List DV) : (∀ d ∈ DV.str l :: xs, d.rf = true) ↔ ∀ d ∈ xs, d.rf = true := by simp [DV.rf]
theorem rfk_sl (s : Nat) (ys xs : List DV) : (∀ d ∈ DV.sl s ys :: xs, d.rf = true) ↔ ∀ d ∈ xs, d.rf = true := by simp [DV.rf]
theorem getD_bd {α : Type} {p : α → Prop} {l : List α} {d : α} (hd : p d) (h : ∀ x ∈ l, p x) (i : Nat) : p (l.getD i d) := by
 rw [List.getD_eq_getElem?_getD]
 cases hi : l[i]? with
 | none => exact hd
 | some x => exact h x (List.mem_of_getElem? hi)
theorem lr_awake_calls : PCalls Tryz.prog 7 [] (.bool true) := by
 have hc : colR [[[97], [49, 48]], [[98, 99, 100], [50]]] = .tup [.str [32, 32, 97, 32, 32, 49, 48, 10, 98, 99, 100, 32, 32, 32, 50, 10], .int .i64 0] := by
  have h1 : shapeOk [[[97], [49, 48]], [[98, 99, 100], [50]]] = true := by decide +kernel
  have h2 : formB [[[97], [49, 48]], [[98, 99, 100], [50]]] = true := by decide +kernel
  have h3 : colT (wdT [[[97], [49, 48]], [[98, 99, 100], [50]]] 2) [[[97], [49, 48]], [[98, 99, 100], [50]]] 2 2 = [32, 32, 97, 32, 32, 49, 48, 10, 98, 99, 100, 32, 32, 32, 50, 10] := by decide +kernel
  unfold colR
  rw [h1, h2]
  show DV.tup [.str (colT (wdT [[[97], [49, 48]], [[98, 99, 100], [50]]] 2) [[[97], [49, 48]], [[98, 99, 100], [50]]] 2 2), .int .i64 0] = _
  rw [h3]
 have c := rpColumns_calls [[[97], [49, 48]], [[98, 99, 100], [50]]] (by decide)
  (fun i => getD_bd (p := fun r : List (List UInt8) => r.length ≤ 9223372036854775807) (by decide) (by decide) i)
  (fun i j => getD_bd (p := fun r : List (List UInt8) => (r.getD j []).length ≤ 9223372036854775807) (by simp) (fun r hr => getD_bd (p := fun s : List UInt8 => s.length ≤ 9223372036854775807) (by decide) (by
   intro x hx
   simp only [List.mem_cons, List.not_mem_nil, or_false] at hr
   rcases hr with rfl | rfl <;> (simp only [List.mem_cons, List.not_mem_nil, or_false] at hx; rcases hx with rfl | rfl <;> decide)) j) i)
 rw [hc] at c
 have c' : PCalls Tryz.prog 29 [.sl 1 [.sl 1 [.str [97], .str [49, 48]], .sl 1 [.str [98, 99, 100], .str [50]]]] (.tup [.str [32, 32, 97, 32, 32, 49, 48, 10, 98, 99, 100, 32, 32, 32, 50, 10], .int .i64 0]) := c
 clear c hc
 refine PCalls_of islr_awake (by simp [fnlr_awake]) ?_
 unfold codelr_awake
 repeat (first | refine zQ (zA @cS (zA @rfk_nil (zA @rfk_str (zA @rfk_sl (zA @decide_true cI))))) ?_ | refine cP c' ?_ | exact zT)
end Go.Proofs.YtjfedgpbedppeaaGreatDoor
namespace Go.Proofs.YtjfedgpbedppeaaGreatDoor
open Go Go.Dat Go.Proofs Go.RowKit Go.Shelf Nat32
theorem xq_0 : xq 0 = (false, [], []) := by simp [xq, limbs_zero, dn]
noncomputable def rdX (T : Bs) : List Rat := (rdT T).getD [0, 0, 0, 0, 0, 0]
noncomputable def rdCs (T : Bs) : List DV := match rdT T with | some rs => xcs (rs.map xq) | none => z18
noncomputable def rdN (T : Bs) : Int := match rdT T with | some _ => 0 | none => 3
theorem rdR_eq (T : Bs) : rdR T = .tup [.agg (rdCs T), .int .i64 (rdN T)] := by
 unfold rdR rdCs rdN
 cases rdT T <;> rfl
theorem rdX_len (T : Bs) : (rdX T).length = 6 := by
 unfold rdX
 cases h : rdT T with
 | none => rfl
 | some rs => exact (rdT_some h).1
theorem rdX_RB {T : Bs} (hT : T.length ≤ 450) : ∀ r ∈ rdX T, RB r 900 := by
 intro r hr
 unfold rdX at hr
 cases h : rdT T with
 | none =>
  rw [h] at hr
  have : r = 0 := by simpa using hr
  subst this
  exact RB_int (z := 0) (by simp [limbs_zero]) (by decide)
 | some rs =>
  rw [h] at hr
  have h6 := (rdT_some h).1
  obtain ⟨k, hk, rfl⟩ := List.mem_iff_getElem.1 hr
  have h2 := (rd_fld (by omega) h (k := k) (by have : k < rs.length := hk; omega)).2
  have h3 := parseQ_RB5 (Nat.le_trans (Nat.le_trans (fld_le T k) (lnT_le T k)) hT) h2
  have hk' : k < rs.length := hk
  have h4 : rs.getD k 0 = rs[k] := by rw [List.getD_eq_getElem?_getD, List.getElem?_eq_getElem hk']; rfl
  rw [h4] at h3
  exact h3.mono (by decide)
theorem rdC_nz (T : Bs) : (rdCs T).map (nz 1) = xcs ((rdX T).map xq) := by
 unfold rdCs rdX
 cases rdT T with
 | none =>
  show z18.map (nz 1) = xcs [xq 0, xq 0, xq 0, xq 0, xq 0, xq 0]
  rw [xq_0]; rfl
 | some rs =>
  show (xcs (rs.map xq)).map (nz 1) = xcs (rs.map xq)
  have : ∀ d ∈ xcs (rs.map xq), nz 1 d = d := by
   intro d hd
   unfold xcs at hd
   obtain ⟨x, _, h⟩ := List.mem_flatMap.1 hd
   simp only [xc, List.mem_cons, List.not_mem_nil, or_false] at h
   rcases h with rfl | rfl | rfl <;> rfl
  rw [List.map_congr_left this, List.map_id']
theorem rdC_len (T : Bs) : (rdCs T).length = 18 := by
 have h := congrArg List.length (rdC_nz T)
 rwa [List.length_map, xcs_len, List.length_map, rdX_len] at h
theorem rdC_rf (T : Bs) : ∀ d ∈ rdCs T, d.rf = true := by
 unfold rdCs
 cases rdT T with
 | none => exact z18_rf
 | some rs => exact xcs_rf _
theorem tpre_sm {xs : List XR} (hx : ∀ x ∈ xs, smX x) (hl : xs.length = 6) : ∀ n, n ≤ 6 → (tpre (xs.map xv) n).length ≤ n * 40
 | 0, _ => Nat.zero_le _
 | n + 1, h => by
  have h1 := tpre_sm hx hl n (by omega)
  have hm : xs.getD n (false, [], []) ∈ xs := by rw [List.getD_eq_getElem?_getD, List.getElem?_eq_getElem (show n < xs.length by omega)]; exact List.getElem_mem _
  have h2 := (hx _ hm).fmt
  simp only [tpre, List.length_append, tl, List.length_cons, List.length_nil]
  rw [xv_get xs n (by omega)]
  have h3 := tw_le (n := n) (by omega)
  omega
theorem drawQ_any (n : Nat) {c : List DV} (hc : isTp c) : ∃ d c', d.rf = true ∧ (∀ x ∈ c', x.rf = true) ∧ drawQ n d c' := ⟨.int .i64 (0 : Nat), c, rfl, hc.rf, hc, 0, .inr rfl, rfl⟩
theorem rdC_cells (T : Bs) : (DV.agg (rdCs T)).cells? = some (rdCs T) := by
 unfold rdCs
 cases rdT T with
 | none => rfl
 | some rs => exact xcs_cells _
theorem rdC_rfall (T : Bs) : List.all (xcs ((rdX T).map xq)) DV.rf = true := List.all_eq_true.2 (xcs_rf _)
theorem z18_st (C : List DV) : List.take 0 z18 ++ C ++ List.drop 18 z18 = C := by simp [z18]
def ltT : DC := dSeq2 (dSeq2 (dSeq2 (dSeq2 (dSeq2 (dSeq2 (dSeq2 (dSeq2 codelrTests)))))))
set_option maxHeartbeats 4000000 in
theorem tstTail (A S T : Bs) (hA : A.length ≤ 440) (hS : S.length ≤ 450) (hT : T.length ≤ 450) :
  W fnlrTests ltT (RetP reslrTests (.bool true)) [(2, .str T), (9, .str A), (10, .str S)] [] := by
 have hA1 : A.length + [(10 : UInt8)].length ≤ 9223372036854775807 := by rw [List.length_singleton]; omega
 unfold ltT codelrTests
 dsimp only [dSeq2]
 repeat (first | refine W_seq ?_ | refine W_reg ?_ | refine W_regd ?_ | refine W_regs ?_ | refine W_regp ?_ | refine W_block ?_ | refine And.intro (by omega) ?_ | simp (maxSteps := 1000000) (disch := omega) only [cA, cB, cN, FnD.nb, lk, lkH, Dst.onT, Dst.onX, Dst.slot, setF, setH, mapF, mapH, initF, binE, unE, cnt, boundE, newsE, freshE, freshT, opE, rmH, blkQ, frz_us, Nat.reduceEqDiff, Nat.reduceLT, Nat.reduceAdd, Nat.reduceMul, Nat.reduceMod, ↓reduceIte, reduceCtorEq, Nat.reduceLeDiff, cS, rfm_nil, rfm_str, hA1])
 refine W_loop (σ := Nat) (fun i => [(97, .sl 1 [.str A, .str S, .str T, .str (A ++ [10])]), (98, .int .i64 4), (99, .int .i64 i)]) (fun _ => []) (fun i => i ≤ 4) (fun i => 4 - i) 0 (Nat.zero_le _) ?_ rfl ?_
 ·simp [subF, lk]
 ·rintro i hi
  try simp only at hi ⊢
  by_cases hlt : i < 4
  ·have dl : decide ((i : Int) < 4) = true := decide_eq_true (by omega)
   have ei : (i : Int).toNat = i := Int.toNat_natCast i
   have e1 : ((i : Int) + 1) = ((i + 1 : Nat) : Int) := by omega
   obtain ⟨u, hgi, hu⟩ : ∃ u, [DV.str A, DV.str S, DV.str T, DV.str (A ++ [10])].getD i .undef = .str u ∧ u.length ≤ 450 := by
    match i, hlt with
    | 0, _ => exact ⟨A, rfl, by omega⟩
    | 1, _ => exact ⟨S, rfl, hS⟩
    | 2, _ => exact ⟨T, rfl, hT⟩
    | 3, _ => exact ⟨A ++ [10], rfl, by rw [List.length_append, List.length_singleton]; omega⟩
   have p1 := rpReadTest_calls u hu
   have p2 := reReadTest_calls u hu
   have ps := reSame_calls (rdX u) (rdX_len u) (rdX_RB hu)
   rw [rdR_eq] at p1 p2
   have hcc := rdC_cells u
   have hcl := rdC_len u
   have hnz := rdC_nz u
   have hrf := rdC_rf u
   have hra := rdC_rfall u
   have hx18 : (xcs ((rdX u).map xq)).length = 18 := by rw [xcs_len, List.length_map, rdX_len]
   have ht18 : (xcs ((rdX u).map xq)).take 18 = xcs ((rdX u).map xq) := List.take_of_length_le (by omega)
   have dt : decide (¬ True) = false := decide_eq_false (fun h => h trivial)
   have hl4 : ([DV.str A, DV.str S, DV.str T, DV.str (A ++ [10])]).length = 4 := rfl
   have hst := z18_st (rdCs u)
   unfold z18 at hst
   have rfp : List.all [DV.agg (xcs ((rdX u).map xq)), DV.agg (xcs ((rdX u).map xq))] DV.rf = true := by rw [List.all_cons, List.all_cons, xcs_agg]; rfl
   generalize rdCs u = C at *
   generalize rdN u = N at *
   generalize xcs ((rdX u).map xq) = X at *
   repeat (first | refine W_seq ?_ | refine W_reg ?_ | refine W_regd ?_ | refine W_regs ?_ | refine W_regp ?_ | refine W_block ?_ | refine And.intro (by omega) ?_ | simp (maxSteps := 1000000) (disch := omega) only [cA, cB, cN, FnD.nb, lk, lkH, Dst.onT, Dst.onX, Dst.slot, setF, setH, mapF, mapH, initF, binE, unE, cnt, boundE, newsE, freshE, freshT, opE, rmH, blkQ, frz_us, Nat.reduceEqDiff, Nat.reduceLT, Nat.reduceAdd, Nat.reduceMul, Nat.reduceMod, ↓reduceIte, reduceCtorEq, Nat.reduceLeDiff, dl])
   refine wTs ?_
   repeat (first | refine W_seq ?_ | refine W_reg ?_ | refine W_regd ?_ | refine W_regs ?_ | refine W_regp ?_ | refine W_block ?_ | refine And.intro (by omega) ?_ | simp (maxSteps := 1000000) (disch := omega) only [cA, cB, cN, FnD.nb, lk, lkH, Dst.onT, Dst.onX, Dst.slot, setF, setH, mapF, mapH, initF, binE, unE, cnt, boundE, newsE, freshE, freshT, opE, rmH, blkQ, frz_us, Nat.reduceEqDiff, Nat.reduceLT, Nat.reduceAdd, Nat.reduceMul, Nat.reduceMod, ↓reduceIte, reduceCtorEq, Nat.reduceLeDiff, ei, hgi, hl4])
   refine cP p1 ?_
   repeat (first | refine W_seq ?_ | refine W_reg ?_ | refine W_regd ?_ | refine W_regs ?_ | refine W_regp ?_ | refine W_block ?_ | refine And.intro (by omega) ?_ | simp (maxSteps := 1000000) (disch := omega) only [cA, cB, cN, FnD.nb, lk, lkH, Dst.onT, Dst.onX, Dst.slot, setF, setH, mapF, mapH, initF, binE, unE, cnt, boundE, newsE, freshE, freshT, opE, rmH, blkQ, frz_us, Nat.reduceEqDiff, Nat.reduceLT, Nat.reduceAdd, Nat.reduceMul, Nat.reduceMod, ↓reduceIte, reduceCtorEq, Nat.reduceLeDiff, hcc, hcl, hst])
   refine cP p2 ?_
   simp (maxSteps := 1000000) (disch := omega) only [cA, cB, cN, FnD.nb, lk, lkH, Dst.onT, Dst.onX, Dst.slot, setF, setH, mapF, mapH, initF, binE, unE, cnt, boundE, newsE, freshE, freshT, opE, rmH, blkQ, frz_us, Nat.reduceEqDiff, Nat.reduceLT, Nat.reduceAdd, Nat.reduceMul, Nat.reduceMod, ↓reduceIte, reduceCtorEq, Nat.reduceLeDiff, hcc, hcl, hst]
   repeat refine And.intro (by omega) ?_
   refine W_hnz 14 1 rfl ?_
   refine W_hnz 16 1 rfl ?_
   refine zE hnz ?_
   refine zS (zA dt (zA hx18 (zA ht18 @List.drop_zero.{0}))) ?_
   refine callC_pure ps rfp ?_
   refine zR ?_
   refine wFs ?_
   refine zD ?_
   refine W_freeze 14 (cells := X) rfl hra ?_
   have hfx := map_frz 14 X (List.all_eq_true.1 hra)
   refine zE hfx ?_
   refine W_freeze 16 (cells := X) rfl hra ?_
   simp (maxSteps := 1000000) (disch := omega) only [cA, cB, cN, FnD.nb, lk, lkH, Dst.onT, Dst.onX, Dst.slot, setF, setH, mapF, mapH, initF, binE, unE, cnt, boundE, newsE, freshE, freshT, opE, rmH, blkQ, frz_us, Nat.reduceEqDiff, Nat.reduceLT, Nat.reduceAdd, Nat.reduceMul, Nat.reduceMod, ↓reduceIte, reduceCtorEq, Nat.reduceLeDiff]
   repeat (first | refine W_seq ?_ | refine W_reg ?_ | refine W_regd ?_ | refine W_regs ?_ | refine W_regp ?_ | refine W_block ?_ | refine And.intro (by omega) ?_ | simp (maxSteps := 1000000) (disch := omega) only [cA, cB, cN, FnD.nb, lk, lkH, Dst.onT, Dst.onX, Dst.slot, setF, setH, mapF, mapH, initF, binE, unE, cnt, boundE, newsE, freshE, freshT, opE, rmH, blkQ, frz_us, Nat.reduceEqDiff, Nat.reduceLT, Nat.reduceAdd, Nat.reduceMul, Nat.reduceMod, ↓reduceIte, reduceCtorEq, Nat.reduceLeDiff, e1])
   exact ⟨i + 1, hlt, by omega, by simp [subF, lk]⟩
  ·have dl : decide ((i : Int) < 4) = false := decide_eq_false (by omega)
   have aw := lr_awake_calls
   refine zS dl ?_
   refine W_cond rfl (fun h => by cases h) (fun _ => W_exit ?_)
   repeat (first | refine zP ?_ | refine cP aw ?_ | exact zT)
theorem lrTests_calls (l : List Int) (hl : l.length ≤ 9223372036854775807) (ys : List XR) (hy : ys.length = 6) (hys : ∀ y ∈ ys, lim y.2.1 ∧ lim y.2.2 ∧ y.2.1.length ≤ 9223372036854775807 ∧ y.2.2.length ≤ 9223372036854775807) (s : Bs) (hs : s.length ≤ 9223372036854775807) :
  PCalls Tryz.prog 3 [.sl 1 (l.map (.int .i64)), .agg (xcs ys), .str s] (.bool true) := by
 have aw := lr_awake_calls
 have cm := mdLightList_calls ys 6 (by omega) (by decide)
 have hc := xcs_cells ys
 have hne : xcs ys ≠ [] := fun e => by have := xcs_len ys; rw [e, hy] at this; cases this
 have hx18 : (xcs ys).length = 18 := by rw [xcs_len]; omega
 have hrf : ∀ d ∈ xcs ys, d.rf = true := xcs_rf ys
 have g0 := xcs_get ys 0 (by omega)
 have g1 := xcs_get ys 1 (by omega)
 have g2 := xcs_get ys 2 (by omega)
 have g3 := xcs_get ys 3 (by omega)
 have g4 := xcs_get ys 4 (by omega)
 have g5 := xcs_get ys 5 (by omega)
 simp only [Nat.reduceMul] at g0 g1 g2 g3 g4 g5
 have hla : laid [.bool false, .nils, .nils, .bool false, .nils, .nils, .bool false, .nils, .nils, .bool false, .nils, .nils, .bool false, .nils, .nils, .bool false, .nils, .nils] [(0, 3, .agg (xc (ys.getD 0 (false, [], [])))), (3, 3, .agg (xc (ys.getD 1 (false, [], [])))), (6, 3, .agg (xc (ys.getD 2 (false, [], [])))), (9, 3, .agg (xc (ys.getD 3 (false, [], [])))), (12, 3, .agg (xc (ys.getD 4 (false, [], [])))), (15, 3, .agg (xc (ys.getD 5 (false, [], []))))] = some (xcs ys) := by
  obtain ⟨a, b, c, d, e, f, rfl⟩ := six_xs hy
  exact laid18 a b c d e f
 refine PCalls_of islrTests (by simp [fnlrTests]) ?_
 unfold codelrTests
 refine W_seq ?_
 refine W_reg ?_
 refine zE hc ?_
 by_cases h400 : 400 < s.length
 ·have d1 : decide ((400 : Int) < (s.length : Int)) = true := decide_eq_true (by omega)
  refine zS d1 ?_
  refine wT ?_
  refine zR ?_
  refine cP aw ?_
  refine zR ?_
  exact W_ret (RetP_1 (.imm rfl))
 ·have d1 : decide ((400 : Int) < (s.length : Int)) = false := decide_eq_false (by omega)
  cases hli : (decide (ys.length ≤ 6) && ys.all fun x => lightB x.2.1 x.2.2)
  ·rw [hli] at cm
   refine zS (zA d1 (zA g0 (zA g1 (zA g2 (zA g3 (zA g4 (zA g5 (zA hx18 hla)))))))) ?_
   refine callC_pure cm (by simp [List.all_cons, DV.rf]) ?_
   refine zR ?_
   refine wT ?_
   refine zR ?_
   refine cP aw ?_
   refine zR ?_
   exact W_ret (RetP_1 (.imm rfl))
  ·rw [hli] at cm
   refine zS (zA d1 (zA g0 (zA g1 (zA g2 (zA g3 (zA g4 (zA g5 (zA hx18 hla)))))))) ?_
   refine callC_pure cm (by simp [List.all_cons, DV.rf]) ?_
   refine zR ?_
   refine wFs ?_
   clear hla g0 g1 g2 g3 g4 g5 cm
   have hly : ∀ y ∈ ys, okx 800 y := fun y h => by
    have h1 := hys y h
    have h2 := lightB_spec (List.all_eq_true.1 (Bool.and_eq_true_iff.1 hli).2 y h)
    exact ⟨h1.1, h1.2.1, by omega, by omega⟩
   refine zR ?_
   refine callC_new1 40 (wNew_calls l hl) rfl (by decide) (by decide) (by decide) (by simp [lkH]) (by simp [DV.rf]) fun c0 hc0 ht0 => ?_
   refine zR ?_
   refine callC_lend1 40 (wOdd_calls c0 ht0) rfl (by simp [lkH, setH]) hc0 (by simp [rn, fwd1]) fun r c1 hr hc1 hQ => ?_
   obtain ⟨ht1, x0, hx0, rfl⟩ := hQ
   refine zR ?_
   refine callC_lend1 40 (wRat_calls c1 ht1) rfl (by simp [lkH, setH]) hc1 (by simp [rn, fwd1]) fun r c2 hr hc2 hQ => ?_
   obtain ⟨ht2, q1, hx1, rfl⟩ := hQ
   replace hx1 := smX_xq hx1
   generalize xq q1 = x1 at *
   refine zR ?_
   refine callC_lend1 40 (wOdd_calls c2 ht2) rfl (by simp [lkH, setH]) hc2 (by simp [rn, fwd1]) fun r c3 hr hc3 hQ => ?_
   obtain ⟨ht3, x2, hx2, rfl⟩ := hQ
   refine zR ?_
   refine callC_lend1 40 (wLevel_calls c3 ht3) rfl (by simp [lkH, setH]) hc3 (by simp [rn, fwd1]) fun r c4 hr hc4 hQ => ?_
   obtain ⟨ht4, x3, hx3, rfl⟩ := hQ
   refine zR ?_
   refine callC_lend1 40 (wLevel_calls c4 ht4) rfl (by simp [lkH, setH]) hc4 (by simp [rn, fwd1]) fun r c5 hr hc5 hQ => ?_
   obtain ⟨ht5, x4, hx4, rfl⟩ := hQ
   refine zR ?_
   refine callC_lend1 40 (wRat_calls c5 ht5) rfl (by simp [lkH, setH]) hc5 (by simp [rn, fwd1]) fun r c6 hr hc6 hQ => ?_
   obtain ⟨ht6, q5, hx5, rfl⟩ := hQ
   replace hx5 := smX_xq hx5
   generalize xq q5 = x5 at *
   have hla := laid18 x0 x1 x2 x3 x4 x5
   unfold z18 at hla
   have hsm : ∀ x ∈ [x0, x1, x2, x3, x4, x5], smX x := by
    intro x hx
    simp only [List.mem_cons, List.not_mem_nil, or_false] at hx
    rcases hx with rfl | rfl | rfl | rfl | rfl | rfl <;> assumption
   have hl6 : [x0, x1, x2, x3, x4, x5].length = 6 := rfl
   generalize [x0, x1, x2, x3, x4, x5] = xs at *
   have hxc := xcs_cells xs
   have hx18' : (xcs xs).length = 18 := by rw [xcs_len]; omega
   have ht18 : (xcs xs).take 18 = xcs xs := List.take_of_length_le (by omega)
   have hok : ∀ x ∈ xs, okx 800 x := fun x hx => by
    obtain ⟨a, b, c, d⟩ := (hsm x hx).ok
    exact ⟨a, b, by omega, by omega⟩
   have cr := rpTest_calls xs hl6 hok
   have ce := reTest_calls xs hl6 hok
   have cr2 := rpTest_calls ys hy hly
   have ce2 := reTest_calls ys hy hly
   have htl := tpre_sm hsm hl6 6 (Nat.le_refl _)
   change (tst (xs.map xv)).length ≤ 6 * 40 at htl
   generalize tst (xs.map xv) = t at *
   generalize tst (ys.map xv) = t2 at *
   refine zS (zA hla (zA hxc (zA hx18' (zA ht18 @cS)))) ?_
   have rfx : List.all [DV.agg (xcs xs)] DV.rf = true := by rw [List.all_cons, xcs_agg]; rfl
   have rfy : List.all [DV.agg (xcs ys)] DV.rf = true := by rw [List.all_cons, xcs_agg]; rfl
   have ht18y : (xcs ys).take 18 = xcs ys := List.take_of_length_le (by omega)
   have dt : decide (¬ True) = false := decide_eq_false (fun h => h trivial)
   refine callC_pure cr rfx ?_
   refine zS (zA hx18' (zA ht18 @List.drop_zero.{0})) ?_
   refine callC_pure ce rfx ?_
   refine zS (zA dt (zA hx18 (zA ht18y @List.drop_zero.{0}))) ?_
   refine callC_pure cr2 rfy ?_
   refine zS (zA hx18 (zA ht18y @List.drop_zero.{0})) ?_
   refine callC_pure ce2 rfy ?_
   refine zS dt ?_
   refine wFs ?_
   have hfin : ∀ (c : List DV), (∀ d ∈ c, d.rf = true) → ∀ S : Bs, S.length ≤ 450 → ∀ fr : Fr, subF fr [(2, .str s), (4, .ptr 4 0), (7, .ptr 40 0), (8, .ptr 8 0), (9, .str t), (10, .str S)] → W fnlrTests ltT (RetP reslrTests (.bool true)) fr [(4, xcs ys), (8, xcs xs), (40, c)] := fun c hc S hS fr hf => by
    refine W_sub hf ?_
    refine W_freeze 4 (cells := xcs ys) rfl (List.all_eq_true.2 (xcs_rf ys)) ?_
    have f1 := map_frz 4 (xcs ys) (xcs_rf xs)
    have f2 := map_frz 4 (xcs ys) hc
    refine zE (zA f1 f2) ?_
    refine W_freeze 8 (cells := xcs xs) rfl (List.all_eq_true.2 (xcs_rf xs)) ?_
    have f3 := map_frz 8 (xcs xs) hc
    refine zE f3 ?_
    refine W_freeze 40 (cells := c) rfl (List.all_eq_true.2 hc) ?_
    refine zD ?_
    exact W_sub (by simp [subF, lk, frz, purge, DV.has]) (tstTail t S s (by omega) hS (by omega))
   unfold ltT codelrTests at hfin
   dsimp only [dSeq2] at hfin
   by_cases h0 : 0 < t.length
   ·have d0 : decide ((0 : Int) < (t.length : Int)) = true := decide_eq_true (by omega)
    have cn := wNext_calls c6 t.length ht6 (by omega)
    refine zS d0 ?_
    refine wT ?_
    refine zR ?_
    refine callC_lend1 40 cn rfl (by simp [lkH, setH]) hc6 (by simp [rn, fwd1]) fun q c7 hq7 hc7 hQ => ?_
    obtain ⟨ht7, k, hk, rfl⟩ := hQ
    refine zD ?_
    refine W_regdT ?_
    have hk1 : k < t.length := by omega
    have ek : (k : Int).toNat = k := Int.toNat_natCast k
    have hkl : (k : Int) ≤ (t.length : Int) := by omega
    have htk : (t.take k).length ≤ 30000 := by rw [List.length_take]; omega
    repeat (first | (refine And.intro (by omega) ?_) | (refine regWT_op rfl (by decide) ?_) | refine zE (zA @contT_go (zA @regWT_call (zA ek @List.drop_zero.{0}))) ?_)
    refine callTW_of 40 (wNext_calls c7 5 ht7 (by decide)) (by simp [lkH, setH]) ht7.rf (by simp [rn, fwd1]) (drawQ_any 5 ht7) fun q c8 hq8 hc8 hQ => ?_
    obtain ⟨ht8, z, hz, rfl⟩ := hQ
    have hz5 : z < 5 := by omega
    have hzb : bytesOf [.int .u8 ((47 : Int) + (z : Int))] = some [UInt8.ofNat (47 + z)] := by
     have : ((47 : Int) + (z : Int)).toNat = 47 + z := by omega
     simp [Dat.bytesOf, Dat.byteOf, this]
    repeat (first | (refine And.intro (by omega) ?_) | (refine regWT_op rfl (by decide) ?_) | refine zE (zA @contT_go (zA @regWT_call (zA ek (zA @List.drop_zero.{0} (zA @cS (zA @rfm_nil (zA @rfm_int hzb))))))) ?_)
    refine callTW_of 40 (wNext_calls c8 2 ht8 (by decide)) (by simp [lkH, setH]) ht8.rf (by simp [rn, fwd1]) (drawQ_any 2 ht8) fun q c9 hq9 hc9 hQ => ?_
    obtain ⟨ht9, y, hy2, rfl⟩ := hQ
    have hy3 : y < 2 := by omega
    have eky : ((k : Int) + (y : Int)).toNat = k + y := by omega
    have hky : (k : Int) + (y : Int) ≤ (t.length : Int) := by omega
    have hta : (t.take t.length).drop (k + y) = t.drop (k + y) := by rw [List.take_length]
    have hdl : (t.drop (k + y)).length ≤ 30000 := by rw [List.length_drop]; omega
    repeat (first | (refine And.intro (by omega) ?_) | (refine regWT_op rfl (by decide) ?_) | refine zE (zA @contT_go (zA @regWT_call (zA eky hta))) ?_)
    have hSl : ((t.take k ++ [UInt8.ofNat (47 + z)]) ++ t.drop (k + y)).length ≤ 450 := by
     rw [List.length_append, List.length_append, List.length_singleton, List.length_take, List.length_drop]; omega
    refine And.intro (by rw [List.length_append, List.length_singleton]; omega) ?_
    refine regWT_op rfl (by decide) ?_
    refine zE (zA @contT_go @regWT_nil) ?_
    exact hfin c9 hc9 _ hSl _ (by simp [subF, lk])
   ·have d0 : decide ((0 : Int) < (t.length : Int)) = false := decide_eq_false (by omega)
    refine zS d0 ?_
    refine wFs ?_
    refine zD ?_
    exact hfin c6 hc6 t (by omega) _ (by simp [subF, lk])
end Go.Proofs.YtjfedgpbedppeaaGreatDoor
namespace Go.Proofs.YtjfedgpbedppeaaGreatDoor
open Go Go.Dat Go.Proofs Go.RowKit Nat32
theorem law_of {f : Nat} {ds : List DV} {vs : Array Value} {w : World} (hc : PCalls Tryz.prog f ds (.bool true)) (hT : Tab Tryz.prog w) (hs : vs.size = ds.length) (hv : ∀ (k : Nat) d v, ds[k]? = some d → vs[k]? = some v → VI w (fun _ => False) d v) :
  Calls Tryz.prog f vs w fun e w' => e = .returned (.bool true) ∧ Below w.heap.size w w' := by
 refine (hc (fun _ => False) w vs hT (fun b h => h.elim) hs hv).mono ?_
 rintro e w' ⟨v, rfl, hvi, hx⟩
 refine ⟨?_, hx.os, hx.tape, hx.output, hx.size, fun k hk => hx.block k hk id⟩
 cases hvi; rfl
theorem max_shaped {w : World} (h : w.ShapedOpen Tryz.prog) : ∀ g, Tryz.prog.globalNamed maxName = some g → g < w.heap.size ∧ ∃ m, w.cell? ⟨g, 0, none⟩ = some (.int .i64 m) := by
 intro g hg
 rw [show Tryz.prog.globalNamed maxName = some 1 by kernel_rfl] at hg
 cases hg
 obtain ⟨m, hm⟩ := Go.Proofs.cell_of_shapedOpen_int (zero := #[.int .i64 0]) (t := 3) (g := 1) h (of_decide_eq_true (by kernel_rfl)) (by kernel_rfl) rfl (by kernel_rfl) (by kernel_rfl) Tryz.underlying3
 exact ⟨World.block_lt_of_cell? w _ hm, m, hm⟩
theorem handed_and_shaped {H : Type} {enc : TypeId × Value → H} {a : Assume} {C : Checked} {os : Os} {f : FuncId} {fn : Func} {s : ChangeSpec} {conds : List PathCond} {apart fresh handsOn again : Bool} {X : World → Array Value → Prop}
  (hX : ∀ (w w' : World) (args : Array Value), w.heap = w'.heap → X w args → X w' args)
  (own : ownKnob C.prog.godebug = none) (started : os.Started) (noInit : C.prog.inits.idxOf? f = none) (hfn : C.prog.funcs[f]? = some fn)
  (witness : ∃ (w : World) (tape : Tape) (i : Input), w.os = os ∧ (w.forCall tape i).Shaped C.prog ∧ i.vars = [] ∧ Input.okWide C.prog (w.forCall tape i) .any w.heap.size f i ∧
   ((s.pre enc C.prog fn conds apart (w.forCall tape i).memory i.args ∧ X (w.forCall tape i).memory i.args) ∧ sizedMet enc C.prog fn (OpenSpec.ofChange s) apart (w.forCall tape i).memory i.args) ∧ a.holds C.prog (lone (Frame.enter C.prog f i.args .normal) [] (w.forCall tape i)))
  (contract : ∀ (W : World) (base : Nat) (args : Array Value) (ds gs : List (DataW H)) (before : List MemPlace),
   (∀ (j : Nat) t v, fn.params[j]? = some t → args[j]? = some v → Value.okWide C.prog W .any base t v) →
   DataW.Whole enc C.prog fn.params.toList s.vars apart W args.toList ds gs before → X W args → W.ShapedOpen C.prog →
   Calls C.prog f args W fun e W' => ∃ v, e = .returned v ∧ s.post enc C.prog fn apart fresh handsOn again W args v W') :
  ReturnsInHanded a C os f .any (fun w args => (s.pre enc C.prog fn conds apart w args ∧ X w args) ∧ sizedMet enc C.prog fn (OpenSpec.ofChange s) apart w args) (s.post enc C.prog fn apart fresh handsOn again) := by
 refine returnsInHanded_of_calls own started noInit witness ?_
 intro w tape i _ hsh _ hok hpre _
 obtain ⟨_, _, _, fn', hfn', _, _, _, _, hval⟩ := hok
 obtain rfl : fn' = fn := Option.some.inj (hfn'.symm.trans hfn)
 obtain ⟨⟨⟨ds, gs, before, hw, _⟩, hx⟩, _⟩ := hpre
 refine (contract (w.forCall tape i) w.heap.size i.args ds gs before hval (DataW.Whole.of_heap (w' := w.forCall tape i) (by rfl) hw) (hX _ _ _ (by rfl) hx) hsh).mono ?_
 rintro e W' ⟨v, rfl, hp⟩
 exact ChangeSpec.post_blind hp
theorem rat_xc {ds : List DV} (h : IsD ratT ds) : ∃ y : XR, lim y.2.1 ∧ lim y.2.2 ∧ y.2.1.length ≤ 9223372036854775807 ∧ y.2.2.length ≤ 9223372036854775807 ∧ ds = xc y := by
 obtain ⟨neg, a, d, h1, h2, h3, h4, rfl⟩ := h.rat
 exact ⟨(neg, a, d), h1, h2, h3, h4, rfl⟩
theorem rats_xcs {zs : List (List DV)} (h : ∀ z ∈ zs, IsD ratT z) : ∃ ys : List XR, ys.length = zs.length ∧ zs.flatten = xcs ys ∧ ∀ y ∈ ys, lim y.2.1 ∧ lim y.2.2 ∧ y.2.1.length ≤ 9223372036854775807 ∧ y.2.2.length ≤ 9223372036854775807 := by
 induction zs with
 | nil => exact ⟨[], rfl, rfl, fun y h => by cases h⟩
 | cons z zs ih =>
  obtain ⟨ys, h1, h2, h3⟩ := ih fun z hz => h z (by simp [hz])
  obtain ⟨y, g1, g2, g3, g4, rfl⟩ := rat_xc (h z (by simp))
  refine ⟨y :: ys, by simp [h1], by rw [List.flatten_cons, h2]; rfl, fun x hx => ?_⟩
  rcases List.mem_cons.1 hx with rfl | hx
  ·exact ⟨g1, g2, g3, g4⟩
  ·exact h3 x hx
def testR : Ty := .pair ratT (.pair ratT (.pair ratT (.pair ratT (.pair ratT .unit))))
def testT : Ty := .pair ratT testR
theorem test_xcs {ds : List DV} (h : IsD testT ds) : ∃ ys : List XR, ys.length = 6 ∧ ds = xcs ys ∧ ∀ y ∈ ys, lim y.2.1 ∧ lim y.2.2 ∧ y.2.1.length ≤ 9223372036854775807 ∧ y.2.2.length ≤ 9223372036854775807 := by
 obtain ⟨d0, r0, h0, ⟨d1, r1, h1, ⟨d2, r2, h2, ⟨d3, r3, h3, ⟨d4, r4, h4, ⟨d5, r5, h5, hu, rfl⟩, rfl⟩, rfl⟩, rfl⟩, rfl⟩, rfl⟩ := h
 rw [show r5 = [] from hu]
 obtain ⟨ys, g1, g2, g3⟩ := rats_xcs (zs := [d0, d1, d2, d3, d4, d5]) fun z hz => by
  simp only [List.mem_cons, List.not_mem_nil, or_false] at hz
  rcases hz with rfl | rfl | rfl | rfl | rfl | rfl <;> assumption
 exact ⟨ys, g1, by rw [← g2]; simp, g3⟩
end Go.Proofs.YtjfedgpbedppeaaGreatDoor
