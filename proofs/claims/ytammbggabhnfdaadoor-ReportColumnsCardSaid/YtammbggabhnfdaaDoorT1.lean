/- Lemmas of the walk; no conditions beyond those that each states. -/
import Derived.Shelf.Strings.Builder1
import Derived.Shelf.Strings.Builder2
import Derived.Shelf.Strings.BuilderF
import Derived.Shelf.Strings.BuilderK
import Derived.Shelf.Utf8.RuneCount
import Derived.Shelf.Strings.Builder2Cap
import Derived.Shelf.Strings.Search1
import Derived.Shelf.Strings.Search2
import Derived.Shelf.Strings.Search3
import Derived.Shelf.Strings.Count
import Derived.Shelf.LaysM
import Derived.Shelf.Strings.Shaped
import Derived.Shelf.Strings.Prefix
import Derived.Shelf.Strings.Split
import Derived.Shelf.Strings.SplitShaped
import Derived.Shelf.Unicode.Decode
import Derived.Shelf.Strings.RuneCount
import Derived.Shelf.Strings.Explode
import Derived.Shelf.Bits.Mul64
import Derived.Shelf.Strings.Repeat
import Derived.Shelf.Unicode.DecodeSlow
import Derived.Shelf.Unicode.DecodeAny
import Derived.Shelf.Strings.BuilderCap
import Derived.Test.YtammbggabhnfdaaDoorProg
import Derived.Test.YtammbggabhnfdaaDoorC1
import Derived.Test.YtammbggabhnfdaaDoorN1
import Derived.Test.YtammbggabhnfdaaDoorD2
set_option linter.unusedSimpArgs false
set_option linter.unusedVariables false
set_option linter.unnecessarySimpa false
namespace Go.Proofs
open Go.Shelf
def Tryd.lays169_ren : Go.Shelf.Ren := ⟨fun | 169 => 21 | n => n, fun | 70 => 45 | 9 => 9 | 0 => 0 | 72 => 47 | 37 => 35 | 127 => 66 | 3 => 3 | 5 => 5 | n => n, fun | n => n⟩
theorem Tryd.lays169 : Go.Proofs.Lays.n169 Tryd.prog Tryd.lays169_ren := {
  mixed := by kernel_rfl
  f169 := Tryd.func21.trans (congrArg some (by kernel_rfl))
  t0 := Tryd.underlying0
  a0 := Tryd.isAgg0
  z0 := Tryd.sizeOf0
  v0 := Tryd.zeroValue0
  t3 := Tryd.underlying3
  a3 := Tryd.isAgg3
  z3 := Tryd.sizeOf3
  v3 := Tryd.zeroValue3
  t9 := Tryd.underlying9
  a9 := Tryd.isAgg9
  z9 := Tryd.sizeOf9
  v9 := Tryd.zeroValue9
  t37 := Tryd.underlying35
  a37 := Tryd.isAgg35
  z37 := Tryd.sizeOf35
  v37 := Tryd.zeroValue35
  t70 := Tryd.underlying45
  a70 := Tryd.isAgg45
  z70 := Tryd.sizeOf45
  v70 := Tryd.zeroValue45
  t72 := Tryd.underlying47
  a72 := Tryd.isAgg47
  z72 := Tryd.sizeOf47
  v72 := Tryd.zeroValue47
  t127 := Tryd.underlying66
  a127 := Tryd.isAgg66
  z127 := Tryd.sizeOf66
  v127 := Tryd.zeroValue66 }
theorem Tryd.Builder_Extra_169 : Builder.Extra Tryd.prog Tryd.lays169_ren := {
  sizeBuilder := by kernel_rfl
  liesBuilder := by kernel_rfl
  t5 := Tryd.underlying5
  a5 := Tryd.isAgg5
  z5 := Tryd.sizeOf5
  v5 := Tryd.zeroValue5
  infoByte := by kernel_rfl
  cellsByte := by kernel_rfl
  sizeByte := by kernel_rfl
  neB5 := by decide }
open Go.RowKit in
theorem Tryd.Builder_String_any_f (B b : Nat) (l : List UInt8) (w : World) (h : Lib.IsBuilderF 47 5 B b (Lib.byteCells l) w) (hBw : B ≤ w.heap.size) :
    Calls Tryd.prog 21 #[.pointer (some ⟨b, 0, none⟩)] w fun e w' => e = .returned (.string ⟨l.toArray⟩) ∧ (Lib.IsBuilderF 47 5 B b (Lib.byteCells l) w' ∧ Below B w w') := Any.Builder_String_any_f Tryd.lays169 Tryd.Builder_Extra_169 B b l w h hBw
def Tryd.lays100_ren : Go.Shelf.Ren := ⟨fun | 100 => 32 | 207 => 39 | n => n, fun | 9 => 9 | 4 => 4 | 3 => 3 | n => n, fun | n => n⟩
theorem Tryd.lays100 : Go.Proofs.Lays.n100 Tryd.prog Tryd.lays100_ren := {
  mixed := by kernel_rfl
  f100 := Tryd.func32.trans (congrArg some (by kernel_rfl))
  f207 := Tryd.func39.trans (congrArg some (by kernel_rfl))
  t3 := Tryd.underlying3
  a3 := Tryd.isAgg3
  z3 := Tryd.sizeOf3
  v3 := Tryd.zeroValue3
  t4 := Tryd.underlying4
  a4 := Tryd.isAgg4
  z4 := Tryd.sizeOf4
  v4 := Tryd.zeroValue4
  t9 := Tryd.underlying9
  a9 := Tryd.isAgg9
  z9 := Tryd.sizeOf9
  v9 := Tryd.zeroValue9 }
open Go.RowKit Go.Lib in
theorem Tryd.strings_HasSuffix (s p : ByteArray) (w : World) (hs : s.size ≤ 9223372036854775807) :
    Calls Tryd.prog 32 #[.string s, .string p] w fun e w' => e = .returned (.bool (Lib.hasSuffix s.data.toList p.data.toList)) ∧ w' = w := Any.strings_HasSuffix Tryd.lays100 s p w hs
def Tryd.lays146_ren : Go.Shelf.Ren := ⟨fun | 146 => 24 | 221 => 33 | 268 => 40 | 138 => 41 | 143 => 42 | 195 => 44 | 197 => 45 | 218 => 46 | 219 => 47 | 260 => 48 | 217 => 49 | 225 => 50 | 224 => 51 | 267 => 52 | 266 => 53 | 314 => 54 | n => n, fun | 9 => 9 | 31 => 29 | 3 => 3 | 4 => 4 | 0 => 0 | 105 => 80 | 21 => 21 | 5 => 5 | 46 => 60 | 119 => 83 | 139 => 86 | 138 => 85 | 146 => 71 | 51 => 70 | n => n, fun | 1 => 0 | 3 => 1 | 4 => 2 | n => n⟩
theorem Tryd.lays146 : Go.Proofs.Lays.n146 Tryd.prog Tryd.lays146_ren := {
  mixed := by kernel_rfl
  f138 := Tryd.func41.trans (congrArg some (by kernel_rfl))
  f143 := Tryd.func42.trans (congrArg some (by kernel_rfl))
  f146 := Tryd.func24.trans (congrArg some (by kernel_rfl))
  f195 := Tryd.func44.trans (congrArg some (by kernel_rfl))
  f197 := Tryd.func45.trans (congrArg some (by kernel_rfl))
  f217 := Tryd.func49.trans (congrArg some (by kernel_rfl))
  f218 := Tryd.func46.trans (congrArg some (by kernel_rfl))
  f219 := Tryd.func47.trans (congrArg some (by kernel_rfl))
  f221 := Tryd.func33.trans (congrArg some (by kernel_rfl))
  f224 := Tryd.func51.trans (congrArg some (by kernel_rfl))
  f225 := Tryd.func50.trans (congrArg some (by kernel_rfl))
  f260 := Tryd.func48.trans (congrArg some (by kernel_rfl))
  f266 := Tryd.func53.trans (congrArg some (by kernel_rfl))
  f267 := Tryd.func52.trans (congrArg some (by kernel_rfl))
  f268 := Tryd.func40.trans (congrArg some (by kernel_rfl))
  f314 := Tryd.func54.trans (congrArg some (by kernel_rfl))
  t0 := Tryd.underlying0
  a0 := Tryd.isAgg0
  z0 := Tryd.sizeOf0
  v0 := Tryd.zeroValue0
  t3 := Tryd.underlying3
  a3 := Tryd.isAgg3
  z3 := Tryd.sizeOf3
  v3 := Tryd.zeroValue3
  t4 := Tryd.underlying4
  a4 := Tryd.isAgg4
  z4 := Tryd.sizeOf4
  v4 := Tryd.zeroValue4
  t5 := Tryd.underlying5
  a5 := Tryd.isAgg5
  z5 := Tryd.sizeOf5
  v5 := Tryd.zeroValue5
  t9 := Tryd.underlying9
  a9 := Tryd.isAgg9
  z9 := Tryd.sizeOf9
  v9 := Tryd.zeroValue9
  t21 := Tryd.underlying21
  a21 := Tryd.isAgg21
  z21 := Tryd.sizeOf21
  v21 := Tryd.zeroValue21
  t31 := Tryd.underlying29
  a31 := Tryd.isAgg29
  z31 := Tryd.sizeOf29
  v31 := Tryd.zeroValue29
  t46 := Tryd.underlying60
  a46 := Tryd.isAgg60
  z46 := Tryd.sizeOf60
  v46 := Tryd.zeroValue60
  t51 := Tryd.underlying70
  a51 := Tryd.isAgg70
  z51 := Tryd.sizeOf70
  v51 := Tryd.zeroValue70
  t105 := Tryd.underlying80
  a105 := Tryd.isAgg80
  z105 := Tryd.sizeOf80
  v105 := Tryd.zeroValue80
  t119 := Tryd.underlying83
  a119 := Tryd.isAgg83
  z119 := Tryd.sizeOf83
  t138 := Tryd.underlying85
  a138 := Tryd.isAgg85
  z138 := Tryd.sizeOf85
  v138 := Tryd.zeroValue85
  t139 := Tryd.underlying86
  a139 := Tryd.isAgg86
  z139 := Tryd.sizeOf86
  v139 := Tryd.zeroValue86
  t146 := Tryd.underlying71
  a146 := Tryd.isAgg71
  z146 := Tryd.sizeOf71
  v146 := Tryd.zeroValue71
  g1 := by kernel_rfl
  g3 := by kernel_rfl
  g4 := by kernel_rfl }
open Go.RowKit Go.Lib in
theorem Tryd.strings_Split (s sep : ByteArray) (m : Int) (w : World) (hs : s.size < 4294967281) (hm : w.cell? ⟨0, 0, none⟩ = some (.int .i64 m)) (h1 : 1 ≤ sep.size) :
    Calls Tryd.prog 24 #[.string s, .string sep] w fun e w' =>
      e = .returned (.slice (some ⟨w.heap.size, 0, none⟩) (Lib.countB s sep + 1) (Lib.countB s sep + 1)) ∧ w' = w.alloc (.cells ((Lib.splitB sep 0 (Lib.countB s sep) s).map Value.string).toArray 9) := Any.strings_Split Tryd.lays146 (by kernel_rfl) s sep m w hs hm h1
def Tryd.laysM146_ren : Go.Shelf.Ren := ⟨fun | 146 => 24 | 221 => 33 | 268 => 40 | 138 => 41 | 143 => 42 | 195 => 44 | 197 => 45 | 218 => 46 | 219 => 47 | 260 => 48 | 217 => 49 | 225 => 50 | 224 => 51 | 267 => 52 | 266 => 53 | 314 => 54 | n => n, fun | 9 => 9 | 31 => 29 | 3 => 3 | 4 => 4 | 0 => 0 | 105 => 80 | 21 => 21 | 5 => 5 | 46 => 60 | 119 => 83 | 139 => 86 | 138 => 85 | 146 => 71 | 51 => 70 | n => n, fun | 1 => 0 | 3 => 1 | 4 => 2 | n => n⟩
theorem Tryd.laysM146 : Go.Proofs.LaysM.n146 Tryd.prog Tryd.laysM146_ren := {
  mixed := by kernel_rfl
  f138 := Tryd.func41.trans (congrArg some (by kernel_rfl))
  f143 := Tryd.func42.trans (congrArg some (by kernel_rfl))
  f146 := Tryd.func24.trans (congrArg some (by kernel_rfl))
  f195 := Tryd.func44.trans (congrArg some (by kernel_rfl))
  f197 := Tryd.func45.trans (congrArg some (by kernel_rfl))
  f217 := Tryd.func49.trans (congrArg some (by kernel_rfl))
  f218 := Tryd.func46.trans (congrArg some (by kernel_rfl))
  f219 := Tryd.func47.trans (congrArg some (by kernel_rfl))
  f221 := Tryd.func33.trans (congrArg some (by kernel_rfl))
  f224 := Tryd.func51.trans (congrArg some (by kernel_rfl))
  f225 := Tryd.func50.trans (congrArg some (by kernel_rfl))
  f260 := Tryd.func48.trans (congrArg some (by kernel_rfl))
  f266 := Tryd.func53.trans (congrArg some (by kernel_rfl))
  f267 := Tryd.func52.trans (congrArg some (by kernel_rfl))
  f268 := Tryd.func40.trans (congrArg some (by kernel_rfl))
  f314 := Tryd.func54.trans (congrArg some (by kernel_rfl))
  t0 := Tryd.underlying0
  a0 := Tryd.isAgg0
  z0 := Tryd.sizeOf0
  v0 := Tryd.zeroValue0
  t3 := Tryd.underlying3
  a3 := Tryd.isAgg3
  z3 := Tryd.sizeOf3
  v3 := Tryd.zeroValue3
  t4 := Tryd.underlying4
  a4 := Tryd.isAgg4
  z4 := Tryd.sizeOf4
  v4 := Tryd.zeroValue4
  t5 := Tryd.underlying5
  a5 := Tryd.isAgg5
  z5 := Tryd.sizeOf5
  v5 := Tryd.zeroValue5
  t9 := Tryd.underlying9
  a9 := Tryd.isAgg9
  z9 := Tryd.sizeOf9
  v9 := Tryd.zeroValue9
  t21 := Tryd.underlying21
  a21 := Tryd.isAgg21
  z21 := Tryd.sizeOf21
  v21 := Tryd.zeroValue21
  t31 := Tryd.underlying29
  a31 := Tryd.isAgg29
  z31 := Tryd.sizeOf29
  v31 := Tryd.zeroValue29
  t46 := Tryd.underlying60
  a46 := Tryd.isAgg60
  z46 := Tryd.sizeOf60
  v46 := Tryd.zeroValue60
  t51 := Tryd.underlying70
  a51 := Tryd.isAgg70
  z51 := Tryd.sizeOf70
  v51 := Tryd.zeroValue70
  t105 := Tryd.underlying80
  a105 := Tryd.isAgg80
  z105 := Tryd.sizeOf80
  v105 := Tryd.zeroValue80
  t119 := Tryd.underlying83
  a119 := Tryd.isAgg83
  z119 := Tryd.sizeOf83
  t138 := Tryd.underlying85
  a138 := Tryd.isAgg85
  z138 := Tryd.sizeOf85
  v138 := Tryd.zeroValue85
  t139 := Tryd.underlying86
  a139 := Tryd.isAgg86
  z139 := Tryd.sizeOf86
  v139 := Tryd.zeroValue86
  t146 := Tryd.underlying71
  a146 := Tryd.isAgg71
  z146 := Tryd.sizeOf71
  v146 := Tryd.zeroValue71
  g1 := by kernel_rfl
  g3 := by kernel_rfl
  g4 := by kernel_rfl
  i0 := by kernel_rfl
  i3 := by kernel_rfl
  i4 := by kernel_rfl
  i5 := by kernel_rfl
  i9 := by kernel_rfl
  i21 := by kernel_rfl
  i31 := by kernel_rfl
  i46 := by kernel_rfl
  i51 := by kernel_rfl
  i105 := by kernel_rfl
  i138 := by kernel_rfl
  i139 := by kernel_rfl
  i146 := by kernel_rfl
  m1 := by kernel_rfl
  s1_3 := fun w h => Go.Proofs.cell_of_shapedOpen_int (zero := #[.int .i64 0]) (t := 3) h (of_decide_eq_true (by kernel_rfl)) (by kernel_rfl) rfl (by kernel_rfl) (by kernel_rfl) Tryd.underlying3
  m3 := by kernel_rfl
  m4 := by kernel_rfl }
def Tryd.lays105_ren : Go.Shelf.Ren := ⟨fun | 105 => 19 | 212 => 28 | 99 => 29 | 165 => 30 | 166 => 18 | 170 => 31 | 169 => 21 | 263 => 35 | 264 => 36 | 206 => 37 | 240 => 27 | 241 => 38 | 276 => 34 | 277 => 43 | n => n, fun | 9 => 9 | 3 => 3 | 4 => 4 | 20 => 20 | 0 => 0 | 46 => 60 | 109 => 61 | 5 => 5 | 72 => 47 | 76 => 50 | 51 => 70 | 146 => 71 | 53 => 73 | 148 => 74 | 70 => 45 | 37 => 35 | 75 => 49 | 127 => 66 | 164 => 68 | 80 => 54 | n => n, fun | n => n⟩
theorem Tryd.lays105 : Go.Proofs.Lays.n105 Tryd.prog Tryd.lays105_ren := {
  mixed := by kernel_rfl
  f99 := Tryd.func29.trans (congrArg some (by kernel_rfl))
  f105 := Tryd.func19.trans (congrArg some (by kernel_rfl))
  f165 := Tryd.func30.trans (congrArg some (by kernel_rfl))
  f166 := Tryd.func18.trans (congrArg some (by kernel_rfl))
  f169 := Tryd.func21.trans (congrArg some (by kernel_rfl))
  f170 := Tryd.func31.trans (congrArg some (by kernel_rfl))
  f206 := Tryd.func37.trans (congrArg some (by kernel_rfl))
  f212 := Tryd.func28.trans (congrArg some (by kernel_rfl))
  f240 := Tryd.func27.trans (congrArg some (by kernel_rfl))
  f241 := Tryd.func38.trans (congrArg some (by kernel_rfl))
  f263 := Tryd.func35.trans (congrArg some (by kernel_rfl))
  f264 := Tryd.func36.trans (congrArg some (by kernel_rfl))
  f276 := Tryd.func34.trans (congrArg some (by kernel_rfl))
  f277 := Tryd.func43.trans (congrArg some (by kernel_rfl))
  t0 := Tryd.underlying0
  a0 := Tryd.isAgg0
  z0 := Tryd.sizeOf0
  v0 := Tryd.zeroValue0
  t3 := Tryd.underlying3
  a3 := Tryd.isAgg3
  z3 := Tryd.sizeOf3
  v3 := Tryd.zeroValue3
  t4 := Tryd.underlying4
  a4 := Tryd.isAgg4
  z4 := Tryd.sizeOf4
  v4 := Tryd.zeroValue4
  t5 := Tryd.underlying5
  a5 := Tryd.isAgg5
  z5 := Tryd.sizeOf5
  v5 := Tryd.zeroValue5
  t9 := Tryd.underlying9
  a9 := Tryd.isAgg9
  z9 := Tryd.sizeOf9
  v9 := Tryd.zeroValue9
  t20 := Tryd.underlying20
  a20 := Tryd.isAgg20
  z20 := Tryd.sizeOf20
  v20 := Tryd.zeroValue20
  t37 := Tryd.underlying35
  a37 := Tryd.isAgg35
  z37 := Tryd.sizeOf35
  v37 := Tryd.zeroValue35
  t46 := Tryd.underlying60
  a46 := Tryd.isAgg60
  z46 := Tryd.sizeOf60
  v46 := Tryd.zeroValue60
  t51 := Tryd.underlying70
  a51 := Tryd.isAgg70
  z51 := Tryd.sizeOf70
  v51 := Tryd.zeroValue70
  t53 := Tryd.underlying73
  a53 := Tryd.isAgg73
  z53 := Tryd.sizeOf73
  v53 := Tryd.zeroValue73
  t70 := Tryd.underlying45
  a70 := Tryd.isAgg45
  z70 := Tryd.sizeOf45
  v70 := Tryd.zeroValue45
  t72 := Tryd.underlying47
  a72 := Tryd.isAgg47
  z72 := Tryd.sizeOf47
  v72 := Tryd.zeroValue47
  t75 := Tryd.underlying49
  a75 := Tryd.isAgg49
  z75 := Tryd.sizeOf49
  v75 := Tryd.zeroValue49
  t76 := Tryd.underlying50
  a76 := Tryd.isAgg50
  z76 := Tryd.sizeOf50
  v76 := Tryd.zeroValue50
  t109 := Tryd.underlying61
  a109 := Tryd.isAgg61
  z109 := Tryd.sizeOf61
  v109 := Tryd.zeroValue61
  t127 := Tryd.underlying66
  a127 := Tryd.isAgg66
  z127 := Tryd.sizeOf66
  v127 := Tryd.zeroValue66
  t146 := Tryd.underlying71
  a146 := Tryd.isAgg71
  z146 := Tryd.sizeOf71
  v146 := Tryd.zeroValue71
  t148 := Tryd.underlying74
  a148 := Tryd.isAgg74
  z148 := Tryd.sizeOf74
  v148 := Tryd.zeroValue74
  t164 := Tryd.underlying68
  a164 := Tryd.isAgg68
  z164 := Tryd.sizeOf68
  v164 := Tryd.zeroValue68 }
theorem Tryd.Builder_Extra_105 : Builder.Extra Tryd.prog Tryd.lays105_ren := {
  sizeBuilder := by kernel_rfl
  liesBuilder := by kernel_rfl
  t5 := Tryd.underlying5
  a5 := Tryd.isAgg5
  z5 := Tryd.sizeOf5
  v5 := Tryd.zeroValue5
  infoByte := by kernel_rfl
  cellsByte := by kernel_rfl
  sizeByte := by kernel_rfl
  neB5 := by decide }
open Go.RowKit Go.Lib in
theorem Tryd.strings_Repeat (s : ByteArray) (c : Nat) (w : World) (hc : c ≤ 9223372036854775807) (hlen : s.size * c ≤ 140737488355328) :
    Calls Tryd.prog 19 #[.string s, .int .i64 c] w fun e w' => e = .returned (.string ⟨(Lib.repeatL s.data.toList c).toArray⟩) ∧ Below w.heap.size w w' := Any.strings_Repeat Tryd.lays105 Tryd.Builder_Extra_105 s c w hc hlen
end Go.Proofs
namespace Go.Proofs.YtammbggabhnfdaaDoor
open Go Go.Proofs Go.RowKit Go.Shelf
theorem sizeB : (Tryd.prog.info? 47).map (·.size) = some 2 := by kernel_rfl
theorem liesB : liesAt Tryd.prog Tryd.prog.depth 47 (2 / Tryd.prog.cellsOf 47) 0 47 1 = true := by kernel_rfl
theorem infoU8 : (Tryd.prog.info? 5).map (fun i => (i.zero, i.size, i.bytes)) = some (some (.int .u8 0), 1, 1) := by kernel_rfl
set_option maxHeartbeats 1000000 in
set_option maxRecDepth 100000 in
theorem bCopy_used (b : Nat) (w : World) (h0 : w.cell? ⟨b, 0, none⟩ = some (.pointer (some ⟨b, 0, none⟩))) :
    Calls Tryd.prog 27 #[.pointer (some ⟨b, 0, none⟩)] w fun e w' => e = .returned (.tuple #[]) ∧ w' = w := by
  obtain ⟨j, hj, _⟩ := Option.map_eq_some_iff.1 sizeB
  go_enter Tryd.func27, Tryd.ntmps27
  go_wp2
  rw [Lib.run_neq_ptr_same w _ Tryd.underlying45 hj]
  go_wp2
  go_end0
  exact ⟨rfl, rfl⟩
set_option maxHeartbeats 1000000 in
set_option maxRecDepth 100000 in
theorem bCopy_fresh (b : Nat) (w : World) (h0 : w.cell? ⟨b, 0, none⟩ = some (.pointer none)) (hsh : w.shape? b = some (47, 2)) (hfz : w.frozen? ⟨b, 0, none⟩ = false) :
    Calls Tryd.prog 27 #[.pointer (some ⟨b, 0, none⟩)] w fun e w' => e = .returned (.tuple #[]) ∧ w' = w.setCell ⟨b, 0, none⟩ (.pointer (some ⟨b, 0, none⟩)) := by
  obtain ⟨j, hj, hjs⟩ := Option.map_eq_some_iff.1 sizeB
  go_enter Tryd.func27, Tryd.ntmps27
  go_wp2
  rw [Lib.run_to_unsafe w ⟨b, 0, none⟩ Tryd.underlying45 Tryd.underlying68 hj (by rw [hjs]; decide) hsh (Nat.zero_lt_succ 1)]
  simp only [Result.andThen]
  rw [Oper.upon_value]
  go_wp2
  rw [run_callFunc_extern Tryd.func34 (by kernel_rfl) (by kernel_rfl) (by kernel_rfl) (e := Extern.AbiNoEscape.same) (by kernel_rfl)]
  rw [Lib.run_noEscape]
  simp only [Result.andThen]
  rw [Oper.upon_value]
  go_wp2
  rw [Lib.run_from_unsafe w ⟨b, 0, none⟩ Tryd.underlying68 Tryd.underlying45 hj hsh liesB]
  simp only [Result.andThen]
  rw [Oper.upon_value]
  go_wp2
  go_end0
  exact ⟨rfl, rfl⟩
theorem bCopy_f (B b : Nat) (bs : List Value) (w : World) (h : Lib.IsBuilderF 47 5 B b bs w) :
    Calls Tryd.prog 27 #[.pointer (some ⟨b, 0, none⟩)] w fun e w' => e = .returned (.tuple #[]) ∧ (Lib.BuilderAtF 47 5 B b (.pointer (some ⟨b, 0, none⟩)) bs w' ∧ Below B w w') := by
  rcases h with h | h
  · refine (bCopy_fresh b w h.cell0 h.shape h.frozen0).mono ?_
    rintro e w' ⟨rfl, rfl⟩
    exact ⟨rfl, h.used _, (Below.refl B w).setCell (p := ⟨b, 0, none⟩) h.1 _⟩
  · refine (bCopy_used b w h.cell0).mono ?_
    rintro e w' ⟨rfl, rfl⟩
    exact ⟨rfl, h, Below.refl B _⟩
set_option maxHeartbeats 2000000 in
set_option maxRecDepth 100000 in
theorem bWriteString (B b : Nat) (bs : List Value) (s : ByteArray) (w : World) (h : Lib.IsBuilderF 47 5 B b bs w) (hlen : bs.length + s.size ≤ 140737488355328) (hBw : B ≤ w.heap.size) :
    Calls Tryd.prog 18 #[.pointer (some ⟨b, 0, none⟩), .string s] w fun e w' => e = .returned (.tuple #[.int .i64 s.size, .nilIface]) ∧ (Lib.BuilderAtF 47 5 B b (.pointer (some ⟨b, 0, none⟩)) (bs ++ Lib.strCells s) w' ∧ Below B w w') := by
  obtain ⟨i0, hi, hz0, hz1, hz2⟩ := info_parts infoU8
  go_enter Tryd.func18, Tryd.ntmps18
  go_wp2_with (go_at_call 27; refine (bCopy_f B b bs _ h).mono ?_)
  rintro e w1 ⟨rfl, h1, hb1⟩
  obtain ⟨hB, v, hbk, hown, hne⟩ := h1
  have c0 : w1.cell? ⟨b, 0, none⟩ = some (.pointer (some ⟨b, 0, none⟩)) := by rw [Lib.cell_of_heap hbk]; rfl
  have c1 : w1.cell? ⟨b, 1, none⟩ = some v := by rw [Lib.cell_of_heap hbk]; rfl
  go_wp2_with (at_builtin; refine Lib.wpList_append_own_stringF _ rfl _ _ 35 9 rfl B 5 i0 Tryd.underlying35 Tryd.underlying9 hi hz0 hz1 hz2 _ _ _ rfl hown s rfl ?c3 ?c4 ?c5 ?_)
  case c3 => unfold maxLen; omega
  case c4 => omega
  case c5 => have := hb1.size; omega
  intro v' w2 hown' hgrow _
  have hlt : b < w1.heap.size := by
    rcases Nat.lt_or_ge b w1.heap.size with h' | h'
    · exact h'
    · simp [Array.getElem?_eq_none h'] at hbk
  have hb2 : w2.heap[b]? = some (.cells #[.pointer (some ⟨b, 0, none⟩), v] 47 (0, 0)) := by
    rw [hgrow.block b hlt (fun e => hne e.symm)]
    exact hbk
  have d0 : w2.cell? ⟨b, 0, none⟩ = some (.pointer (some ⟨b, 0, none⟩)) := by rw [Lib.cell_of_heap hb2]; rfl
  have d1 : w2.cell? ⟨b, 1, none⟩ = some v := by rw [Lib.cell_of_heap hb2]; rfl
  have f1 : w2.frozen? ⟨b, 1, none⟩ = false := Lib.frozen_of_heap hb2 1
  obtain ⟨ao, n', cap, rfl⟩ : ∃ ao n' cap, v' = .slice ao n' cap := by
    rcases hown'.2 with ⟨hv, _⟩ | ⟨g, cap, cur, fz, hv, _⟩
    · exact ⟨_, _, _, hv⟩
    · exact ⟨_, _, _, hv⟩
  go_wp2
  go_ret2
  refine ⟨rfl, ?_, ?_⟩
  · exact Lib.BuilderAtF.put (T := 47) (e := 5) hB hb2 (bs' := bs ++ Lib.strCells s) (by simpa [Lib.strCells_length] using hown') (by decide)
  · exact (hb1.grown hgrow (by have := hb1.size; omega) (fun k hk => (hown.lt k hk).1)).setCell (p := ⟨b, 1, none⟩) hB _
set_option maxHeartbeats 2000000 in
set_option maxRecDepth 100000 in
theorem bWriteByte (B b : Nat) (bs : List Value) (c : Int) (w : World) (h : Lib.IsBuilderF 47 5 B b bs w) (hlen : bs.length + 1 ≤ 140737488355328) (hBw : B ≤ w.heap.size) :
    Calls Tryd.prog 20 #[.pointer (some ⟨b, 0, none⟩), .int .u8 c] w fun e w' => e = .returned .nilIface ∧ (Lib.BuilderAtF 47 5 B b (.pointer (some ⟨b, 0, none⟩)) (bs ++ [.int .u8 c]) w' ∧ Below B w w') := by
  obtain ⟨i0, hi, hz0, hz1, hz2⟩ := info_parts infoU8
  go_enter Tryd.func20, Tryd.ntmps20
  go_wp2_with (go_at_call 27; refine (bCopy_f B b bs _ h).mono ?_)
  rintro e w1 ⟨rfl, h1, hb1⟩
  obtain ⟨hB, v, hbk, hown, hne⟩ := h1
  have c0 : w1.cell? ⟨b, 0, none⟩ = some (.pointer (some ⟨b, 0, none⟩)) := by rw [Lib.cell_of_heap hbk]; rfl
  have c1 : w1.cell? ⟨b, 1, none⟩ = some v := by rw [Lib.cell_of_heap hbk]; rfl
  go_wp2_with (at_builtin; refine wpList_append_ownF _ rfl _ _ 35 rfl B 5 i0 (.int .u8 0) 1 1 Tryd.underlying35 hi hz0 hz1 hz2 rfl (by decide) _ _ _ rfl (hown.alloc _) ⟨w1.heap.size, 0, none⟩ 1 1 [.int .u8 c] rfl rfl ?c1 ?c2 ?c3 ?c4 ?c5 ?_)
  case c1 =>
    intro j u hj
    match j, hj with
    | 0, hj => simp at hj; subst hj; simp [Addr.add]
  case c2 => intro u hu; simp at hu; subst hu; rfl
  case c3 => unfold maxLen; omega
  case c4 => omega
  case c5 => have := hb1.size; simp; omega
  intro v' w2 hown' hgrow _
  have hlt : b < w1.heap.size := by
    rcases Nat.lt_or_ge b w1.heap.size with h' | h'
    · exact h'
    · simp [Array.getElem?_eq_none h'] at hbk
  have hb2 : w2.heap[b]? = some (.cells #[.pointer (some ⟨b, 0, none⟩), v] 47 (0, 0)) := by
    rw [hgrow.block b (by simp; omega) (fun e => hne e.symm), Lib.alloc_old w1 _ b hlt]
    exact hbk
  have d0 : w2.cell? ⟨b, 0, none⟩ = some (.pointer (some ⟨b, 0, none⟩)) := by rw [Lib.cell_of_heap hb2]; rfl
  have d1 : w2.cell? ⟨b, 1, none⟩ = some v := by rw [Lib.cell_of_heap hb2]; rfl
  have f1 : w2.frozen? ⟨b, 1, none⟩ = false := Lib.frozen_of_heap hb2 1
  obtain ⟨g, cap, rfl⟩ : ∃ g cap, v' = .slice (some ⟨g, 0, none⟩) (bs.length + 1) cap := by
    rcases hown'.2 with ⟨_, h0⟩ | ⟨g, cap, cur, fz, hv, _⟩
    · omega
    · exact ⟨g, cap, hv⟩
  go_wp2
  go_ret
  refine ⟨rfl, ?_, ?_⟩
  · exact Lib.BuilderAtF.put (T := 47) (e := 5) hB hb2 (bs' := bs ++ [.int .u8 c]) (by simpa using hown') (by decide)
  · exact ((hb1.alloc (by have := hb1.size; omega) _).grown hgrow (by have := hb1.size; simp; omega) (fun k hk => (hown.lt k hk).1)).setCell (p := ⟨b, 1, none⟩) hB _
end Go.Proofs.YtammbggabhnfdaaDoor
namespace Go.Proofs.YtammbggabhnfdaaDoor
open Go Go.Proofs Go.RowKit Go.Shelf Nat32
theorem add_blk (a : Addr) (n : Nat) : (a.add n).block = a.block := by unfold Addr.add; split <;> rfl
theorem add0 (a : Addr) : a.add 0 = a := by unfold Addr.add; rw [if_pos rfl]
theorem rep_len (n : Nat) : (Lib.repeatL [32] n).length = n := by
  have := Lib.repeatL_length [32] n
  simpa using this
theorem rep_list (n : Nat) : (⟨(Lib.repeatL [32] n).toArray⟩ : ByteArray).data.toList = List.replicate n 32 := by
  show Lib.repeatL [32] n = _
  have := Lib.repeatL_replicate 32 1 n
  rw [Nat.mul_one] at this
  exact this
theorem below_le {B C : Nat} {w w' : World} (h : Below C w w') (hB : B ≤ C) : Below B w w' := ⟨h.os, h.tape, h.output, h.size, fun k hk => h.block k (Nat.lt_of_lt_of_le hk hB)⟩
theorem BAt_below {T e : TypeId} {B b : Nat} {p : Value} {bs : List Value} {w w' : World} (h : Lib.BuilderAtF T e B b p bs w) (hb : Below w.heap.size w w') : Lib.BuilderAtF T e B b p bs w' := by
  have hlt := h.lt
  obtain ⟨hB, v, hbk, hown, hne⟩ := h
  refine ⟨hB, v, (hb.block b hlt).trans hbk, ⟨hown.1, ?_⟩, hne⟩
  rcases hown.2 with h1 | ⟨g, cap, cur, fz, e1, e2, e3, r⟩
  · exact .inl h1
  · exact .inr ⟨g, cap, cur, fz, e1, e2, (hb.block g (Array.getElem?_eq_some_iff.1 e3).1).trans e3, r⟩
theorem IsB_below {T e : TypeId} {B b : Nat} {bs : List Value} {w w' : World} (h : Lib.IsBuilderF T e B b bs w) (hb : Below w.heap.size w w') : Lib.IsBuilderF T e B b bs w' := h.imp (fun x => BAt_below x hb) (fun x => BAt_below x hb)
structure Hd (p : Prop) : Prop where
  out : p
noncomputable def part2 : Code := match Tryd.f8.body with | some (.seq _ (.seq _ (.seq _ (.seq _ (.seq _ (.seq _ t)))))) => t | _ => .skip
set_option maxHeartbeats 8000000 in
set_option maxRecDepth 1000000 in
theorem part2_walk (w : World) (ad : Addr) (N m c0 bw cw : Nat) (A : Nat → Addr) (C : Nat → Nat) (recs : List (List (List UInt8))) (wd : Nat → Nat) (hN : N ≤ 1024) (hm : m ≤ 32)
    (hrec : ∀ i, i < N → w.cell? (ad.add i) = some (.slice (some (A i)) m (C i)))
    (hcell : ∀ i, i < N → ∀ j, j < m → w.cell? ((A i).add j) = some (.string ⟨((recs.getD i []).getD j []).toArray⟩))
    (hwid : ∀ j, j < m → w.cell? ⟨bw, j, none⟩ = some (.int .i64 (wd j : Nat)))
    (hle : ∀ i j, ((recs.getD i []).getD j []).length ≤ wd j) (hwd : ∀ j, wd j ≤ 32) (u1 u2 u3 u4 u5 u6 u8 u9 u10 u11 u12 u13 u14 u15 u16 u17 u18 u19 u20 u21 u22 u23 u24 u25 u26 u27 u28 u29 u30 u31 u32 u33 u34 u35 u36 u37 u38 u39 u40 u41 u42 u43 u44 u45 u46 u47 u48 u49 u50 u51 u52 u53 u54 u55 u56 u57 u58 u59 u60 u61 u62 u63 u64 u65 u66 u67 u68 u69 u70 u71 u72 u73 u74 u75 u76 u77 u78 u79 u80 u81 u82 u83 u84 u85 u86 u87 u88 u89 u90 u91 u92 u93 u94 u95 u96 u97 u98 u99 u100 u101 u102 u103 u104 u105 u106 u107 u108 : Value)
    (Q : Exit → Act → World → Prop)
    (hQ : ∀ (tmps : Array Value) (w' : World), tmps.size = 109 → tmps.getD 2 undef = .string ⟨(colT wd recs m N).toArray⟩ → tmps.getD 3 undef = .int .i64 0 → Below w.heap.size w w' → Q .ret { tmps := tmps, defers := [] } w') :
    Code.wp Tryd.prog part2 Q { tmps := List.toArray (.slice (some ad) N c0 :: u1 :: u2 :: u3 :: u4 :: u5 :: u6 :: .slice (some ⟨bw, 0, none⟩) m cw :: u8 :: u9 :: u10 :: u11 :: u12 :: u13 :: u14 :: u15 :: u16 :: u17 :: u18 :: u19 :: u20 :: u21 :: u22 :: u23 :: u24 :: u25 :: u26 :: u27 :: u28 :: u29 :: u30 :: u31 :: u32 :: u33 :: u34 :: u35 :: u36 :: u37 :: u38 :: u39 :: u40 :: u41 :: u42 :: u43 :: u44 :: u45 :: u46 :: u47 :: u48 :: u49 :: u50 :: u51 :: u52 :: u53 :: u54 :: u55 :: u56 :: u57 :: u58 :: u59 :: u60 :: u61 :: u62 :: u63 :: u64 :: u65 :: u66 :: u67 :: u68 :: u69 :: u70 :: u71 :: u72 :: u73 :: u74 :: u75 :: u76 :: u77 :: u78 :: u79 :: u80 :: u81 :: u82 :: u83 :: u84 :: u85 :: u86 :: u87 :: u88 :: u89 :: u90 :: u91 :: u92 :: u93 :: u94 :: u95 :: u96 :: u97 :: u98 :: u99 :: u100 :: u101 :: u102 :: u103 :: u104 :: u105 :: u106 :: u107 :: u108 :: []), defers := [] } w := by
  have HR := Hd.mk hrec
  have HC := Hd.mk hcell
  have HW := Hd.mk hwid
  have HL := Hd.mk hle
  have HD := Hd.mk hwd
  have HQ := Hd.mk hQ
  have HT := Hd.mk (fun i => colT_len (n := m) hm hle hwd i)
  have HT2 := Hd.mk (fun i k => rowT_len (hle i) hwd k)
  clear hrec hcell hwid hle hwd hQ
  unfold part2 Tryd.f8
  dsimp only
  go_wp2
  go_loopw [80] (fun i wr => ∃ k : Nat, k ≤ N ∧ i = .int .i64 k ∧ Hd (Lib.IsBuilderF 47 5 w.heap.size w.heap.size (Lib.byteCells (colT wd recs m k)) wr) ∧ Hd (Below w.heap.size w wr)) (fun i _ => N - (intOf i).toNat)
  case atStart =>
    refine ⟨0, Nat.zero_le _, rfl, ⟨.inl ⟨Nat.le_refl _, .slice none 0 0, heap_alloc_new w _, ⟨rfl, .inl ⟨rfl, rfl⟩⟩, by simp [Value.ownBlock]⟩⟩, ⟨(Below.refl _ _).alloc (Nat.le_refl _) _⟩⟩
  case round =>
    obtain ⟨k, hk, rfl, HB, HW2⟩ := hrel
    by_cases hkn : k < N
    · have c1 : wr.cell? (ad.add k) = some (.slice (some (A k)) m (C k)) := by
        rw [HW2.out.cell (World.block_lt_of_cell? w _ (HR.out k hkn))]; exact HR.out k hkn
      have hbs := HW2.out.size
      go_wp2
      go_hide hQ2
      go_loopw [86] (fun i w2 => ∃ j : Nat, j ≤ m ∧ i = .int .i64 j ∧ Hd (Lib.IsBuilderF 47 5 w.heap.size w.heap.size (Lib.byteCells (colT wd recs m k ++ rowT wd (recs.getD k []) j)) w2) ∧ Hd (Below w.heap.size w w2)) (fun i _ => m - (intOf i).toNat)
      case atStart => exact ⟨0, Nat.zero_le _, rfl, ⟨by rw [rowT_zero, List.append_nil]; exact HB.out⟩, HW2⟩
      case round =>
        obtain ⟨j, hj, rfl, HB2, HW3⟩ := hrel
        by_cases hjm : j < m
        · have c2 : wr.cell? ((A k).add j) = some (.string ⟨((recs.getD k []).getD j []).toArray⟩) := by
            rw [HW3.out.cell (World.block_lt_of_cell? w _ (HC.out k hkn j hjm))]; exact HC.out k hkn j hjm
          have c3 : wr.cell? ⟨bw, j, none⟩ = some (.int .i64 (wd j : Nat)) := by
            rw [HW3.out.cell (World.block_lt_of_cell? w _ (HW.out j hjm))]; exact HW.out j hjm
          have l1 := HL.out k j
          have l2 := HD.out j
          have l3 := HT.out k
          have l4 := HT2.out k j
          have hstep := rowT_succ wd (recs.getD k []) j
          generalize (recs.getD k []).getD j [] = S at *
          have hss : (⟨S.toArray⟩ : ByteArray).size = S.length := rfl
          have hw : ((wd j : Int) - (S.length : Int)) = ((wd j - S.length : Nat) : Int) := by omega
          have hbz := HW3.out.size
          have hl0 : (Lib.byteCells (colT wd recs m k ++ rowT wd (recs.getD k []) j)).length = (colT wd recs m k).length + (rowT wd (recs.getD k []) j).length := by
            rw [Lib.byteCells_length, List.length_append]
          have hlB : (Lib.byteCells (colT wd recs m k ++ rowT wd (recs.getD k []) j)).length ≤ 1089 * 1024 + 34 * 32 := by
            rw [Lib.byteCells_length, List.length_append]; omega
          have hbw : bw < w.heap.size := World.block_lt_of_cell? w _ (HW.out j hjm)
          have hA : (A k).block < w.heap.size := by have := World.block_lt_of_cell? w _ (HC.out k hkn j hjm); rwa [add_blk] at this
          have h1z : (⟨#[32]⟩ : ByteArray).size = 1 := rfl
          have h2z : (⟨#[32, 32]⟩ : ByteArray).size = 2 := rfl
          have hrp : (⟨(Lib.repeatL [32] (wd j - S.length)).toArray⟩ : ByteArray).size ≤ 32 := by
            show (Lib.repeatL [32] (wd j - S.length)).length ≤ 32
            rw [rep_len]; omega
          by_cases hj0 : j = 0
          · subst hj0
            rw [add0] at c2
            have hl3 := hl0
            have z3 := hbz
            have H3 := HB2.out
            have B3 := HW3
            have hnext : Lib.byteCells (colT wd recs m k ++ rowT wd (recs.getD k []) 0) ++ Lib.strCells ⟨(Lib.repeatL [32] (wd 0 - S.length)).toArray⟩ ++ Lib.strCells ⟨S.toArray⟩ = Lib.byteCells (colT wd recs m k ++ rowT wd (recs.getD k []) (0 + 1)) := by
              rw [hstep, Lib.strCells_eq, Lib.strCells_eq, ← Lib.byteCells_append, ← Lib.byteCells_append]
              unfold cellT
              rw [if_neg (by omega), List.nil_append, rep_list]
              simp only [List.append_assoc]
            go_wp2_with fail
            refine (Tryd.strings_Repeat ⟨#[32]⟩ (wd 0 - S.length) wr (by omega) (by rw [h1z]; omega)).mono ?_
            rintro e w4 ⟨rfl, b4⟩
            have H4 := IsB_below H3 b4
            have z4 : w.heap.size ≤ w4.heap.size := Nat.le_trans z3 b4.size
            have B4 := Hd.mk (B3.out.trans (below_le b4 z3))
            clear b4 H3
            go_wp2_with fail
            refine (bWriteString w.heap.size w.heap.size _ _ w4 H4 (by rw [hl3]; omega) z4).mono ?_
            rintro e w5 ⟨rfl, h5, b5⟩
            have z5 : w.heap.size ≤ w5.heap.size := Nat.le_trans z4 b5.size
            have B5 := Hd.mk (B4.out.trans b5)
            clear b5 H4
            go_wp2_with fail
            refine (bWriteString w.heap.size w.heap.size _ _ w5 (Or.inr h5) (by rw [List.length_append, hl3, Lib.strCells_length]; omega) z5).mono ?_
            rintro e w6 ⟨rfl, h6, b6⟩
            have B6 := Hd.mk (B5.out.trans b6)
            clear b6 h5
            rw [hnext] at h6
            have H6 := Hd.mk (Or.inr h6 : Lib.IsBuilderF 47 5 w.heap.size w.heap.size _ w6)
            clear h6
            go_wp2
            exact ⟨⟨0 + 1, by omega, by go_num, H6, B6⟩, by simp [intOf]; omega⟩
          · have d0 : decide ((0 : Int) < (j : Int)) = true := decide_eq_true (by omega)
            have hnext : Lib.byteCells (colT wd recs m k ++ rowT wd (recs.getD k []) j) ++ Lib.strCells ⟨#[32, 32]⟩ ++ Lib.strCells ⟨(Lib.repeatL [32] (wd j - S.length)).toArray⟩ ++ Lib.strCells ⟨S.toArray⟩ = Lib.byteCells (colT wd recs m k ++ rowT wd (recs.getD k []) (j + 1)) := by
              rw [hstep, Lib.strCells_eq, Lib.strCells_eq, Lib.strCells_eq, ← Lib.byteCells_append, ← Lib.byteCells_append, ← Lib.byteCells_append]
              unfold cellT
              rw [if_pos (by omega), rep_list]
              simp only [List.append_assoc]
            go_wp2_with fail
            refine (bWriteString w.heap.size w.heap.size _ _ wr HB2.out (by rw [h2z, hl0]; omega) hbz).mono ?_
            rintro e w3 ⟨rfl, h3, b3⟩
            have c3b : w3.cell? ⟨bw, j, none⟩ = some (.int .i64 (wd j : Nat)) := (b3.cell (p := ⟨bw, j, none⟩) hbw).trans c3
            have z3 : w.heap.size ≤ w3.heap.size := Nat.le_trans hbz b3.size
            have H3 : Lib.IsBuilderF 47 5 w.heap.size w.heap.size _ w3 := Or.inr h3
            have B3 := Hd.mk (HW3.out.trans b3)
            have hl3 : (Lib.byteCells (colT wd recs m k ++ rowT wd (recs.getD k []) j) ++ Lib.strCells ⟨#[32, 32]⟩).length = (colT wd recs m k).length + (rowT wd (recs.getD k []) j).length + 2 := by
              rw [List.length_append, hl0, Lib.strCells_length, h2z]
            clear b3 h3
            go_wp2_with fail
            refine (Tryd.strings_Repeat ⟨#[32]⟩ (wd j - S.length) w3 (by omega) (by rw [h1z]; omega)).mono ?_
            rintro e w4 ⟨rfl, b4⟩
            have H4 := IsB_below H3 b4
            have z4 : w.heap.size ≤ w4.heap.size := Nat.le_trans z3 b4.size
            have B4 := Hd.mk (B3.out.trans (below_le b4 z3))
            clear b4 H3
            go_wp2_with fail
            refine (bWriteString w.heap.size w.heap.size _ _ w4 H4 (by rw [hl3]; omega) z4).mono ?_
            rintro e w5 ⟨rfl, h5, b5⟩
            have z5 : w.heap.size ≤ w5.heap.size := Nat.le_trans z4 b5.size
            have B5 := Hd.mk (B4.out.trans b5)
            clear b5 H4
            go_wp2_with fail
            refine (bWriteString w.heap.size w.heap.size _ _ w5 (Or.inr h5) (by rw [List.length_append, hl3, Lib.strCells_length]; omega) z5).mono ?_
            rintro e w6 ⟨rfl, h6, b6⟩
            have B6 := Hd.mk (B5.out.trans b6)
            clear b6 h5
            rw [hnext] at h6
            have H6 := Hd.mk (Or.inr h6 : Lib.IsBuilderF 47 5 w.heap.size w.heap.size _ w6)
            clear h6
            go_wp2
            exact ⟨⟨j + 1, by omega, by go_num, H6, B6⟩, by simp [intOf]; omega⟩
        · have hje : j = m := by omega
          have hbz := HW3.out.size
          have l3 := HT.out k
          have l4 := HT2.out k j
          have hl0 : (Lib.byteCells (colT wd recs m k ++ rowT wd (recs.getD k []) j)).length = (colT wd recs m k).length + (rowT wd (recs.getD k []) j).length := by
            rw [Lib.byteCells_length, List.length_append]
          have hnext : Lib.byteCells (colT wd recs m k ++ rowT wd (recs.getD k []) j) ++ [.int .u8 10] = Lib.byteCells (colT wd recs m (k + 1)) := by
            rw [colT_succ, hje, ← List.append_assoc, Lib.byteCells_append _ [10]]
            rfl
          have dj : decide ((j : Int) < (m : Int)) = false := decide_eq_false (by omega)
          go_wp2
          subst hQ2
          go_wp2_with fail
          refine (bWriteByte w.heap.size w.heap.size _ 10 wr HB2.out (by rw [hl0]; omega) hbz).mono ?_
          rintro e w3 ⟨rfl, h3, b3⟩
          rw [hnext] at h3
          have H3 := Hd.mk (Or.inr h3 : Lib.IsBuilderF 47 5 w.heap.size w.heap.size _ w3)
          have B3 := Hd.mk (HW3.out.trans b3)
          clear h3 b3
          go_wp2
          exact ⟨⟨k + 1, by omega, by go_num, H3, B3⟩, by simp [intOf]; omega⟩
    · have hke : k = N := by omega
      subst hke
      have hbs := HW2.out.size
      go_wp2_with (go_at_call 21; refine (Tryd.Builder_String_any_f w.heap.size w.heap.size _ _ HB.out hbs).mono ?_; rintro e w5 ⟨rfl, hb5, hw5⟩)
      exact HQ.out _ _ rfl rfl rfl (HW2.out.trans hw5)
end Go.Proofs.YtammbggabhnfdaaDoor
namespace Go.Proofs.YtammbggabhnfdaaDoor
open Go Go.Dat Go.Proofs Nat32 Go.RowKit
theorem take_all1 {p : UInt8 → Bool} {l : List UInt8} {i : Nat} (hi : i < l.length) (h : (l.take i).all p = true) (hp : p (l.getD i 0) = true) : (l.take (i + 1)).all p = true := by
  rw [List.take_add_one, List.all_append, h, Bool.true_and, List.getElem?_eq_getElem hi]
  rw [List.getD_eq_getElem?_getD, List.getElem?_eq_getElem hi] at hp
  simpa using hp
theorem all_bad1 {p : UInt8 → Bool} {l : List UInt8} {i : Nat} (hi : i < l.length) (hp : p (l.getD i 0) = false) : l.all p = false := by
  rw [← Bool.not_eq_true]
  intro h
  rw [List.getD_eq_getElem?_getD, List.getElem?_eq_getElem hi] at hp
  have := List.all_eq_true.1 h l[i] (List.getElem_mem hi)
  simp only [Option.getD_some] at hp
  rw [hp] at this; cases this
theorem rpCell_calls (l : List UInt8) (hl : l.length ≤ 9223372036854775807) : PCalls Tryd.prog 17 [.str l] (.bool (cellB l)) := by
  refine PCalls_of isrpCell (by simp [fnrpCell]) ?_
  unfold coderpCell
  repeat (first | (refine W_seq ?_) | (refine W_reg ?_) | (refine W_regd ?_) | (refine W_block ?_) | (refine And.intro (by omega) ?_) | simp (maxSteps := 1000000) (disch := omega) only [cA, cB, lk, lkH, Dst.onT, Dst.onX, Dst.slot, setF, setH, mapF, mapH, initF, binE, unE, cnt, boundE, newsE, freshE, opE, rmH, blkQ, frz_us, Nat.reduceEqDiff, Nat.reduceLT, Nat.reduceAdd, ↓reduceIte, reduceCtorEq, Nat.reduceLeDiff])
  refine W_loop (σ := Nat) (fun i => [(0, .str l), (2, .bool false), (3, .int .i64 i)]) (fun _ => []) (fun i => i ≤ l.length ∧ (l.take i).all cellC = true) (fun i => l.length - i) 0 (And.intro (Nat.zero_le _) rfl) ?_ rfl ?_
  · simp [subF, lk]
  · rintro i ⟨hi, hall⟩
    try simp only at hi hall ⊢
    by_cases hlt : i < l.length
    · have dl : decide ((i : Int) < l.length) = true := decide_eq_true (by omega)
      have ei : (i : Int).toNat = i := Int.toNat_natCast i
      have hta := @take_all1 cellC l i hlt hall
      have hbad := @all_bad1 cellC l i hlt
      obtain ⟨c, hc⟩ : ∃ c, l.getD i 0 = c := ⟨_, rfl⟩
      rw [hc] at hta hbad
      have hk : c.toNat < 256 := UInt8.toNat_lt c
      have eb : byteD c = .int .u8 (c.toNat : Nat) := rfl
      have e1 : ((i : Int) + 1) = ((i + 1 : Nat) : Int) := by omega
      repeat (first | (refine W_seq ?_) | (refine W_reg ?_) | (refine W_regd ?_) | (refine W_block ?_) | (refine And.intro (by omega) ?_) | simp (maxSteps := 1000000) (disch := omega) only [cA, cB, lk, lkH, Dst.onT, Dst.onX, Dst.slot, setF, setH, mapF, mapH, initF, binE, unE, cnt, boundE, newsE, freshE, opE, rmH, blkQ, frz_us, Nat.reduceEqDiff, Nat.reduceLT, Nat.reduceAdd, ↓reduceIte, reduceCtorEq, Nat.reduceLeDiff, dl])
      refine W_cond rfl (fun _ => W_skip ?_) (fun h => by cases h)
      by_cases h33 : c.toNat < 33
      · have d5 : decide (((c.toNat : Nat) : Int) < 33) = true := decide_eq_true (by omega)
        have hcb : cellB l = false := by unfold cellB; rw [hbad (by unfold cellC; rw [decide_eq_false (by omega)]; rfl)]; rfl
        rw [hcb]
        clear hta hbad hall
        repeat (first | (refine W_seq ?_) | (refine W_reg ?_) | (refine W_regd ?_) | (refine W_block ?_) | (refine And.intro (by omega) ?_) | simp (maxSteps := 1000000) (disch := omega) only [cA, cB, lk, lkH, Dst.onT, Dst.onX, Dst.slot, setF, setH, mapF, mapH, initF, binE, unE, cnt, boundE, newsE, freshE, opE, rmH, blkQ, frz_us, Nat.reduceEqDiff, Nat.reduceLT, Nat.reduceAdd, ↓reduceIte, reduceCtorEq, Nat.reduceLeDiff, ei, hc, eb, d5])
        refine W_cond rfl (fun _ => ?_) (fun h => by cases h)
        repeat (first | (refine W_seq ?_) | (refine W_reg ?_) | (refine W_regd ?_) | (refine W_block ?_) | (refine And.intro (by omega) ?_) | simp (maxSteps := 1000000) (disch := omega) only [cA, cB, lk, lkH, Dst.onT, Dst.onX, Dst.slot, setF, setH, mapF, mapH, initF, binE, unE, cnt, boundE, newsE, freshE, opE, rmH, blkQ, frz_us, Nat.reduceEqDiff, Nat.reduceLT, Nat.reduceAdd, ↓reduceIte, reduceCtorEq, Nat.reduceLeDiff])
        exact W_ret (RetP_1 (.imm rfl))
      · have d5 : decide (((c.toNat : Nat) : Int) < 33) = false := decide_eq_false (by omega)
        by_cases h126 : 126 < c.toNat
        · have d6 : decide ((126 : Int) < ((c.toNat : Nat) : Int)) = true := decide_eq_true (by omega)
          have hcb : cellB l = false := by unfold cellB; rw [hbad (by unfold cellC; rw [decide_eq_false (show ¬ c.toNat ≤ 126 by omega), Bool.and_false])]; rfl
          rw [hcb]
          clear hta hbad hall
          repeat (first | (refine W_seq ?_) | (refine W_reg ?_) | (refine W_regd ?_) | (refine W_block ?_) | (refine And.intro (by omega) ?_) | simp (maxSteps := 1000000) (disch := omega) only [cA, cB, lk, lkH, Dst.onT, Dst.onX, Dst.slot, setF, setH, mapF, mapH, initF, binE, unE, cnt, boundE, newsE, freshE, opE, rmH, blkQ, frz_us, Nat.reduceEqDiff, Nat.reduceLT, Nat.reduceAdd, ↓reduceIte, reduceCtorEq, Nat.reduceLeDiff, ei, hc, eb, d5, d6])
          refine W_cond rfl (fun _ => ?_) (fun h => by cases h)
          repeat (first | (refine W_seq ?_) | (refine W_reg ?_) | (refine W_regd ?_) | (refine W_block ?_) | (refine And.intro (by omega) ?_) | simp (maxSteps := 1000000) (disch := omega) only [cA, cB, lk, lkH, Dst.onT, Dst.onX, Dst.slot, setF, setH, mapF, mapH, initF, binE, unE, cnt, boundE, newsE, freshE, opE, rmH, blkQ, frz_us, Nat.reduceEqDiff, Nat.reduceLT, Nat.reduceAdd, ↓reduceIte, reduceCtorEq, Nat.reduceLeDiff])
          exact W_ret (RetP_1 (.imm rfl))
        · have d6 : decide ((126 : Int) < ((c.toNat : Nat) : Int)) = false := decide_eq_false (by omega)
          have hta' := hta (by unfold cellC; rw [decide_eq_true (by omega), decide_eq_true (by omega)]; rfl)
          clear hta hbad hall
          (replace hta' := Hid.mk hta')
          repeat (first | (refine W_seq ?_) | (refine W_reg ?_) | (refine W_regd ?_) | (refine W_block ?_) | (refine And.intro (by omega) ?_) | simp (maxSteps := 1000000) (disch := omega) only [cA, cB, lk, lkH, Dst.onT, Dst.onX, Dst.slot, setF, setH, mapF, mapH, initF, binE, unE, cnt, boundE, newsE, freshE, opE, rmH, blkQ, frz_us, Nat.reduceEqDiff, Nat.reduceLT, Nat.reduceAdd, ↓reduceIte, reduceCtorEq, Nat.reduceLeDiff, ei, hc, eb, d5, d6])
          refine W_cond rfl (fun h => by cases h) (fun _ => W_skip ?_)
          repeat (first | (refine W_seq ?_) | (refine W_reg ?_) | (refine W_regd ?_) | (refine W_block ?_) | (refine And.intro (by omega) ?_) | simp (maxSteps := 1000000) (disch := omega) only [cA, cB, lk, lkH, Dst.onT, Dst.onX, Dst.slot, setF, setH, mapF, mapH, initF, binE, unE, cnt, boundE, newsE, freshE, opE, rmH, blkQ, frz_us, Nat.reduceEqDiff, Nat.reduceLT, Nat.reduceAdd, ↓reduceIte, reduceCtorEq, Nat.reduceLeDiff, e1])
          exact ⟨i + 1, And.intro hlt hta'.out, by omega, by simp [subF, lk]⟩
    · have dl : decide ((i : Int) < l.length) = false := decide_eq_false (by omega)
      have hil : i = l.length := by omega
      rw [hil, List.take_length] at hall
      have hcb : cellB l = (decide (1 ≤ l.length) && decide (l.length ≤ 32)) := by unfold cellB; rw [hall]; rfl
      rw [hcb]
      by_cases h1 : 1 ≤ l.length
      · have d1 : decide ((1 : Int) ≤ (l.length : Int)) = true := decide_eq_true (by omega)
        have d2 : decide ((l.length : Int) ≤ 32) = decide (l.length ≤ 32) := by rw [decide_eq_decide]; omega
        rw [decide_eq_true h1, Bool.true_and, ← d2]
        repeat (first | (refine W_seq ?_) | (refine W_reg ?_) | (refine W_regd ?_) | (refine W_block ?_) | (refine And.intro (by omega) ?_) | simp (maxSteps := 1000000) (disch := omega) only [cA, cB, lk, lkH, Dst.onT, Dst.onX, Dst.slot, setF, setH, mapF, mapH, initF, binE, unE, cnt, boundE, newsE, freshE, opE, rmH, blkQ, frz_us, Nat.reduceEqDiff, Nat.reduceLT, Nat.reduceAdd, ↓reduceIte, reduceCtorEq, Nat.reduceLeDiff, dl])
        refine W_cond rfl (fun h => by cases h) (fun _ => W_exit ?_)
        repeat (first | (refine W_seq ?_) | (refine W_reg ?_) | (refine W_regd ?_) | (refine W_block ?_) | (refine And.intro (by omega) ?_) | simp (maxSteps := 1000000) (disch := omega) only [cA, cB, lk, lkH, Dst.onT, Dst.onX, Dst.slot, setF, setH, mapF, mapH, initF, binE, unE, cnt, boundE, newsE, freshE, opE, rmH, blkQ, frz_us, Nat.reduceEqDiff, Nat.reduceLT, Nat.reduceAdd, ↓reduceIte, reduceCtorEq, Nat.reduceLeDiff, d1])
        exact W_ret (RetP_1 (.imm rfl))
      · have d1 : decide ((1 : Int) ≤ (l.length : Int)) = false := decide_eq_false (by omega)
        rw [decide_eq_false h1, Bool.false_and]
        repeat (first | (refine W_seq ?_) | (refine W_reg ?_) | (refine W_regd ?_) | (refine W_block ?_) | (refine And.intro (by omega) ?_) | simp (maxSteps := 1000000) (disch := omega) only [cA, cB, lk, lkH, Dst.onT, Dst.onX, Dst.slot, setF, setH, mapF, mapH, initF, binE, unE, cnt, boundE, newsE, freshE, opE, rmH, blkQ, frz_us, Nat.reduceEqDiff, Nat.reduceLT, Nat.reduceAdd, ↓reduceIte, reduceCtorEq, Nat.reduceLeDiff, dl])
        refine W_cond rfl (fun h => by cases h) (fun _ => W_exit ?_)
        repeat (first | (refine W_seq ?_) | (refine W_reg ?_) | (refine W_regd ?_) | (refine W_block ?_) | (refine And.intro (by omega) ?_) | simp (maxSteps := 1000000) (disch := omega) only [cA, cB, lk, lkH, Dst.onT, Dst.onX, Dst.slot, setF, setH, mapF, mapH, initF, binE, unE, cnt, boundE, newsE, freshE, opE, rmH, blkQ, frz_us, Nat.reduceEqDiff, Nat.reduceLT, Nat.reduceAdd, ↓reduceIte, reduceCtorEq, Nat.reduceLeDiff, d1])
        exact W_ret (RetP_1 (.imm rfl))
end Go.Proofs.YtammbggabhnfdaaDoor
namespace Go.Proofs.YtammbggabhnfdaaDoor
open Go Go.Dat Go.Proofs Nat32 Go.RowKit
theorem split_cons {α : Type} {l : List α} {n : Nat} (h : l.length = n + 1) : ∃ u r, l = u :: r ∧ r.length = n := by
  cases l with
  | nil => simp at h
  | cons u r => exact ⟨u, r, rfl, by simpa using h⟩
def slAd : Value → Addr
  | .slice (some a) _ _ => a
  | _ => ⟨0, 0, none⟩
def slCap : Value → Nat
  | .slice _ _ c => c
  | _ => 0
theorem recD_get {recs : List (List (List UInt8))} {i : Nat} (h : i < recs.length) : (recD recs)[i]? = some (.sl 1 (strL (recs.getD i []))) := by
  unfold recD
  rw [List.getElem?_map, List.getD_eq_getElem?_getD, List.getElem?_eq_getElem h]; rfl
theorem strL_get {r : List (List UInt8)} {j : Nat} (h : j < r.length) : (strL r)[j]? = some (.str (r.getD j [])) := by
  unfold strL
  rw [List.getElem?_map, List.getD_eq_getElem?_getD, List.getElem?_eq_getElem h]; rfl
theorem shape_len {recs : List (List (List UInt8))} {m : Nat} (h : ∀ r ∈ recs, r.length = m) {i : Nat} (hi : i < recs.length) : (recs.getD i []).length = m := by
  rw [List.getD_eq_getElem?_getD, List.getElem?_eq_getElem hi]
  exact h _ (List.getElem_mem hi)
theorem rec_facts {w : World} {Lm : Nat → Option Nat} {S : Nat → Prop} {recs : List (List (List UInt8))} {m : Nat} {v : Value} (hv : V w Lm S (.sl 1 (recD recs)) v) (h0 : 0 < recs.length) (hm : 0 < m) (hsh : ∀ r ∈ recs, r.length = m) :
    ∃ (ad : Addr) (c : Nat) (A : Nat → Addr) (C : Nat → Nat), v = .slice (some ad) recs.length c ∧ (∀ i, i < recs.length → w.cell? (ad.add i) = some (.slice (some (A i)) m (C i))) ∧
      (∀ i, i < recs.length → ∀ j, j < m → w.cell? ((A i).add j) = some (.string ⟨((recs.getD i []).getD j []).toArray⟩)) := by
  have hl : (recD recs).length = recs.length := by unfold recD; simp
  rcases hv.inv_sl with ⟨he, _⟩ | ⟨_, ad, n, c, vs, e1, hlen, _, _, hcell, hvi⟩
  · rw [he] at hl; simp at hl; omega
  have hn : n = recs.length := by rw [hl] at hlen; omega
  subst hn
  have key : ∀ i, i < recs.length → vs i = .slice (some (slAd (vs i))) m (slCap (vs i)) ∧ ∀ j, j < m → w.cell? ((slAd (vs i)).add j) = some (.string ⟨((recs.getD i []).getD j []).toArray⟩) := by
    intro i hi
    have hg := recD_get hi
    have hlm := shape_len hsh hi
    have hv1 := hvi i _ hg
    have hv2 : V w Lm S (.sl 1 (strL (recs.getD i []))) (vs i) := .imm hv1
    have hl2 : (strL (recs.getD i [])).length = m := by unfold strL; rw [List.length_map]; exact hlm
    rcases hv2.inv_sl with ⟨he, _⟩ | ⟨_, ad2, n2, c2, vs2, e2, hlen2, _, _, hcell2, hvi2⟩
    · rw [he] at hl2; simp at hl2; omega
    have hn2 : n2 = m := by rw [hl2] at hlen2; omega
    subst hn2
    rw [e2]
    refine ⟨rfl, fun j hj => ?_⟩
    have hg2 := strL_get (r := recs.getD i []) (j := j) (by omega)
    show w.cell? (ad2.add j) = _
    rw [hcell2 j _ hg2]
    have := (V.imm (L := Lm) (hvi2 j _ hg2)).inv_str
    rw [this]
  exact ⟨ad, c, fun i => slAd (vs i), fun i => slCap (vs i), e1, fun i hi => (hcell i _ (recD_get hi)).trans (congrArg some (key i hi).1), fun i hi j hj => (key i hi).2 j hj⟩
set_option maxHeartbeats 4000000 in
set_option maxRecDepth 100000 in
theorem part2_WC (o : Nat) (recs : List (List (List UInt8))) (m : Nat) (wd : Nat → Nat) (cells : List DV) (h0 : 0 < recs.length) (hN : recs.length ≤ 1024) (hm0 : 0 < m) (hm : m ≤ 32) (hsh : ∀ r ∈ recs, r.length = m)
    (hc : ∀ j, j < m → cells[j]? = some (.int .i64 (wd j : Nat))) (hle : ∀ i j, ((recs.getD i []).getD j []).length ≤ wd j) (hwd : ∀ j, wd j ≤ 32) (fr : Fr) (H : Hp)
    (f0 : lk fr 0 = .sl 1 (recD recs)) (f7 : lk fr 7 = .osl 1 o 0 m) (fH : lkH H o = some cells) :
    WC fnrpColumns part2 (RetP resrpColumns (.tup [.str (colT wd recs m recs.length), .int .i64 0])) fr H := by
  intro G L a w hK hn hR
  have hn1 : G.n = 109 := hn.1
  have s0 := hR.slots 0
  have s7 := hR.slots 7
  rw [show den fnrpColumns.vs [] fr 0 = lk fr 0 from rfl, f0] at s0
  rw [show den fnrpColumns.vs [] fr 7 = lk fr 7 from rfl, f7] at s7
  obtain ⟨ad, c0, A, C, e0, hrec, hcell⟩ := rec_facts s0 h0 hm0 hsh
  rcases s7.inv_osl with ⟨b, cw, T, sz, hL, e7, _, _, _⟩ | ⟨hz, _⟩
  case inr => omega
  obtain ⟨cells', cur, T', hho, hb, hlc, hp⟩ := hR.heap.at_ hL
  rw [fH] at hho
  cases hho
  have hwid : ∀ j, j < m → w.cell? ⟨b, j, none⟩ = some (.int .i64 (wd j : Nat)) := fun j hj => by
    have h1 := hc j hj
    obtain ⟨u, hu⟩ := exists_aget (l := cur) (k := j) (by have := (List.getElem?_eq_some_iff.1 h1).1; omega)
    rw [cell_of_row w b _ cur T' (0, 0) hb, hu]
    rw [(hp j _ u h1 hu).inv_int]
  obtain ⟨tmps, defers⟩ := a
  have hd : defers = [] := hR.defers
  subst hd
  obtain ⟨lx⟩ := tmps
  have hlx : lx.length = 109 := by have := hR.size; simp only [List.size_toArray] at this; omega
  have hfin : ∀ (tmps' : Array Value) (w' : World), tmps'.size = 109 → tmps'.getD 2 undef = .string ⟨(colT wd recs m recs.length).toArray⟩ → tmps'.getD 3 undef = .int .i64 0 → Below w.heap.size w w' →
      Post fnrpColumns G (RetP resrpColumns (.tup [.str (colT wd recs m recs.length), .int .i64 0])) .ret { tmps := tmps', defers := [] } w' := fun tmps' w' h1 h2 h3 h4 => by
    refine ⟨fun _ => none, [(2, .str (colT wd recs m recs.length)), (3, .int .i64 0)], [], .ret, hR.over (a' := { tmps := tmps', defers := [] }) hK (Ext_of_below h4) (by rw [hn1]; exact h1) rfl (fun s => ?_), rfl, RetP_2 (.imm rfl) (.imm rfl)⟩
    simp only [den]
    split
    · simp only [lk]
      split
      · rename_i e; subst e; rw [h2]; exact .str _
      · split
        · rename_i e; subst e; rw [h3]; exact .int _ _
        · exact .undef _
    · exact .undef _
  clear hR s0 s7 hp
  obtain ⟨u0, l0, rfl, hl0⟩ := split_cons hlx
  obtain ⟨u1, l1, rfl, hl1⟩ := split_cons hl0
  obtain ⟨u2, l2, rfl, hl2⟩ := split_cons hl1
  obtain ⟨u3, l3, rfl, hl3⟩ := split_cons hl2
  obtain ⟨u4, l4, rfl, hl4⟩ := split_cons hl3
  obtain ⟨u5, l5, rfl, hl5⟩ := split_cons hl4
  obtain ⟨u6, l6, rfl, hl6⟩ := split_cons hl5
  obtain ⟨u7, l7, rfl, hl7⟩ := split_cons hl6
  obtain ⟨u8, l8, rfl, hl8⟩ := split_cons hl7
  obtain ⟨u9, l9, rfl, hl9⟩ := split_cons hl8
  obtain ⟨u10, l10, rfl, hl10⟩ := split_cons hl9
  obtain ⟨u11, l11, rfl, hl11⟩ := split_cons hl10
  obtain ⟨u12, l12, rfl, hl12⟩ := split_cons hl11
  obtain ⟨u13, l13, rfl, hl13⟩ := split_cons hl12
  obtain ⟨u14, l14, rfl, hl14⟩ := split_cons hl13
  obtain ⟨u15, l15, rfl, hl15⟩ := split_cons hl14
  obtain ⟨u16, l16, rfl, hl16⟩ := split_cons hl15
  obtain ⟨u17, l17, rfl, hl17⟩ := split_cons hl16
  obtain ⟨u18, l18, rfl, hl18⟩ := split_cons hl17
  obtain ⟨u19, l19, rfl, hl19⟩ := split_cons hl18
  obtain ⟨u20, l20, rfl, hl20⟩ := split_cons hl19
  obtain ⟨u21, l21, rfl, hl21⟩ := split_cons hl20
  obtain ⟨u22, l22, rfl, hl22⟩ := split_cons hl21
  obtain ⟨u23, l23, rfl, hl23⟩ := split_cons hl22
  obtain ⟨u24, l24, rfl, hl24⟩ := split_cons hl23
  obtain ⟨u25, l25, rfl, hl25⟩ := split_cons hl24
  obtain ⟨u26, l26, rfl, hl26⟩ := split_cons hl25
  obtain ⟨u27, l27, rfl, hl27⟩ := split_cons hl26
  obtain ⟨u28, l28, rfl, hl28⟩ := split_cons hl27
  obtain ⟨u29, l29, rfl, hl29⟩ := split_cons hl28
  obtain ⟨u30, l30, rfl, hl30⟩ := split_cons hl29
  obtain ⟨u31, l31, rfl, hl31⟩ := split_cons hl30
  obtain ⟨u32, l32, rfl, hl32⟩ := split_cons hl31
  obtain ⟨u33, l33, rfl, hl33⟩ := split_cons hl32
  obtain ⟨u34, l34, rfl, hl34⟩ := split_cons hl33
  obtain ⟨u35, l35, rfl, hl35⟩ := split_cons hl34
  obtain ⟨u36, l36, rfl, hl36⟩ := split_cons hl35
  obtain ⟨u37, l37, rfl, hl37⟩ := split_cons hl36
  obtain ⟨u38, l38, rfl, hl38⟩ := split_cons hl37
  obtain ⟨u39, l39, rfl, hl39⟩ := split_cons hl38
  obtain ⟨u40, l40, rfl, hl40⟩ := split_cons hl39
  obtain ⟨u41, l41, rfl, hl41⟩ := split_cons hl40
  obtain ⟨u42, l42, rfl, hl42⟩ := split_cons hl41
  obtain ⟨u43, l43, rfl, hl43⟩ := split_cons hl42
  obtain ⟨u44, l44, rfl, hl44⟩ := split_cons hl43
  obtain ⟨u45, l45, rfl, hl45⟩ := split_cons hl44
  obtain ⟨u46, l46, rfl, hl46⟩ := split_cons hl45
  obtain ⟨u47, l47, rfl, hl47⟩ := split_cons hl46
  obtain ⟨u48, l48, rfl, hl48⟩ := split_cons hl47
  obtain ⟨u49, l49, rfl, hl49⟩ := split_cons hl48
  obtain ⟨u50, l50, rfl, hl50⟩ := split_cons hl49
  obtain ⟨u51, l51, rfl, hl51⟩ := split_cons hl50
  obtain ⟨u52, l52, rfl, hl52⟩ := split_cons hl51
  obtain ⟨u53, l53, rfl, hl53⟩ := split_cons hl52
  obtain ⟨u54, l54, rfl, hl54⟩ := split_cons hl53
  obtain ⟨u55, l55, rfl, hl55⟩ := split_cons hl54
  obtain ⟨u56, l56, rfl, hl56⟩ := split_cons hl55
  obtain ⟨u57, l57, rfl, hl57⟩ := split_cons hl56
  obtain ⟨u58, l58, rfl, hl58⟩ := split_cons hl57
  obtain ⟨u59, l59, rfl, hl59⟩ := split_cons hl58
  obtain ⟨u60, l60, rfl, hl60⟩ := split_cons hl59
  obtain ⟨u61, l61, rfl, hl61⟩ := split_cons hl60
  obtain ⟨u62, l62, rfl, hl62⟩ := split_cons hl61
  obtain ⟨u63, l63, rfl, hl63⟩ := split_cons hl62
  obtain ⟨u64, l64, rfl, hl64⟩ := split_cons hl63
  obtain ⟨u65, l65, rfl, hl65⟩ := split_cons hl64
  obtain ⟨u66, l66, rfl, hl66⟩ := split_cons hl65
  obtain ⟨u67, l67, rfl, hl67⟩ := split_cons hl66
  obtain ⟨u68, l68, rfl, hl68⟩ := split_cons hl67
  obtain ⟨u69, l69, rfl, hl69⟩ := split_cons hl68
  obtain ⟨u70, l70, rfl, hl70⟩ := split_cons hl69
  obtain ⟨u71, l71, rfl, hl71⟩ := split_cons hl70
  obtain ⟨u72, l72, rfl, hl72⟩ := split_cons hl71
  obtain ⟨u73, l73, rfl, hl73⟩ := split_cons hl72
  obtain ⟨u74, l74, rfl, hl74⟩ := split_cons hl73
  obtain ⟨u75, l75, rfl, hl75⟩ := split_cons hl74
  obtain ⟨u76, l76, rfl, hl76⟩ := split_cons hl75
  obtain ⟨u77, l77, rfl, hl77⟩ := split_cons hl76
  obtain ⟨u78, l78, rfl, hl78⟩ := split_cons hl77
  obtain ⟨u79, l79, rfl, hl79⟩ := split_cons hl78
  obtain ⟨u80, l80, rfl, hl80⟩ := split_cons hl79
  obtain ⟨u81, l81, rfl, hl81⟩ := split_cons hl80
  obtain ⟨u82, l82, rfl, hl82⟩ := split_cons hl81
  obtain ⟨u83, l83, rfl, hl83⟩ := split_cons hl82
  obtain ⟨u84, l84, rfl, hl84⟩ := split_cons hl83
  obtain ⟨u85, l85, rfl, hl85⟩ := split_cons hl84
  obtain ⟨u86, l86, rfl, hl86⟩ := split_cons hl85
  obtain ⟨u87, l87, rfl, hl87⟩ := split_cons hl86
  obtain ⟨u88, l88, rfl, hl88⟩ := split_cons hl87
  obtain ⟨u89, l89, rfl, hl89⟩ := split_cons hl88
  obtain ⟨u90, l90, rfl, hl90⟩ := split_cons hl89
  obtain ⟨u91, l91, rfl, hl91⟩ := split_cons hl90
  obtain ⟨u92, l92, rfl, hl92⟩ := split_cons hl91
  obtain ⟨u93, l93, rfl, hl93⟩ := split_cons hl92
  obtain ⟨u94, l94, rfl, hl94⟩ := split_cons hl93
  obtain ⟨u95, l95, rfl, hl95⟩ := split_cons hl94
  obtain ⟨u96, l96, rfl, hl96⟩ := split_cons hl95
  obtain ⟨u97, l97, rfl, hl97⟩ := split_cons hl96
  obtain ⟨u98, l98, rfl, hl98⟩ := split_cons hl97
  obtain ⟨u99, l99, rfl, hl99⟩ := split_cons hl98
  obtain ⟨u100, l100, rfl, hl100⟩ := split_cons hl99
  obtain ⟨u101, l101, rfl, hl101⟩ := split_cons hl100
  obtain ⟨u102, l102, rfl, hl102⟩ := split_cons hl101
  obtain ⟨u103, l103, rfl, hl103⟩ := split_cons hl102
  obtain ⟨u104, l104, rfl, hl104⟩ := split_cons hl103
  obtain ⟨u105, l105, rfl, hl105⟩ := split_cons hl104
  obtain ⟨u106, l106, rfl, hl106⟩ := split_cons hl105
  obtain ⟨u107, l107, rfl, hl107⟩ := split_cons hl106
  obtain ⟨u108, l108, rfl, hl108⟩ := split_cons hl107
  have hnil : l108 = [] := List.eq_nil_of_length_eq_zero hl108
  subst hnil
  have e0' : u0 = .slice (some ad) recs.length c0 := e0
  have e7' : u7 = .slice (some ⟨b, 0, none⟩) m cw := e7
  subst e0'
  subst e7'
  exact part2_walk w ad recs.length m c0 b cw A C recs wd hN hm hrec hcell hwid hle hwd u1 u2 u3 u4 u5 u6 u8 u9 u10 u11 u12 u13 u14 u15 u16 u17 u18 u19 u20 u21 u22 u23 u24 u25 u26 u27 u28 u29 u30 u31 u32 u33 u34 u35 u36 u37 u38 u39 u40 u41 u42 u43 u44 u45 u46 u47 u48 u49 u50 u51 u52 u53 u54 u55 u56 u57 u58 u59 u60 u61 u62 u63 u64 u65 u66 u67 u68 u69 u70 u71 u72 u73 u74 u75 u76 u77 u78 u79 u80 u81 u82 u83 u84 u85 u86 u87 u88 u89 u90 u91 u92 u93 u94 u95 u96 u97 u98 u99 u100 u101 u102 u103 u104 u105 u106 u107 u108 _ hfin
end Go.Proofs.YtammbggabhnfdaaDoor
namespace Go.Proofs.YtammbggabhnfdaaDoor
open Go Go.Dat Go.Proofs Nat32 Go.RowKit
theorem seqC_norm (F : FnD) (b : Code) (Q : Ex → Fr → Hp → Prop) (fr : Fr) (H : Hp) : seqC F b Q .norm fr H = WC F b Q fr H := rfl
theorem seqC_ret (F : FnD) (b : Code) (Q : Ex → Fr → Hp → Prop) (fr : Fr) (H : Hp) : seqC F b Q .ret fr H = Q .ret fr H := rfl
noncomputable def cSeq1 : Code → Code
  | .seq a _ => a
  | _ => .skip
noncomputable def cSeq2 : Code → Code
  | .seq _ b => b
  | _ => .skip
noncomputable def colB : Code := match Tryd.f8.body with | some c => c | none => .skip
def dSeq1 : DC → DC
  | .seq a _ => a
  | _ => .skip
def dSeq2 : DC → DC
  | .seq _ b => b
  | _ => .skip
theorem colB_eq : Tryd.f8.body = some (.seq (cSeq1 colB) (.seq (cSeq1 (cSeq2 colB)) (.seq (cSeq1 (cSeq2 (cSeq2 colB))) (.seq (cSeq1 (cSeq2 (cSeq2 (cSeq2 colB)))) (.seq (cSeq1 (cSeq2 (cSeq2 (cSeq2 (cSeq2 colB))))) (.seq (cSeq1 (cSeq2 (cSeq2 (cSeq2 (cSeq2 (cSeq2 colB)))))) part2)))))) := by kernel_rfl
theorem cs0 : strip fnrpColumns.P fnrpColumns.vs fnrpColumns.own fnrpColumns.n (cSeq1 colB) = dSeq1 coderpColumns := by kernel_rfl
theorem cs1 : strip fnrpColumns.P fnrpColumns.vs fnrpColumns.own fnrpColumns.n (cSeq1 (cSeq2 colB)) = dSeq1 (dSeq2 coderpColumns) := by kernel_rfl
theorem cs2 : strip fnrpColumns.P fnrpColumns.vs fnrpColumns.own fnrpColumns.n (cSeq1 (cSeq2 (cSeq2 colB))) = dSeq1 (dSeq2 (dSeq2 coderpColumns)) := by kernel_rfl
theorem cs3 : strip fnrpColumns.P fnrpColumns.vs fnrpColumns.own fnrpColumns.n (cSeq1 (cSeq2 (cSeq2 (cSeq2 colB)))) = dSeq1 (dSeq2 (dSeq2 (dSeq2 coderpColumns))) := by kernel_rfl
theorem cs4 : strip fnrpColumns.P fnrpColumns.vs fnrpColumns.own fnrpColumns.n (cSeq1 (cSeq2 (cSeq2 (cSeq2 (cSeq2 colB))))) = dSeq1 (dSeq2 (dSeq2 (dSeq2 (dSeq2 coderpColumns)))) := by kernel_rfl
theorem cs5 : strip fnrpColumns.P fnrpColumns.vs fnrpColumns.own fnrpColumns.n (cSeq1 (cSeq2 (cSeq2 (cSeq2 (cSeq2 (cSeq2 colB)))))) = dSeq1 (dSeq2 (dSeq2 (dSeq2 (dSeq2 (dSeq2 coderpColumns))))) := by kernel_rfl
theorem recD_getD {recs : List (List (List UInt8))} {i : Nat} (h : i < recs.length) : (recD recs).getD i .undef = .sl 1 (strL (recs.getD i [])) := by
  rw [List.getD_eq_getElem?_getD, recD_get h]; rfl
theorem recD_len (recs : List (List (List UInt8))) : (recD recs).length = recs.length := by unfold recD; simp
theorem strL_len (r : List (List UInt8)) : (strL r).length = r.length := by unfold strL; simp
theorem strL_getD {r : List (List UInt8)} {j : Nat} (h : j < r.length) : (strL r).getD j .undef = .str (r.getD j []) := by
  rw [List.getD_eq_getElem?_getD, strL_get h]; rfl
theorem shape_bad {recs : List (List (List UInt8))} {i : Nat} (h : i < recs.length) (hb : (decide ((recs.getD i []).length = (recs.headD []).length) && (decide (1 ≤ (recs.headD []).length) && decide ((recs.headD []).length ≤ 32))) = false) : shapeB recs = false := by
  rw [← Bool.not_eq_true]
  intro hs
  have := List.all_eq_true.1 hs _ (List.getElem_mem h)
  rw [List.getD_eq_getElem?_getD, List.getElem?_eq_getElem h] at hb
  simp only [Option.getD_some] at hb
  rw [hb] at this; cases this
theorem form_bad {recs : List (List (List UInt8))} {i j : Nat} (h : i < recs.length) (hj : j < (recs.getD i []).length) (hb : cellB ((recs.getD i []).getD j []) = false) : formB recs = false := by
  rw [← Bool.not_eq_true]
  intro hs
  have h1 := List.all_eq_true.1 hs _ (List.getElem_mem h)
  rw [List.getD_eq_getElem?_getD (l := recs), List.getElem?_eq_getElem h] at hb hj
  simp only [Option.getD_some] at hb hj
  have h2 := List.all_eq_true.1 h1 _ (List.getElem_mem hj)
  rw [List.getD_eq_getElem?_getD, List.getElem?_eq_getElem hj] at hb
  simp only [Option.getD_some] at hb
  rw [hb] at h2; cases h2
theorem form_ok {recs : List (List (List UInt8))} (h : ∀ i, i < recs.length → ∀ j, j < (recs.getD i []).length → cellB ((recs.getD i []).getD j []) = true) : formB recs = true := by
  refine List.all_eq_true.2 fun r hr => List.all_eq_true.2 fun s hs => ?_
  obtain ⟨i, hi, rfl⟩ := List.mem_iff_getElem.1 hr
  obtain ⟨j, hj, rfl⟩ := List.mem_iff_getElem.1 hs
  have := h i hi j (by rw [List.getD_eq_getElem?_getD (l := recs), List.getElem?_eq_getElem hi]; exact hj)
  rw [List.getD_eq_getElem?_getD (l := recs), List.getElem?_eq_getElem hi] at this
  simp only [Option.getD_some] at this
  rw [List.getD_eq_getElem?_getD, List.getElem?_eq_getElem hj] at this
  exact this
set_option maxHeartbeats 4000000 in
theorem rpColumns_calls (recs : List (List (List UInt8))) (hb1 : recs.length ≤ 9223372036854775807) (hb2 : ∀ i, (recs.getD i []).length ≤ 9223372036854775807) (hb3 : ∀ i j, ((recs.getD i []).getD j []).length ≤ 9223372036854775807) :
    PCalls Tryd.prog 8 [.sl 1 (recD recs)] (colR recs) := by
  refine PCalls_ofC (F := fnrpColumns) Tryd.func8 colB_eq rfl rfl (by kernel_rfl) (by simp [fnrpColumns]) ?_
  have hln := recD_len recs
  refine WC_seq (WC_of cs0 ?_)
  unfold coderpColumns
  dsimp only [dSeq1, dSeq2]
  repeat (first | (refine W_seq ?_) | (refine W_reg ?_) | (refine W_regd ?_) | (refine W_block ?_) | (refine And.intro (by omega) ?_) | simp (maxSteps := 1000000) (disch := omega) only [cA, cB, lk, lkH, Dst.onT, Dst.onX, Dst.slot, setF, setH, mapF, mapH, initF, binE, unE, cnt, boundE, newsE, freshE, opE, rmH, blkQ, frz_us, Nat.reduceEqDiff, Nat.reduceLT, Nat.reduceAdd, ↓reduceIte, reduceCtorEq, Nat.reduceLeDiff, seqC_norm])
  refine WC_seq (WC_of cs1 ?_)
  unfold coderpColumns
  dsimp only [dSeq1, dSeq2]
  by_cases h1 : recs.length < 1
  · have d1 : decide ((recs.length : Int) < 1) = true := decide_eq_true (by omega)
    have hR : colR recs = .tup [.str [], .int .i64 6] := by
      unfold colR shapeOk
      rw [decide_eq_false (show ¬ 1 ≤ recs.length by omega)]; rfl
    rw [hR]
    repeat (first | (refine W_seq ?_) | (refine W_reg ?_) | (refine W_regd ?_) | (refine W_block ?_) | (refine And.intro (by omega) ?_) | simp (maxSteps := 1000000) (disch := omega) only [cA, cB, lk, lkH, Dst.onT, Dst.onX, Dst.slot, setF, setH, mapF, mapH, initF, binE, unE, cnt, boundE, newsE, freshE, opE, rmH, blkQ, frz_us, Nat.reduceEqDiff, Nat.reduceLT, Nat.reduceAdd, ↓reduceIte, reduceCtorEq, Nat.reduceLeDiff, hln, d1])
    refine W_cond rfl (fun _ => ?_) (fun h => by cases h)
    repeat (first | (refine W_seq ?_) | (refine W_reg ?_) | (refine W_regd ?_) | (refine W_block ?_) | (refine And.intro (by omega) ?_) | simp (maxSteps := 1000000) (disch := omega) only [cA, cB, lk, lkH, Dst.onT, Dst.onX, Dst.slot, setF, setH, mapF, mapH, initF, binE, unE, cnt, boundE, newsE, freshE, opE, rmH, blkQ, frz_us, Nat.reduceEqDiff, Nat.reduceLT, Nat.reduceAdd, ↓reduceIte, reduceCtorEq, Nat.reduceLeDiff, seqC_ret])
    refine W_ret ?_
    exact RetP_2 (.imm rfl) (.imm rfl)
  · have d1 : decide ((recs.length : Int) < 1) = false := decide_eq_false (by omega)
    by_cases h2 : 1024 < recs.length
    · have d2 : decide ((1024 : Int) < (recs.length : Int)) = true := decide_eq_true (by omega)
      have hR : colR recs = .tup [.str [], .int .i64 6] := by
        unfold colR shapeOk
        rw [decide_eq_false (show ¬ recs.length ≤ 1024 by omega), Bool.and_false]; rfl
      rw [hR]
      repeat (first | (refine W_seq ?_) | (refine W_reg ?_) | (refine W_regd ?_) | (refine W_block ?_) | (refine And.intro (by omega) ?_) | simp (maxSteps := 1000000) (disch := omega) only [cA, cB, lk, lkH, Dst.onT, Dst.onX, Dst.slot, setF, setH, mapF, mapH, initF, binE, unE, cnt, boundE, newsE, freshE, opE, rmH, blkQ, frz_us, Nat.reduceEqDiff, Nat.reduceLT, Nat.reduceAdd, ↓reduceIte, reduceCtorEq, Nat.reduceLeDiff, hln, d1, d2])
      refine W_cond rfl (fun _ => ?_) (fun h => by cases h)
      repeat (first | (refine W_seq ?_) | (refine W_reg ?_) | (refine W_regd ?_) | (refine W_block ?_) | (refine And.intro (by omega) ?_) | simp (maxSteps := 1000000) (disch := omega) only [cA, cB, lk, lkH, Dst.onT, Dst.onX, Dst.slot, setF, setH, mapF, mapH, initF, binE, unE, cnt, boundE, newsE, freshE, opE, rmH, blkQ, frz_us, Nat.reduceEqDiff, Nat.reduceLT, Nat.reduceAdd, ↓reduceIte, reduceCtorEq, Nat.reduceLeDiff, seqC_ret])
      refine W_ret ?_
      exact RetP_2 (.imm rfl) (.imm rfl)
    · have d2 : decide ((1024 : Int) < (recs.length : Int)) = false := decide_eq_false (by omega)
      repeat (first | (refine W_seq ?_) | (refine W_reg ?_) | (refine W_regd ?_) | (refine W_block ?_) | (refine And.intro (by omega) ?_) | simp (maxSteps := 1000000) (disch := omega) only [cA, cB, lk, lkH, Dst.onT, Dst.onX, Dst.slot, setF, setH, mapF, mapH, initF, binE, unE, cnt, boundE, newsE, freshE, opE, rmH, blkQ, frz_us, Nat.reduceEqDiff, Nat.reduceLT, Nat.reduceAdd, ↓reduceIte, reduceCtorEq, Nat.reduceLeDiff, hln, d1, d2])
      refine W_cond rfl (fun h => by cases h) (fun _ => W_skip ?_)
      repeat (first | (refine W_seq ?_) | (refine W_reg ?_) | (refine W_regd ?_) | (refine W_block ?_) | (refine And.intro (by omega) ?_) | simp (maxSteps := 1000000) (disch := omega) only [cA, cB, lk, lkH, Dst.onT, Dst.onX, Dst.slot, setF, setH, mapF, mapH, initF, binE, unE, cnt, boundE, newsE, freshE, opE, rmH, blkQ, frz_us, Nat.reduceEqDiff, Nat.reduceLT, Nat.reduceAdd, ↓reduceIte, reduceCtorEq, Nat.reduceLeDiff, seqC_norm])
      have hpos : 0 < recs.length := by omega
      have hg0 := recD_getD hpos
      have hh : recs.getD 0 [] = recs.headD [] := by cases recs <;> rfl
      rw [hh] at hg0
      have hm := hb2 0
      rw [hh] at hm
      obtain ⟨m, hmd⟩ : ∃ m, (recs.headD []).length = m := ⟨_, rfl⟩
      have hsl := strL_len (recs.headD [])
      rw [hmd] at hsl hm
      have e0 : (Int.toNat 0) = 0 := rfl
      refine WC_seq (WC_of cs2 ?_)
      unfold coderpColumns
      dsimp only [dSeq1, dSeq2]
      repeat (first | (refine W_seq ?_) | (refine W_reg ?_) | (refine W_regd ?_) | (refine W_block ?_) | (refine And.intro (by omega) ?_) | simp (maxSteps := 1000000) (disch := omega) only [cA, cB, lk, lkH, Dst.onT, Dst.onX, Dst.slot, setF, setH, mapF, mapH, initF, binE, unE, cnt, boundE, newsE, freshE, opE, rmH, blkQ, frz_us, Nat.reduceEqDiff, Nat.reduceLT, Nat.reduceAdd, ↓reduceIte, reduceCtorEq, Nat.reduceLeDiff, hln, e0, hg0, hsl])
      repeat (first | (refine W_seq ?_) | (refine W_reg ?_) | (refine W_regd ?_) | (refine W_block ?_) | (refine And.intro (by omega) ?_) | simp (maxSteps := 1000000) (disch := omega) only [cA, cB, lk, lkH, Dst.onT, Dst.onX, Dst.slot, setF, setH, mapF, mapH, initF, binE, unE, cnt, boundE, newsE, freshE, opE, rmH, blkQ, frz_us, Nat.reduceEqDiff, Nat.reduceLT, Nat.reduceAdd, ↓reduceIte, reduceCtorEq, Nat.reduceLeDiff, seqC_norm])
      clear hg0 hsl
      refine WC_seq (WC_of cs3 ?_)
      unfold coderpColumns
      dsimp only [dSeq1, dSeq2]
      repeat (first | (refine W_seq ?_) | (refine W_reg ?_) | (refine W_regd ?_) | (refine W_block ?_) | (refine And.intro (by omega) ?_) | simp (maxSteps := 1000000) (disch := omega) only [cA, cB, lk, lkH, Dst.onT, Dst.onX, Dst.slot, setF, setH, mapF, mapH, initF, binE, unE, cnt, boundE, newsE, freshE, opE, rmH, blkQ, frz_us, Nat.reduceEqDiff, Nat.reduceLT, Nat.reduceAdd, ↓reduceIte, reduceCtorEq, Nat.reduceLeDiff, hln])
      refine W_loop (σ := Nat) (fun i => [(0, .sl 1 (recD recs)), (2, .str []), (3, .int .i64 0), (4, .int .i64 m), (29, .sl 1 (recD recs)), (30, .int .i64 recs.length), (31, .int .i64 i)]) (fun _ => []) (fun i => i ≤ recs.length ∧ ∀ c, c < i → (recs.getD c []).length = m ∧ 1 ≤ m ∧ m ≤ 32) (fun i => recs.length - i) 0 (And.intro (Nat.zero_le _) (fun c hc => absurd hc (by omega))) ?_ rfl ?_
      · simp [subF, lk]
      · rintro i ⟨hi, hall⟩
        try simp only at hi hall ⊢
        by_cases hlt : i < recs.length
        · have dl : decide ((i : Int) < recs.length) = true := decide_eq_true (by omega)
          have ei : (i : Int).toNat = i := Int.toNat_natCast i
          have hgi := recD_getD hlt
          have hsi := strL_len (recs.getD i [])
          have hbd := hb2 i
          have e1 : ((i : Int) + 1) = ((i + 1 : Nat) : Int) := by omega
          obtain ⟨q, hq⟩ : ∃ q, (recs.getD i []).length = q := ⟨_, rfl⟩
          rw [hq] at hsi hbd
          have hbad : ¬ (q = m ∧ 1 ≤ m ∧ m ≤ 32) → colR recs = .tup [.str [], .int .i64 6] := fun hn => by
            have hs : shapeB recs = false := shape_bad hlt (by
              rw [hq, hmd]
              by_cases a1 : q = m
              · by_cases a2 : 1 ≤ m
                · rw [decide_eq_false (show ¬ m ≤ 32 from fun a3 => hn ⟨a1, a2, a3⟩)]; simp
                · rw [decide_eq_false a2]; simp
              · rw [decide_eq_false a1]; rfl)
            unfold colR shapeOk
            rw [hs, Bool.and_false]; rfl
          repeat (first | (refine W_seq ?_) | (refine W_reg ?_) | (refine W_regd ?_) | (refine W_block ?_) | (refine And.intro (by omega) ?_) | simp (maxSteps := 1000000) (disch := omega) only [cA, cB, lk, lkH, Dst.onT, Dst.onX, Dst.slot, setF, setH, mapF, mapH, initF, binE, unE, cnt, boundE, newsE, freshE, opE, rmH, blkQ, frz_us, Nat.reduceEqDiff, Nat.reduceLT, Nat.reduceAdd, ↓reduceIte, reduceCtorEq, Nat.reduceLeDiff, dl])
          refine W_cond rfl (fun _ => W_skip ?_) (fun h => by cases h)
          by_cases a1 : q = m
          · have g1 : decide (¬ (q : Int) = (m : Int)) = false := decide_eq_false (by omega)
            by_cases a2 : 1 ≤ m
            · have g2 : decide ((m : Int) < 1) = false := decide_eq_false (by omega)
              by_cases a3 : m ≤ 32
              · have g3 : decide ((32 : Int) < (m : Int)) = false := decide_eq_false (by omega)
                have hall' : Dat.Hid (∀ c, c < i + 1 → (recs.getD c []).length = m ∧ 1 ≤ m ∧ m ≤ 32) := ⟨fun c hc => by
                  rcases Nat.lt_or_ge c i with hci | hci
                  · exact hall c hci
                  · rw [show c = i by omega, hq]; exact ⟨a1, a2, a3⟩⟩
                clear hall hbad
                repeat (first | (refine W_seq ?_) | (refine W_reg ?_) | (refine W_regd ?_) | (refine W_block ?_) | (refine And.intro (by omega) ?_) | simp (maxSteps := 1000000) (disch := omega) only [cA, cB, lk, lkH, Dst.onT, Dst.onX, Dst.slot, setF, setH, mapF, mapH, initF, binE, unE, cnt, boundE, newsE, freshE, opE, rmH, blkQ, frz_us, Nat.reduceEqDiff, Nat.reduceLT, Nat.reduceAdd, ↓reduceIte, reduceCtorEq, Nat.reduceLeDiff, ei, hln, hgi, hsi, g1, g2, g3])
                refine W_cond rfl (fun h => by cases h) (fun _ => W_skip ?_)
                repeat (first | (refine W_seq ?_) | (refine W_reg ?_) | (refine W_regd ?_) | (refine W_block ?_) | (refine And.intro (by omega) ?_) | simp (maxSteps := 1000000) (disch := omega) only [cA, cB, lk, lkH, Dst.onT, Dst.onX, Dst.slot, setF, setH, mapF, mapH, initF, binE, unE, cnt, boundE, newsE, freshE, opE, rmH, blkQ, frz_us, Nat.reduceEqDiff, Nat.reduceLT, Nat.reduceAdd, ↓reduceIte, reduceCtorEq, Nat.reduceLeDiff, e1])
                exact ⟨i + 1, And.intro hlt hall'.out, by omega, by simp [subF, lk]⟩
              · have g3 : decide ((32 : Int) < (m : Int)) = true := decide_eq_true (by omega)
                rw [hbad (fun h => a3 h.2.2)]
                clear hall hbad
                repeat (first | (refine W_seq ?_) | (refine W_reg ?_) | (refine W_regd ?_) | (refine W_block ?_) | (refine And.intro (by omega) ?_) | simp (maxSteps := 1000000) (disch := omega) only [cA, cB, lk, lkH, Dst.onT, Dst.onX, Dst.slot, setF, setH, mapF, mapH, initF, binE, unE, cnt, boundE, newsE, freshE, opE, rmH, blkQ, frz_us, Nat.reduceEqDiff, Nat.reduceLT, Nat.reduceAdd, ↓reduceIte, reduceCtorEq, Nat.reduceLeDiff, ei, hln, hgi, hsi, g1, g2, g3])
                refine W_cond rfl (fun _ => ?_) (fun h => by cases h)
                repeat (first | (refine W_seq ?_) | (refine W_reg ?_) | (refine W_regd ?_) | (refine W_block ?_) | (refine And.intro (by omega) ?_) | simp (maxSteps := 1000000) (disch := omega) only [cA, cB, lk, lkH, Dst.onT, Dst.onX, Dst.slot, setF, setH, mapF, mapH, initF, binE, unE, cnt, boundE, newsE, freshE, opE, rmH, blkQ, frz_us, Nat.reduceEqDiff, Nat.reduceLT, Nat.reduceAdd, ↓reduceIte, reduceCtorEq, Nat.reduceLeDiff, seqC_ret])
                refine W_ret ?_
                exact RetP_2 (.imm rfl) (.imm rfl)
            · have g2 : decide ((m : Int) < 1) = true := decide_eq_true (by omega)
              rw [hbad (fun h => a2 h.2.1)]
              clear hall hbad
              repeat (first | (refine W_seq ?_) | (refine W_reg ?_) | (refine W_regd ?_) | (refine W_block ?_) | (refine And.intro (by omega) ?_) | simp (maxSteps := 1000000) (disch := omega) only [cA, cB, lk, lkH, Dst.onT, Dst.onX, Dst.slot, setF, setH, mapF, mapH, initF, binE, unE, cnt, boundE, newsE, freshE, opE, rmH, blkQ, frz_us, Nat.reduceEqDiff, Nat.reduceLT, Nat.reduceAdd, ↓reduceIte, reduceCtorEq, Nat.reduceLeDiff, ei, hln, hgi, hsi, g1, g2])
              refine W_cond rfl (fun _ => ?_) (fun h => by cases h)
              repeat (first | (refine W_seq ?_) | (refine W_reg ?_) | (refine W_regd ?_) | (refine W_block ?_) | (refine And.intro (by omega) ?_) | simp (maxSteps := 1000000) (disch := omega) only [cA, cB, lk, lkH, Dst.onT, Dst.onX, Dst.slot, setF, setH, mapF, mapH, initF, binE, unE, cnt, boundE, newsE, freshE, opE, rmH, blkQ, frz_us, Nat.reduceEqDiff, Nat.reduceLT, Nat.reduceAdd, ↓reduceIte, reduceCtorEq, Nat.reduceLeDiff, seqC_ret])
              refine W_ret ?_
              exact RetP_2 (.imm rfl) (.imm rfl)
          · have g1 : decide (¬ (q : Int) = (m : Int)) = true := decide_eq_true (by omega)
            rw [hbad (fun h => a1 h.1)]
            clear hall hbad
            repeat (first | (refine W_seq ?_) | (refine W_reg ?_) | (refine W_regd ?_) | (refine W_block ?_) | (refine And.intro (by omega) ?_) | simp (maxSteps := 1000000) (disch := omega) only [cA, cB, lk, lkH, Dst.onT, Dst.onX, Dst.slot, setF, setH, mapF, mapH, initF, binE, unE, cnt, boundE, newsE, freshE, opE, rmH, blkQ, frz_us, Nat.reduceEqDiff, Nat.reduceLT, Nat.reduceAdd, ↓reduceIte, reduceCtorEq, Nat.reduceLeDiff, ei, hln, hgi, hsi, g1])
            refine W_cond rfl (fun _ => ?_) (fun h => by cases h)
            repeat (first | (refine W_seq ?_) | (refine W_reg ?_) | (refine W_regd ?_) | (refine W_block ?_) | (refine And.intro (by omega) ?_) | simp (maxSteps := 1000000) (disch := omega) only [cA, cB, lk, lkH, Dst.onT, Dst.onX, Dst.slot, setF, setH, mapF, mapH, initF, binE, unE, cnt, boundE, newsE, freshE, opE, rmH, blkQ, frz_us, Nat.reduceEqDiff, Nat.reduceLT, Nat.reduceAdd, ↓reduceIte, reduceCtorEq, Nat.reduceLeDiff, seqC_ret])
            refine W_ret ?_
            exact RetP_2 (.imm rfl) (.imm rfl)
        · have dl : decide ((i : Int) < recs.length) = false := decide_eq_false (by omega)
          have hil : i = recs.length := by omega
          subst hil
          have hm1 := (hall 0 hpos).2.1
          have hm32 := (hall 0 hpos).2.2
          have hlen : ∀ c, c < recs.length → (recs.getD c []).length = m := fun c hc => (hall c hc).1
          have hsh : shapeOk recs = true := by
            unfold shapeOk shapeB
            rw [decide_eq_true (show 1 ≤ recs.length by omega), decide_eq_true (show recs.length ≤ 1024 by omega), Bool.true_and, Bool.true_and]
            refine List.all_eq_true.2 fun r hr => ?_
            obtain ⟨c, hc, rfl⟩ := List.mem_iff_getElem.1 hr
            have := hlen c hc
            rw [List.getD_eq_getElem?_getD, List.getElem?_eq_getElem hc] at this
            simp only [Option.getD_some] at this
            rw [this, hmd, decide_eq_true rfl, decide_eq_true hm1, decide_eq_true hm32]; rfl
          clear hall
          (replace hlen := Hid.mk hlen)
          repeat (first | (refine W_seq ?_) | (refine W_reg ?_) | (refine W_regd ?_) | (refine W_block ?_) | (refine And.intro (by omega) ?_) | simp (maxSteps := 1000000) (disch := omega) only [cA, cB, lk, lkH, Dst.onT, Dst.onX, Dst.slot, setF, setH, mapF, mapH, initF, binE, unE, cnt, boundE, newsE, freshE, opE, rmH, blkQ, frz_us, Nat.reduceEqDiff, Nat.reduceLT, Nat.reduceAdd, ↓reduceIte, reduceCtorEq, Nat.reduceLeDiff, dl])
          refine W_cond rfl (fun h => by cases h) (fun _ => W_exit ?_)
          repeat (first | (refine W_seq ?_) | (refine W_reg ?_) | (refine W_regd ?_) | (refine W_block ?_) | (refine And.intro (by omega) ?_) | simp (maxSteps := 1000000) (disch := omega) only [cA, cB, lk, lkH, Dst.onT, Dst.onX, Dst.slot, setF, setH, mapF, mapH, initF, binE, unE, cnt, boundE, newsE, freshE, opE, rmH, blkQ, frz_us, Nat.reduceEqDiff, Nat.reduceLT, Nat.reduceAdd, ↓reduceIte, reduceCtorEq, Nat.reduceLeDiff, seqC_norm])
          refine WC_seq (WC_of cs4 ?_)
          unfold coderpColumns
          dsimp only [dSeq1, dSeq2]
          have hrp : rep m [DV.int .i64 0] = wcells (wdT recs 0) m := wcells_rep recs m
          have hcap : (m : Int) * 8 ≤ 281474976710656 := by omega
          repeat (first | (refine W_seq ?_) | (refine W_reg ?_) | (refine W_regd ?_) | (refine W_block ?_) | (refine And.intro (by omega) ?_) | simp (maxSteps := 1000000) (disch := omega) only [cA, cB, lk, lkH, Dst.onT, Dst.onX, Dst.slot, setF, setH, mapF, mapH, initF, binE, unE, cnt, boundE, newsE, freshE, opE, rmH, blkQ, frz_us, Nat.reduceEqDiff, Nat.reduceLT, Nat.reduceAdd, ↓reduceIte, reduceCtorEq, Nat.reduceLeDiff, hrp, nbrpColumns])
          repeat (first | (refine W_seq ?_) | (refine W_reg ?_) | (refine W_regd ?_) | (refine W_block ?_) | (refine And.intro (by omega) ?_) | simp (maxSteps := 1000000) (disch := omega) only [cA, cB, lk, lkH, Dst.onT, Dst.onX, Dst.slot, setF, setH, mapF, mapH, initF, binE, unE, cnt, boundE, newsE, freshE, opE, rmH, blkQ, frz_us, Nat.reduceEqDiff, Nat.reduceLT, Nat.reduceAdd, ↓reduceIte, reduceCtorEq, Nat.reduceLeDiff, seqC_norm])
          refine WC_seq (WC_of cs5 ?_)
          unfold coderpColumns
          dsimp only [dSeq1, dSeq2]
          repeat (first | (refine W_seq ?_) | (refine W_reg ?_) | (refine W_regd ?_) | (refine W_block ?_) | (refine And.intro (by omega) ?_) | simp (maxSteps := 1000000) (disch := omega) only [cA, cB, lk, lkH, Dst.onT, Dst.onX, Dst.slot, setF, setH, mapF, mapH, initF, binE, unE, cnt, boundE, newsE, freshE, opE, rmH, blkQ, frz_us, Nat.reduceEqDiff, Nat.reduceLT, Nat.reduceAdd, ↓reduceIte, reduceCtorEq, Nat.reduceLeDiff, hln])
          refine W_loop (σ := Nat) (fun i => [(0, .sl 1 (recD recs)), (2, .str []), (3, .int .i64 0), (7, .osl 1 49 0 m), (50, .sl 1 (recD recs)), (51, .int .i64 recs.length), (52, .int .i64 i)]) (fun i => [(49, wcells (wdT recs i) m)]) (fun i => i ≤ recs.length ∧ ∀ c, c < i → ∀ j, j < m → cellB ((recs.getD c []).getD j []) = true) (fun i => recs.length - i) 0 (And.intro (Nat.zero_le _) (fun c hc => absurd hc (by omega))) ?_ rfl ?_
          · simp [subF, lk]
          · rintro i ⟨hi2, hok⟩
            try simp only at hi2 hok ⊢
            by_cases hlt2 : i < recs.length
            · have dl2 : decide ((i : Int) < recs.length) = true := decide_eq_true (by omega)
              have ei : (i : Int).toNat = i := Int.toNat_natCast i
              have hgi := recD_getD hlt2
              have hsi := strL_len (recs.getD i [])
              have hri := hlen.out i hlt2
              rw [hri] at hsi
              have e1 : ((i : Int) + 1) = ((i + 1 : Nat) : Int) := by omega
              replace hok := Dat.Hid.mk hok
              repeat (first | (refine W_seq ?_) | (refine W_reg ?_) | (refine W_regd ?_) | (refine W_block ?_) | (refine And.intro (by omega) ?_) | simp (maxSteps := 1000000) (disch := omega) only [cA, cB, lk, lkH, Dst.onT, Dst.onX, Dst.slot, setF, setH, mapF, mapH, initF, binE, unE, cnt, boundE, newsE, freshE, opE, rmH, blkQ, frz_us, Nat.reduceEqDiff, Nat.reduceLT, Nat.reduceAdd, ↓reduceIte, reduceCtorEq, Nat.reduceLeDiff, dl2])
              refine W_cond rfl (fun _ => W_skip ?_) (fun h => by cases h)
              repeat (first | (refine W_seq ?_) | (refine W_reg ?_) | (refine W_regd ?_) | (refine W_block ?_) | (refine And.intro (by omega) ?_) | simp (maxSteps := 1000000) (disch := omega) only [cA, cB, lk, lkH, Dst.onT, Dst.onX, Dst.slot, setF, setH, mapF, mapH, initF, binE, unE, cnt, boundE, newsE, freshE, opE, rmH, blkQ, frz_us, Nat.reduceEqDiff, Nat.reduceLT, Nat.reduceAdd, ↓reduceIte, reduceCtorEq, Nat.reduceLeDiff, ei, hln, hgi, hsi])
              refine W_loop (σ := Nat) (fun j => [(0, .sl 1 (recD recs)), (2, .str []), (3, .int .i64 0), (7, .osl 1 49 0 m), (50, .sl 1 (recD recs)), (51, .int .i64 recs.length), (52, .int .i64 i), (56, .sl 1 (strL (recs.getD i []))), (57, .int .i64 m), (58, .int .i64 j)]) (fun j => [(49, wcells (wmix recs i j) m)]) (fun j => j ≤ m ∧ ∀ c, c < j → cellB ((recs.getD i []).getD c []) = true) (fun j => m - j) 0 (And.intro (Nat.zero_le _) (fun c hc => absurd hc (by omega))) ?_ (by rw [wmix_zero]) ?_
              · simp [subF, lk]
              · rintro j ⟨hj, hcj⟩
                try simp only at hj hcj ⊢
                by_cases hjm : j < m
                · have dj : decide ((j : Int) < m) = true := decide_eq_true (by omega)
                  have ej : (j : Int).toNat = j := Int.toNat_natCast j
                  have hgj := strL_getD (r := recs.getD i []) (j := j) (by omega)
                  have hbd := hb3 i j
                  have cc := rpCell_calls ((recs.getD i []).getD j []) (by omega)
                  have e1j : ((j : Int) + 1) = ((j + 1 : Nat) : Int) := by omega
                  have hwl := wcells_len (wmix recs i j) m
                  have hwg := wcells_getD (f := wmix recs i j) hjm
                  have hws := wcells_set (recs := recs) hlt2 hjm
                  have hmx : wmix recs i j j = wdT recs i j := by unfold wmix; rw [if_neg (Nat.lt_irrefl _)]
                  rw [hmx] at hwg
                  have hform := @form_bad recs i j hlt2 (by omega)
                  have hnext : cellB ((recs.getD i []).getD j []) = true → ∀ c, c < j + 1 → cellB ((recs.getD i []).getD c []) = true := fun h c hc => by
                    rcases Nat.lt_or_ge c j with hcj2 | hcj2
                    · exact hcj c hcj2
                    · rw [show c = j by omega]; exact h
                  generalize (recs.getD i []).getD j [] = S at *
                  repeat (first | (refine W_seq ?_) | (refine W_reg ?_) | (refine W_regd ?_) | (refine W_block ?_) | (refine And.intro (by omega) ?_) | simp (maxSteps := 1000000) (disch := omega) only [cA, cB, lk, lkH, Dst.onT, Dst.onX, Dst.slot, setF, setH, mapF, mapH, initF, binE, unE, cnt, boundE, newsE, freshE, opE, rmH, blkQ, frz_us, Nat.reduceEqDiff, Nat.reduceLT, Nat.reduceAdd, ↓reduceIte, reduceCtorEq, Nat.reduceLeDiff, dj])
                  refine W_cond rfl (fun _ => W_skip ?_) (fun h => by cases h)
                  cases hcb : cellB S
                  · rw [hcb] at cc
                    have hR : colR recs = .tup [.str [], .int .i64 4] := by
                      unfold colR
                      rw [hsh, hform hcb]; rfl
                    rw [hR]
                    clear hnext hform hcj
                    repeat (first | (refine W_seq ?_) | (refine W_reg ?_) | (refine W_regd ?_) | (refine W_block ?_) | (refine And.intro (by omega) ?_) | simp (maxSteps := 1000000) (disch := omega) only [cA, cB, lk, lkH, Dst.onT, Dst.onX, Dst.slot, setF, setH, mapF, mapH, initF, binE, unE, cnt, boundE, newsE, freshE, opE, rmH, blkQ, frz_us, Nat.reduceEqDiff, Nat.reduceLT, Nat.reduceAdd, ↓reduceIte, reduceCtorEq, Nat.reduceLeDiff, ej, hsi, hgj] | (refine callC_pure (cc) rfl ?_) | exact W_ret (RetP_1 (.imm rfl)) | exact W_ret (RetP_c rfl rfl rfl (.imm rfl)))
                    refine W_cond rfl (fun _ => ?_) (fun h => by cases h)
                    repeat (first | (refine W_seq ?_) | (refine W_reg ?_) | (refine W_regd ?_) | (refine W_block ?_) | (refine And.intro (by omega) ?_) | simp (maxSteps := 1000000) (disch := omega) only [cA, cB, lk, lkH, Dst.onT, Dst.onX, Dst.slot, setF, setH, mapF, mapH, initF, binE, unE, cnt, boundE, newsE, freshE, opE, rmH, blkQ, frz_us, Nat.reduceEqDiff, Nat.reduceLT, Nat.reduceAdd, ↓reduceIte, reduceCtorEq, Nat.reduceLeDiff, seqC_ret])
                    refine W_ret ?_
                    exact RetP_2 (.imm rfl) (.imm rfl)
                  · rw [hcb] at cc
                    have hnx := Dat.Hid.mk (hnext hcb)
                    have emax : (if ((wdT recs i j : Nat) : Int) < (S.length : Int) then (S.length : Int) else ((wdT recs i j : Nat) : Int)) = ((max (wdT recs i j) S.length : Nat) : Int) := by
                      split <;> omega
                    clear hnext hform hcj
                    repeat (first | (refine W_seq ?_) | (refine W_reg ?_) | (refine W_regd ?_) | (refine W_block ?_) | (refine And.intro (by omega) ?_) | simp (maxSteps := 1000000) (disch := omega) only [cA, cB, lk, lkH, Dst.onT, Dst.onX, Dst.slot, setF, setH, mapF, mapH, initF, binE, unE, cnt, boundE, newsE, freshE, opE, rmH, blkQ, frz_us, Nat.reduceEqDiff, Nat.reduceLT, Nat.reduceAdd, ↓reduceIte, reduceCtorEq, Nat.reduceLeDiff, ej, hsi, hgj] | (refine callC_pure (cc) rfl ?_) | exact W_ret (RetP_1 (.imm rfl)) | exact W_ret (RetP_c rfl rfl rfl (.imm rfl)))
                    refine W_cond rfl (fun h => by cases h) (fun _ => W_skip ?_)
                    repeat (first | (refine W_seq ?_) | (refine W_reg ?_) | (refine W_regd ?_) | (refine W_block ?_) | (refine And.intro (by omega) ?_) | simp (maxSteps := 1000000) (disch := omega) only [cA, cB, lk, lkH, Dst.onT, Dst.onX, Dst.slot, setF, setH, mapF, mapH, initF, binE, unE, cnt, boundE, newsE, freshE, opE, rmH, blkQ, frz_us, Nat.reduceEqDiff, Nat.reduceLT, Nat.reduceAdd, ↓reduceIte, reduceCtorEq, Nat.reduceLeDiff, ej, hwl, hwg, emax, hws, e1j])
                    exact ⟨j + 1, And.intro hjm hnx.out, by omega, by simp [subF, lk]⟩
                · have dj : decide ((j : Int) < m) = false := decide_eq_false (by omega)
                  have hjm2 : j = m := by omega
                  subst hjm2
                  have hnx : Dat.Hid (∀ c, c < i + 1 → ∀ q, q < j → cellB ((recs.getD c []).getD q []) = true) := ⟨fun c hc q hq => by
                    rcases Nat.lt_or_ge c i with hci | hci
                    · exact hok.out c hci q hq
                    · rw [show c = i by omega]; exact hcj q hq⟩
                  clear hcj hok
                  rw [wmix_full]
                  repeat (first | (refine W_seq ?_) | (refine W_reg ?_) | (refine W_regd ?_) | (refine W_block ?_) | (refine And.intro (by omega) ?_) | simp (maxSteps := 1000000) (disch := omega) only [cA, cB, lk, lkH, Dst.onT, Dst.onX, Dst.slot, setF, setH, mapF, mapH, initF, binE, unE, cnt, boundE, newsE, freshE, opE, rmH, blkQ, frz_us, Nat.reduceEqDiff, Nat.reduceLT, Nat.reduceAdd, ↓reduceIte, reduceCtorEq, Nat.reduceLeDiff, dj])
                  refine W_cond rfl (fun h => by cases h) (fun _ => W_exit ?_)
                  repeat (first | (refine W_seq ?_) | (refine W_reg ?_) | (refine W_regd ?_) | (refine W_block ?_) | (refine And.intro (by omega) ?_) | simp (maxSteps := 1000000) (disch := omega) only [cA, cB, lk, lkH, Dst.onT, Dst.onX, Dst.slot, setF, setH, mapF, mapH, initF, binE, unE, cnt, boundE, newsE, freshE, opE, rmH, blkQ, frz_us, Nat.reduceEqDiff, Nat.reduceLT, Nat.reduceAdd, ↓reduceIte, reduceCtorEq, Nat.reduceLeDiff, e1])
                  exact ⟨i + 1, And.intro hlt2 hnx.out, by omega, by simp [subF, lk]⟩
            · have dl2 : decide ((i : Int) < recs.length) = false := decide_eq_false (by omega)
              have hil2 : i = recs.length := by omega
              subst hil2
              have hform : formB recs = true := form_ok fun c hc q hq => hok c hc q (by rw [hlen.out c hc] at hq; exact hq)
              have hR : colR recs = .tup [.str (colT (wdT recs recs.length) recs m recs.length), .int .i64 0] := by
                unfold colR
                rw [hsh, hform, hmd]; rfl
              rw [hR]
              clear hok
              repeat (first | (refine W_seq ?_) | (refine W_reg ?_) | (refine W_regd ?_) | (refine W_block ?_) | (refine And.intro (by omega) ?_) | simp (maxSteps := 1000000) (disch := omega) only [cA, cB, lk, lkH, Dst.onT, Dst.onX, Dst.slot, setF, setH, mapF, mapH, initF, binE, unE, cnt, boundE, newsE, freshE, opE, rmH, blkQ, frz_us, Nat.reduceEqDiff, Nat.reduceLT, Nat.reduceAdd, ↓reduceIte, reduceCtorEq, Nat.reduceLeDiff, dl2])
              refine W_cond rfl (fun h => by cases h) (fun _ => W_exit ?_)
              repeat (first | (refine W_seq ?_) | (refine W_reg ?_) | (refine W_regd ?_) | (refine W_block ?_) | (refine And.intro (by omega) ?_) | simp (maxSteps := 1000000) (disch := omega) only [cA, cB, lk, lkH, Dst.onT, Dst.onX, Dst.slot, setF, setH, mapF, mapH, initF, binE, unE, cnt, boundE, newsE, freshE, opE, rmH, blkQ, frz_us, Nat.reduceEqDiff, Nat.reduceLT, Nat.reduceAdd, ↓reduceIte, reduceCtorEq, Nat.reduceLeDiff, seqC_norm])
              exact part2_WC 49 recs m (wdT recs recs.length) (wcells (wdT recs recs.length) m) hpos (by omega) (by omega) hm32 (fun r hr => by
                obtain ⟨c, hc, rfl⟩ := List.mem_iff_getElem.1 hr
                have := hlen.out c hc
                rw [List.getD_eq_getElem?_getD, List.getElem?_eq_getElem hc] at this
                simpa using this) (fun j hj => wcells_get hj) (fun c j => wdT_ge c j) (fun j => wdT_le hform j) _ _ rfl rfl rfl
end Go.Proofs.YtammbggabhnfdaaDoor
namespace Go.Proofs.YtammbggabhnfdaaDoor
open Go Go.Dat Go.Proofs Nat32 Go.RowKit
theorem rfm_nil : (∀ d ∈ ([] : List DV), d.rf = true) ↔ True := by simp
theorem rfm_str (l : List UInt8) (xs : List DV) : (∀ d ∈ DV.str l :: xs, d.rf = true) ↔ ∀ d ∈ xs, d.rf = true := by simp [DV.rf]
theorem rfm_sl (s : Nat) (ys xs : List DV) : (∀ d ∈ DV.sl s ys :: xs, d.rf = true) ↔ ∀ d ∈ xs, d.rf = true := by simp [DV.rf]
def tpc (l : List Int) (at_ : Nat) : List DV := [.sl 1 (l.map (.int .i64)), .int .i64 at_]
def isTp (c : List DV) : Prop := ∃ (l : List Int) (k : Nat), l.length ≤ 400 ∧ k ≤ l.length ∧ c = tpc l k
theorem isTp.rf {c : List DV} (h : isTp c) : ∀ d ∈ c, d.rf = true := by
  obtain ⟨l, k, _, _, rfl⟩ := h
  intro d hd
  simp only [tpc, List.mem_cons, List.not_mem_nil, or_false] at hd
  rcases hd with rfl | rfl <;> rfl
theorem ints_len (l : List Int) : (l.map (DV.int .i64)).length = l.length := List.length_map ..
theorem ints_getD {l : List Int} {k : Nat} (h : k < l.length) : (l.map (DV.int .i64)).getD k .undef = .int .i64 (l.getD k 0) := by
  rw [List.getD_eq_getElem?_getD, List.getElem?_map, List.getElem?_eq_getElem h, List.getD_eq_getElem?_getD, List.getElem?_eq_getElem h]; rfl
theorem wMod_calls (v : Int) (n : Nat) (h1 : 1 ≤ n) (h2 : n ≤ 1000000) : ∃ k : Nat, k < n ∧ PCalls Tryd.prog 16 [.int .i64 v, .int .i64 n] (.int .i64 k) := by
  have hn0 : (n : Int) ≠ 0 := by omega
  have b1 : v.tmod n < n := Int.tmod_lt_of_pos v (by omega)
  have b2 : -(n : Int) < v.tmod n := by
    have := Int.lt_tmod_of_pos v (show (0 : Int) < n by omega)
    omega
  obtain ⟨m, hm⟩ : ∃ m, v.tmod n = m := ⟨_, rfl⟩
  rw [hm] at b1 b2
  by_cases hneg : m < 0
  · have d1 : decide (m < 0) = true := decide_eq_true hneg
    refine ⟨(m + n).toNat, by omega, PCalls_of iswMod (by simp [fnwMod]) ?_⟩
    have e1 : (((m + n).toNat : Nat) : Int) = m + n := by omega
    rw [e1]
    unfold codewMod
    repeat (first | (refine W_seq ?_) | (refine W_reg ?_) | (refine W_regd ?_) | (refine W_block ?_) | (refine And.intro (by omega) ?_) | simp (maxSteps := 1000000) (disch := omega) only [cA, cB, lk, lkH, Dst.onT, Dst.onX, Dst.slot, setF, setH, mapF, mapH, initF, binE, unE, cnt, boundE, newsE, freshE, opE, rmH, blkQ, frz_us, Nat.reduceEqDiff, Nat.reduceLT, Nat.reduceAdd, ↓reduceIte, reduceCtorEq, Nat.reduceLeDiff, hm, hn0, d1])
    refine W_cond rfl (fun _ => ?_) (fun h => by cases h)
    repeat (first | (refine W_seq ?_) | (refine W_reg ?_) | (refine W_regd ?_) | (refine W_block ?_) | (refine And.intro (by omega) ?_) | simp (maxSteps := 1000000) (disch := omega) only [cA, cB, lk, lkH, Dst.onT, Dst.onX, Dst.slot, setF, setH, mapF, mapH, initF, binE, unE, cnt, boundE, newsE, freshE, opE, rmH, blkQ, frz_us, Nat.reduceEqDiff, Nat.reduceLT, Nat.reduceAdd, ↓reduceIte, reduceCtorEq, Nat.reduceLeDiff])
    exact W_ret (RetP_1 (.imm rfl))
  · have d1 : decide (m < 0) = false := decide_eq_false hneg
    refine ⟨m.toNat, by omega, PCalls_of iswMod (by simp [fnwMod]) ?_⟩
    have e1 : ((m.toNat : Nat) : Int) = m := by omega
    rw [e1]
    unfold codewMod
    repeat (first | (refine W_seq ?_) | (refine W_reg ?_) | (refine W_regd ?_) | (refine W_block ?_) | (refine And.intro (by omega) ?_) | simp (maxSteps := 1000000) (disch := omega) only [cA, cB, lk, lkH, Dst.onT, Dst.onX, Dst.slot, setF, setH, mapF, mapH, initF, binE, unE, cnt, boundE, newsE, freshE, opE, rmH, blkQ, frz_us, Nat.reduceEqDiff, Nat.reduceLT, Nat.reduceAdd, ↓reduceIte, reduceCtorEq, Nat.reduceLeDiff, hm, hn0, d1])
    refine W_cond rfl (fun h => by cases h) (fun _ => W_skip ?_)
    repeat (first | (refine W_seq ?_) | (refine W_reg ?_) | (refine W_regd ?_) | (refine W_block ?_) | (refine And.intro (by omega) ?_) | simp (maxSteps := 1000000) (disch := omega) only [cA, cB, lk, lkH, Dst.onT, Dst.onX, Dst.slot, setF, setH, mapF, mapH, initF, binE, unE, cnt, boundE, newsE, freshE, opE, rmH, blkQ, frz_us, Nat.reduceEqDiff, Nat.reduceLT, Nat.reduceAdd, ↓reduceIte, reduceCtorEq, Nat.reduceLeDiff])
    exact W_ret (RetP_1 (.imm rfl))
def drawQ (n : Nat) (r : DV) (c' : List DV) : Prop := isTp c' ∧ ∃ k : Nat, (k < n ∨ k = 0) ∧ r = .int .i64 k
set_option maxHeartbeats 1000000 in
theorem wNext_calls (c : List DV) (n : Nat) (hc : isTp c) (hn : n ≤ 1000000) : TCalls Tryd.prog 7 [.ptr 1048576 0, .int .i64 n] c (drawQ n) := by
  have hrf := hc.rf
  obtain ⟨l, k, hl, hk, rfl⟩ := hc
  refine MRel_of iswNext (by simp [fnwNext]) ?_
  unfold codewNext tpc
  have hil := ints_len l
  by_cases h1 : n < 1
  · have d1 : decide ((n : Int) < 1) = true := decide_eq_true (by omega)
    repeat (first | (refine W_seq ?_) | (refine W_reg ?_) | (refine W_regd ?_) | (refine W_block ?_) | (refine And.intro (by omega) ?_) | simp (maxSteps := 1000000) (disch := omega) only [cA, cB, lk, lkH, Dst.onT, Dst.onX, Dst.slot, setF, setH, mapF, mapH, initF, binE, unE, cnt, boundE, newsE, freshE, opE, rmH, blkQ, frz_us, Nat.reduceEqDiff, Nat.reduceLT, Nat.reduceAdd, ↓reduceIte, reduceCtorEq, Nat.reduceLeDiff, d1])
    refine W_cond rfl (fun _ => ?_) (fun h => by cases h)
    repeat (first | (refine W_seq ?_) | (refine W_reg ?_) | (refine W_regd ?_) | (refine W_block ?_) | (refine And.intro (by omega) ?_) | simp (maxSteps := 1000000) (disch := omega) only [cA, cB, lk, lkH, Dst.onT, Dst.onX, Dst.slot, setF, setH, mapF, mapH, initF, binE, unE, cnt, boundE, newsE, freshE, opE, rmH, blkQ, frz_us, Nat.reduceEqDiff, Nat.reduceLT, Nat.reduceAdd, ↓reduceIte, reduceCtorEq, Nat.reduceLeDiff])
    exact W_ret (RetT (c' := tpc l k) rfl rfl hrf ⟨⟨l, k, hl, hk, rfl⟩, 0, .inr rfl, rfl⟩)
  · have d1 : decide ((n : Int) < 1) = false := decide_eq_false (by omega)
    by_cases h2 : k < l.length
    · have d2 : decide ((k : Int) ≥ (l.length : Int)) = false := decide_eq_false (by omega)
      obtain ⟨q, hq, cm⟩ := wMod_calls (l.getD k 0) n (by omega) hn
      have hg := ints_getD h2
      have e1 : ((k : Int) + 1) = ((k + 1 : Nat) : Int) := by omega
      have e2 : (((k + 1 : Nat) : Int) - 1) = (k : Int) := by omega
      have e3 : ((k : Int)).toNat = k := Int.toNat_natCast k
      repeat (first | (refine W_seq ?_) | (refine W_reg ?_) | (refine W_regd ?_) | (refine W_block ?_) | (refine And.intro (by omega) ?_) | simp (maxSteps := 1000000) (disch := omega) only [cA, cB, lk, lkH, Dst.onT, Dst.onX, Dst.slot, setF, setH, mapF, mapH, initF, binE, unE, cnt, boundE, newsE, freshE, opE, rmH, blkQ, frz_us, Nat.reduceEqDiff, Nat.reduceLT, Nat.reduceAdd, ↓reduceIte, reduceCtorEq, Nat.reduceLeDiff, d1, d2, hil])
      refine W_cond rfl (fun h => by cases h) (fun _ => W_skip ?_)
      have hidx : (0 : Int) ≤ (k : Int) ∧ (k : Int) < (l.length : Int) := by omega
      repeat (first | (refine W_seq ?_) | (refine W_reg ?_) | (refine W_regd ?_) | (refine W_block ?_) | (refine And.intro (by omega) ?_) | simp (maxSteps := 1000000) (disch := omega) only [cA, cB, lk, lkH, Dst.onT, Dst.onX, Dst.slot, setF, setH, mapF, mapH, initF, binE, unE, cnt, boundE, newsE, freshE, opE, rmH, blkQ, frz_us, Nat.reduceEqDiff, Nat.reduceLT, Nat.reduceAdd, ↓reduceIte, reduceCtorEq, Nat.reduceLeDiff, e1, e2, e3, hil, hg] | (refine callC_pure (cm) rfl ?_) | exact W_ret (RetP_1 (.imm rfl)) | exact W_ret (RetP_c rfl rfl rfl (.imm rfl)))
      have ht : isTp (tpc l (k + 1)) := ⟨l, k + 1, hl, h2, rfl⟩
      exact W_ret (RetT (c' := tpc l (k + 1)) rfl rfl ht.rf ⟨ht, q, .inl hq, rfl⟩)
    · have d2 : decide ((k : Int) ≥ (l.length : Int)) = true := decide_eq_true (by omega)
      repeat (first | (refine W_seq ?_) | (refine W_reg ?_) | (refine W_regd ?_) | (refine W_block ?_) | (refine And.intro (by omega) ?_) | simp (maxSteps := 1000000) (disch := omega) only [cA, cB, lk, lkH, Dst.onT, Dst.onX, Dst.slot, setF, setH, mapF, mapH, initF, binE, unE, cnt, boundE, newsE, freshE, opE, rmH, blkQ, frz_us, Nat.reduceEqDiff, Nat.reduceLT, Nat.reduceAdd, ↓reduceIte, reduceCtorEq, Nat.reduceLeDiff, d1, d2, hil])
      refine W_cond rfl (fun _ => ?_) (fun h => by cases h)
      repeat (first | (refine W_seq ?_) | (refine W_reg ?_) | (refine W_regd ?_) | (refine W_block ?_) | (refine And.intro (by omega) ?_) | simp (maxSteps := 1000000) (disch := omega) only [cA, cB, lk, lkH, Dst.onT, Dst.onX, Dst.slot, setF, setH, mapF, mapH, initF, binE, unE, cnt, boundE, newsE, freshE, opE, rmH, blkQ, frz_us, Nat.reduceEqDiff, Nat.reduceLT, Nat.reduceAdd, ↓reduceIte, reduceCtorEq, Nat.reduceLeDiff])
      exact W_ret (RetT (c' := tpc l k) rfl rfl hrf ⟨⟨l, k, hl, hk, rfl⟩, 0, .inr rfl, rfl⟩)
def boolQ (r : DV) (c' : List DV) : Prop := isTp c' ∧ ∃ b : Bool, r = .bool b
theorem wBool_calls (c : List DV) (n : Nat) (hc : isTp c) (hn : n ≤ 1000000) : TCalls Tryd.prog 10 [.ptr 1048576 0, .int .i64 n] c boolQ := by
  have cn := wNext_calls c n hc hn
  refine MRel_of iswBool (by simp [fnwBool]) ?_
  unfold codewBool
  repeat (first | (refine W_seq ?_) | (refine W_reg ?_) | (refine W_regd ?_) | (refine W_block ?_) | (refine And.intro (by omega) ?_) | simp (maxSteps := 1000000) (disch := omega) only [cA, cB, lk, lkH, Dst.onT, Dst.onX, Dst.slot, setF, setH, mapF, mapH, initF, binE, unE, cnt, boundE, newsE, freshE, opE, rmH, blkQ, frz_us, Nat.reduceEqDiff, Nat.reduceLT, Nat.reduceAdd, ↓reduceIte, reduceCtorEq, Nat.reduceLeDiff])
  refine callC_lend1 1048576 cn rfl (by simp [lkH]) hc.rf (by simp [rn, fwd1]) fun r c' hr hc' hQ => ?_
  obtain ⟨ht, k, _, rfl⟩ := hQ
  repeat (first | (refine W_seq ?_) | (refine W_reg ?_) | (refine W_regd ?_) | (refine W_block ?_) | (refine And.intro (by omega) ?_) | simp (maxSteps := 1000000) (disch := omega) only [cA, cB, lk, lkH, Dst.onT, Dst.onX, Dst.slot, setF, setH, mapF, mapH, initF, binE, unE, cnt, boundE, newsE, freshE, opE, rmH, blkQ, frz_us, Nat.reduceEqDiff, Nat.reduceLT, Nat.reduceAdd, ↓reduceIte, reduceCtorEq, Nat.reduceLeDiff])
  exact W_ret (RetT (c' := c') rfl (by simp [lkH, setH]) hc' ⟨ht, _, rfl⟩)
theorem wNew_calls (l : List Int) (hl : l.length ≤ 9223372036854775807) : NCalls Tryd.prog 5 [.sl 1 (l.map (.int .i64))] 10 isTp := by
  have hil := ints_len l
  refine MRel_of iswNew (by simp [fnwNew]) ?_
  unfold codewNew
  by_cases h : 400 < l.length
  · have d : decide ((400 : Int) < (l.length : Int)) = true := decide_eq_true (by omega)
    have hle : (400 : Int) ≤ l.length := by omega
    repeat (first | (refine W_seq ?_) | (refine W_reg ?_) | (refine W_regd ?_) | (refine W_block ?_) | (refine And.intro (by omega) ?_) | simp (maxSteps := 1000000) (disch := omega) only [cA, cB, lk, lkH, Dst.onT, Dst.onX, Dst.slot, setF, setH, mapF, mapH, initF, binE, unE, cnt, boundE, newsE, freshE, opE, rmH, blkQ, frz_us, Nat.reduceEqDiff, Nat.reduceLT, Nat.reduceAdd, ↓reduceIte, reduceCtorEq, Nat.reduceLeDiff, hil, d])
    refine W_cond rfl (fun _ => ?_) (fun h => by cases h)
    have ht : (l.map (DV.int .i64)).take (Int.toNat 400) = (l.take 400).map (.int .i64) := (List.map_take ..).symm
    have ht2 : isTp (tpc (l.take 400) 0) := ⟨l.take 400, 0, by simp; omega, Nat.zero_le _, rfl⟩
    repeat (first | (refine W_seq ?_) | (refine W_reg ?_) | (refine W_regd ?_) | (refine W_block ?_) | (refine And.intro (by omega) ?_) | simp (maxSteps := 1000000) (disch := omega) only [cA, cB, lk, lkH, Dst.onT, Dst.onX, Dst.slot, setF, setH, mapF, mapH, initF, binE, unE, cnt, boundE, newsE, freshE, opE, rmH, blkQ, frz_us, Nat.reduceEqDiff, Nat.reduceLT, Nat.reduceAdd, ↓reduceIte, reduceCtorEq, Nat.reduceLeDiff, hil, ht, cS, List.drop_zero])
    exact W_ret (RetN (cs := tpc (l.take 400) 0) rfl rfl ht2.rf ht2)
  · have d : decide ((400 : Int) < (l.length : Int)) = false := decide_eq_false (by omega)
    repeat (first | (refine W_seq ?_) | (refine W_reg ?_) | (refine W_regd ?_) | (refine W_block ?_) | (refine And.intro (by omega) ?_) | simp (maxSteps := 1000000) (disch := omega) only [cA, cB, lk, lkH, Dst.onT, Dst.onX, Dst.slot, setF, setH, mapF, mapH, initF, binE, unE, cnt, boundE, newsE, freshE, opE, rmH, blkQ, frz_us, Nat.reduceEqDiff, Nat.reduceLT, Nat.reduceAdd, ↓reduceIte, reduceCtorEq, Nat.reduceLeDiff, hil, d])
    refine W_cond rfl (fun h => by cases h) (fun _ => W_skip ?_)
    have ht2 : isTp (tpc l 0) := ⟨l, 0, by omega, Nat.zero_le _, rfl⟩
    repeat (first | (refine W_seq ?_) | (refine W_reg ?_) | (refine W_regd ?_) | (refine W_block ?_) | (refine And.intro (by omega) ?_) | simp (maxSteps := 1000000) (disch := omega) only [cA, cB, lk, lkH, Dst.onT, Dst.onX, Dst.slot, setF, setH, mapF, mapH, initF, binE, unE, cnt, boundE, newsE, freshE, opE, rmH, blkQ, frz_us, Nat.reduceEqDiff, Nat.reduceLT, Nat.reduceAdd, ↓reduceIte, reduceCtorEq, Nat.reduceLeDiff, cS])
    exact W_ret (RetN (cs := tpc l 0) rfl rfl ht2.rf ht2)
def strOf (S : List (List UInt8)) (r : DV) (c' : List DV) : Prop := isTp c' ∧ ∃ s ∈ S, r = .str s
def plains : List (List UInt8) := [[97], [49, 48], [45, 51, 47, 52], [98, 99, 100], [126], [33], [120, 50], [97, 98, 99, 100, 101, 102, 103, 104, 105, 106, 107, 108, 109, 110, 111, 112, 113, 114, 115, 116, 117, 118, 119, 120, 121, 122, 48, 49, 50, 51, 52, 53]]
def words16 : List (List UInt8) := [[97], [49, 48], [45, 51, 47, 52], [98, 99, 100], [126], [33], [120, 50], [], [97, 32, 98], [10], [127], [97, 98, 99, 100, 101, 102, 103, 104, 105, 106, 107, 108, 109, 110, 111, 112, 113, 114, 115, 116, 117, 118, 119, 120, 121, 122, 48, 49, 50, 51, 52, 53], [97, 98, 99, 100, 101, 102, 103, 104, 105, 106, 107, 108, 109, 110, 111, 112, 113, 114, 115, 116, 117, 118, 119, 120, 121, 122, 48, 49, 50, 51, 52, 53, 54], [121], [122], [119]]
theorem strs_getD {S : List (List UInt8)} {k : Nat} (h : k < S.length) : S.getD k [] ∈ S ∧ (S.map DV.str).getD k .undef = .str (S.getD k []) := by
  rw [List.getD_eq_getElem?_getD, List.getD_eq_getElem?_getD, List.getElem?_map, List.getElem?_eq_getElem h]
  exact ⟨List.getElem_mem h, rfl⟩
theorem lrPlain_calls (c : List DV) (hc : isTp c) : TCalls Tryd.prog 15 [.ptr 1048576 0] c (strOf plains) := by
  have cn := wNext_calls c 8 hc (by decide)
  refine MRel_of islrPlain (by simp [fnlrPlain]) ?_
  unfold codelrPlain
  repeat (first | (refine W_seq ?_) | (refine W_reg ?_) | (refine W_regd ?_) | (refine W_block ?_) | (refine And.intro (by omega) ?_) | simp (maxSteps := 1000000) (disch := omega) only [cA, cB, lk, lkH, Dst.onT, Dst.onX, Dst.slot, setF, setH, mapF, mapH, initF, binE, unE, cnt, boundE, newsE, freshE, opE, rmH, blkQ, frz_us, Nat.reduceEqDiff, Nat.reduceLT, Nat.reduceAdd, ↓reduceIte, reduceCtorEq, Nat.reduceLeDiff, cS, rfm_nil, rfm_str])
  refine callC_lend1 1048576 cn rfl (by simp [lkH]) hc.rf (by simp [rn, fwd1]) fun r c' hr hc' hQ => ?_
  obtain ⟨ht, k, hk, rfl⟩ := hQ
  have e3 : ((k : Int)).toNat = k := Int.toNat_natCast k
  have hlt : (k : Int) < 8 := by omega
  have hkl : k < plains.length := by have : plains.length = 8 := rfl; omega
  obtain ⟨hm, hg⟩ := strs_getD hkl
  repeat (first | (refine W_seq ?_) | (refine W_reg ?_) | (refine W_regd ?_) | (refine W_block ?_) | (refine And.intro (by omega) ?_) | simp (maxSteps := 1000000) (disch := omega) only [cA, cB, lk, lkH, Dst.onT, Dst.onX, Dst.slot, setF, setH, mapF, mapH, initF, binE, unE, cnt, boundE, newsE, freshE, opE, rmH, blkQ, frz_us, Nat.reduceEqDiff, Nat.reduceLT, Nat.reduceAdd, ↓reduceIte, reduceCtorEq, Nat.reduceLeDiff, e3])
  exact W_ret (RetT (c' := c') (Q := strOf plains) (by
    show ((plains.map DV.str).getD k .undef).rf = true
    rw [hg]; rfl) rfl hc' (by
    show strOf plains ((plains.map DV.str).getD k .undef) c'
    rw [hg]; exact ⟨ht, _, hm, rfl⟩))
theorem lrWord_calls (c : List DV) (hc : isTp c) : TCalls Tryd.prog 14 [.ptr 1048576 0] c (strOf words16) := by
  have cn := wNext_calls c 16 hc (by decide)
  refine MRel_of islrWord (by simp [fnlrWord]) ?_
  unfold codelrWord
  repeat (first | (refine W_seq ?_) | (refine W_reg ?_) | (refine W_regd ?_) | (refine W_block ?_) | (refine And.intro (by omega) ?_) | simp (maxSteps := 1000000) (disch := omega) only [cA, cB, lk, lkH, Dst.onT, Dst.onX, Dst.slot, setF, setH, mapF, mapH, initF, binE, unE, cnt, boundE, newsE, freshE, opE, rmH, blkQ, frz_us, Nat.reduceEqDiff, Nat.reduceLT, Nat.reduceAdd, ↓reduceIte, reduceCtorEq, Nat.reduceLeDiff, cS, rfm_nil, rfm_str])
  refine callC_lend1 1048576 cn rfl (by simp [lkH]) hc.rf (by simp [rn, fwd1]) fun r c' hr hc' hQ => ?_
  obtain ⟨ht, k, hk, rfl⟩ := hQ
  have e3 : ((k : Int)).toNat = k := Int.toNat_natCast k
  have hlt : (k : Int) < 16 := by omega
  have hkl : k < words16.length := by have : words16.length = 16 := rfl; omega
  obtain ⟨hm, hg⟩ := strs_getD hkl
  repeat (first | (refine W_seq ?_) | (refine W_reg ?_) | (refine W_regd ?_) | (refine W_block ?_) | (refine And.intro (by omega) ?_) | simp (maxSteps := 1000000) (disch := omega) only [cA, cB, lk, lkH, Dst.onT, Dst.onX, Dst.slot, setF, setH, mapF, mapH, initF, binE, unE, cnt, boundE, newsE, freshE, opE, rmH, blkQ, frz_us, Nat.reduceEqDiff, Nat.reduceLT, Nat.reduceAdd, ↓reduceIte, reduceCtorEq, Nat.reduceLeDiff, e3])
  exact W_ret (RetT (c' := c') (Q := strOf words16) (by
    show ((words16.map DV.str).getD k .undef).rf = true
    rw [hg]; rfl) rfl hc' (by
    show strOf words16 ((words16.map DV.str).getD k .undef) c'
    rw [hg]; exact ⟨ht, _, hm, rfl⟩))
def recsQ (S : List (List UInt8)) (c' : List DV) (n : Nat) (cs : List DV) : Prop := isTp c' ∧ ∃ rs : List (List (List UInt8)), rs.length ≤ 4 ∧ n = rs.length ∧ 1 ≤ n ∧ cs = recD rs ∧ ∃ m, 1 ≤ m ∧ m ≤ 4 ∧ ∀ r ∈ rs, r.length = m ∧ ∀ s ∈ r, s ∈ S
theorem recD_rf (rs : List (List (List UInt8))) : ∀ d ∈ recD rs, d.rf = true := by
  intro d hd
  unfold recD at hd
  obtain ⟨r, _, rfl⟩ := List.mem_map.1 hd
  rfl
theorem strL_rf (rs : List (List UInt8)) : (strL rs).all DV.rf = true := by
  refine List.all_eq_true.2 fun d hd => ?_
  unfold strL at hd
  obtain ⟨r, _, rfl⟩ := List.mem_map.1 hd
  rfl
theorem strL_app (rs : List (List UInt8)) (s : List UInt8) : strL rs ++ [.str s] = strL (rs ++ [s]) := by unfold strL; simp
theorem recD_app (rs : List (List (List UInt8))) (r : List (List UInt8)) : recD rs ++ [.sl 1 (strL r)] = recD (rs ++ [r]) := by unfold recD; simp
theorem purge_recD (o : Nat) (rs : List (List (List UInt8))) : (recD rs).map (purge o) = recD rs := map_purge o (recD_rf rs)
theorem purge_strL (o : Nat) (rs : List (List UInt8)) : (strL rs).map (purge o) = strL rs := map_purge o (List.all_eq_true.1 (strL_rf rs))
theorem frz_recD (o : Nat) (xs : List DV) (rs : List (List (List UInt8))) : (recD rs).map (frz o xs) = recD rs := map_frz o xs (recD_rf rs)
theorem frz_strL (r : List (List UInt8)) (o : Nat) : frz o (strL r) (.osl 1 o 0 r.length) = .sl 1 (strL r) := by
  have := strL_len r
  simp [frz, this]
  rw [List.take_of_length_le (Nat.le_of_eq this)]
def drawn (odd : Bool) : List (List UInt8) := if odd then words16 else plains
set_option maxHeartbeats 2000000 in
theorem lrRecords_calls (c : List DV) (odd : Bool) (hc : isTp c) : TNCalls Tryd.prog 6 [.ptr 1048576 0, .bool odd] c 39 1 (recsQ (drawn odd)) := by
  have cn := wNext_calls c 4 hc (by decide)
  refine MRel_of islrRecords (by simp [fnlrRecords]) ?_
  unfold codelrRecords
  repeat (first | (refine W_seq ?_) | (refine W_reg ?_) | (refine W_regd ?_) | (refine W_block ?_) | (refine And.intro (by omega) ?_) | simp (maxSteps := 1000000) (disch := omega) only [cA, cB, lk, lkH, Dst.onT, Dst.onX, Dst.slot, setF, setH, mapF, mapH, initF, binE, unE, cnt, boundE, newsE, freshE, opE, rmH, blkQ, frz_us, Nat.reduceEqDiff, Nat.reduceLT, Nat.reduceAdd, ↓reduceIte, reduceCtorEq, Nat.reduceLeDiff])
  refine callC_lend1 1048576 cn rfl (by simp [lkH]) hc.rf (by simp [rn, fwd1]) fun r c1 hr hc1 hQ => ?_
  obtain ⟨ht1, m, hm, rfl⟩ := hQ
  have cn1 := wNext_calls c1 4 ht1 (by decide)
  repeat (first | (refine W_seq ?_) | (refine W_reg ?_) | (refine W_regd ?_) | (refine W_block ?_) | (refine And.intro (by omega) ?_) | simp (maxSteps := 1000000) (disch := omega) only [cA, cB, lk, lkH, Dst.onT, Dst.onX, Dst.slot, setF, setH, mapF, mapH, initF, binE, unE, cnt, boundE, newsE, freshE, opE, rmH, blkQ, frz_us, Nat.reduceEqDiff, Nat.reduceLT, Nat.reduceAdd, ↓reduceIte, reduceCtorEq, Nat.reduceLeDiff])
  refine callC_lend1 1048576 cn1 rfl (by simp [lkH]) ht1.rf (by simp [rn, fwd1]) fun r c2 hr hc2 hQ => ?_
  obtain ⟨ht2, n, hn, rfl⟩ := hQ
  repeat (first | (refine W_seq ?_) | (refine W_reg ?_) | (refine W_regd ?_) | (refine W_block ?_) | (refine And.intro (by omega) ?_) | simp (maxSteps := 1000000) (disch := omega) only [cA, cB, lk, lkH, Dst.onT, Dst.onX, Dst.slot, setF, setH, mapF, mapH, initF, binE, unE, cnt, boundE, newsE, freshE, opE, rmH, blkQ, frz_us, Nat.reduceEqDiff, Nat.reduceLT, Nat.reduceAdd, ↓reduceIte, reduceCtorEq, Nat.reduceLeDiff])
  have eM : ((1 : Int) + (m : Int)) = ((m + 1 : Nat) : Int) := by omega
  have eN : ((1 : Int) + (n : Int)) = ((n + 1 : Nat) : Int) := by omega
  have hM : m + 1 ≤ 4 := by omega
  have hN : n + 1 ≤ 4 := by omega
  have hM1 : 1 ≤ m + 1 := by omega
  have hN1 : 1 ≤ n + 1 := by omega
  rw [eM, eN]
  generalize m + 1 = M at hM hM1 ⊢
  generalize n + 1 = N at hN hN1 ⊢
  clear eM eN cn cn1 hm hn
  refine W_own 6 1 39 rfl (by simp [lkH]) ?_
  simp (maxSteps := 1000000) (disch := omega) only [cA, cB, lk, lkH, Dst.onT, Dst.onX, Dst.slot, setF, setH, mapF, mapH, initF, binE, unE, cnt, boundE, newsE, freshE, opE, rmH, blkQ, frz_us, Nat.reduceEqDiff, Nat.reduceLT, Nat.reduceAdd, ↓reduceIte, reduceCtorEq, Nat.reduceLeDiff]
  cases odd
  · simp only [drawn]
    refine W_loop (σ := List (List (List UInt8)) × List DV) (fun s => [(0, .ptr 1048576 0), (1, .bool false), (5, .int .i64 M), (6, .osl 1 39 0 s.1.length), (7, .int .i64 ((N - s.1.length : Nat) : Int))]) (fun s => [(39, recD s.1), (1048576, s.2)]) (fun s => s.1.length ≤ N ∧ isTp s.2 ∧ ∀ r ∈ s.1, r.length = M ∧ ∀ x ∈ r, x ∈ plains) (fun s => N - s.1.length) ([], c2) (And.intro (Nat.zero_le _) (And.intro ht2 (fun r h => by cases h))) ?_ rfl ?_
    · simp [subF, lk]
    · rintro ⟨rs, c3⟩ ⟨hl, ht3, hrs⟩
      try simp only at hl ht3 hrs ⊢
      have hrl := recD_len rs
      by_cases hlt : rs.length < N
      · have dl : decide ((0 : Int) < ((N - rs.length : Nat) : Int)) = true := decide_eq_true (by omega)
        (replace hrs := Hid.mk hrs)
        repeat (first | (refine W_seq ?_) | (refine W_reg ?_) | (refine W_regd ?_) | (refine W_block ?_) | (refine And.intro (by omega) ?_) | simp (maxSteps := 1000000) (disch := omega) only [cA, cB, lk, lkH, Dst.onT, Dst.onX, Dst.slot, setF, setH, mapF, mapH, initF, binE, unE, cnt, boundE, newsE, freshE, opE, rmH, blkQ, frz_us, Nat.reduceEqDiff, Nat.reduceLT, Nat.reduceAdd, ↓reduceIte, reduceCtorEq, Nat.reduceLeDiff, dl])
        refine W_cond rfl (fun _ => W_skip ?_) (fun h => by cases h)
        repeat (first | (refine W_seq ?_) | (refine W_reg ?_) | (refine W_regd ?_) | (refine W_block ?_) | (refine And.intro (by omega) ?_) | simp (maxSteps := 1000000) (disch := omega) only [cA, cB, lk, lkH, Dst.onT, Dst.onX, Dst.slot, setF, setH, mapF, mapH, initF, binE, unE, cnt, boundE, newsE, freshE, opE, rmH, blkQ, frz_us, Nat.reduceEqDiff, Nat.reduceLT, Nat.reduceAdd, ↓reduceIte, reduceCtorEq, Nat.reduceLeDiff])
        refine W_own 8 1 35 rfl (by simp [lkH]) ?_
        repeat (first | (refine W_seq ?_) | (refine W_reg ?_) | (refine W_regd ?_) | (refine W_block ?_) | (refine And.intro (by omega) ?_) | simp (maxSteps := 1000000) (disch := omega) only [cA, cB, lk, lkH, Dst.onT, Dst.onX, Dst.slot, setF, setH, mapF, mapH, initF, binE, unE, cnt, boundE, newsE, freshE, opE, rmH, blkQ, frz_us, Nat.reduceEqDiff, Nat.reduceLT, Nat.reduceAdd, ↓reduceIte, reduceCtorEq, Nat.reduceLeDiff])
        refine W_loop (σ := List (List UInt8) × List DV) (fun s => [(0, .ptr 1048576 0), (1, .bool false), (5, .int .i64 M), (6, .osl 1 39 0 rs.length), (7, .int .i64 ((N - rs.length : Nat) : Int)), (8, .osl 1 35 0 s.1.length), (9, .int .i64 s.1.length)]) (fun s => [(35, strL s.1), (39, recD rs), (1048576, s.2)]) (fun s => s.1.length ≤ M ∧ isTp s.2 ∧ ∀ x ∈ s.1, x ∈ plains) (fun s => M - s.1.length) ([], c3) (And.intro (Nat.zero_le _) (And.intro ht3 (fun r h => by cases h))) ?_ rfl ?_
        · simp [subF, lk]
        · rintro ⟨r, c4⟩ ⟨hl4, ht4, hr4⟩
          try simp only at hl4 ht4 hr4 ⊢
          have hsl := strL_len r
          by_cases hlt4 : r.length < M
          · have d4 : decide ((r.length : Int) < (M : Int)) = true := decide_eq_true (by omega)
            have e1 : ((r.length : Int) + 1) = ((r.length + 1 : Nat) : Int) := by omega
            have cw := lrPlain_calls c4 ht4
            (replace hr4 := Hid.mk hr4)
            repeat (first | (refine W_seq ?_) | (refine W_reg ?_) | (refine W_regd ?_) | (refine W_block ?_) | (refine And.intro (by omega) ?_) | simp (maxSteps := 1000000) (disch := omega) only [cA, cB, lk, lkH, Dst.onT, Dst.onX, Dst.slot, setF, setH, mapF, mapH, initF, binE, unE, cnt, boundE, newsE, freshE, opE, rmH, blkQ, frz_us, Nat.reduceEqDiff, Nat.reduceLT, Nat.reduceAdd, ↓reduceIte, reduceCtorEq, Nat.reduceLeDiff, d4])
            refine W_cond rfl (fun _ => W_skip ?_) (fun h => by cases h)
            repeat (first | (refine W_seq ?_) | (refine W_reg ?_) | (refine W_regd ?_) | (refine W_block ?_) | (refine And.intro (by omega) ?_) | simp (maxSteps := 1000000) (disch := omega) only [cA, cB, lk, lkH, Dst.onT, Dst.onX, Dst.slot, setF, setH, mapF, mapH, initF, binE, unE, cnt, boundE, newsE, freshE, opE, rmH, blkQ, frz_us, Nat.reduceEqDiff, Nat.reduceLT, Nat.reduceAdd, ↓reduceIte, reduceCtorEq, Nat.reduceLeDiff])
            refine W_cond rfl (fun h => by cases h) (fun _ => ?_)
            repeat (first | (refine W_seq ?_) | (refine W_reg ?_) | (refine W_regd ?_) | (refine W_block ?_) | (refine And.intro (by omega) ?_) | simp (maxSteps := 1000000) (disch := omega) only [cA, cB, lk, lkH, Dst.onT, Dst.onX, Dst.slot, setF, setH, mapF, mapH, initF, binE, unE, cnt, boundE, newsE, freshE, opE, rmH, blkQ, frz_us, Nat.reduceEqDiff, Nat.reduceLT, Nat.reduceAdd, ↓reduceIte, reduceCtorEq, Nat.reduceLeDiff])
            refine callC_lend1 1048576 cw rfl (by simp [lkH]) ht4.rf (by simp [rn, fwd1]) fun q c5 hq hc5 hQ => ?_
            obtain ⟨ht5, x, hx, rfl⟩ := hQ
            repeat (first | (refine W_seq ?_) | (refine W_reg ?_) | (refine W_regd ?_) | (refine W_block ?_) | (refine And.intro (by omega) ?_) | simp (maxSteps := 1000000) (disch := omega) only [cA, cB, lk, lkH, Dst.onT, Dst.onX, Dst.slot, setF, setH, mapF, mapH, initF, binE, unE, cnt, boundE, newsE, freshE, opE, rmH, blkQ, frz_us, Nat.reduceEqDiff, Nat.reduceLT, Nat.reduceAdd, ↓reduceIte, reduceCtorEq, Nat.reduceLeDiff, cS, rfm_nil, rfm_str, hsl, e1])
            refine And.intro (And.intro (by omega) (And.intro (by omega) (fun d hd => by rw [List.mem_singleton.1 hd]; rfl))) ?_
            have hp5 := fun o => map_purge o hc5
            repeat (first | (refine W_seq ?_) | (refine W_reg ?_) | (refine W_regd ?_) | (refine W_block ?_) | (refine And.intro (by omega) ?_) | simp (maxSteps := 1000000) (disch := omega) only [cA, cB, lk, lkH, Dst.onT, Dst.onX, Dst.slot, setF, setH, mapF, mapH, initF, binE, unE, cnt, boundE, newsE, freshE, opE, rmH, blkQ, frz_us, Nat.reduceEqDiff, Nat.reduceLT, Nat.reduceAdd, ↓reduceIte, reduceCtorEq, Nat.reduceLeDiff, e1, strL_app, purge_strL, purge_recD, hp5])
            exact ⟨(r ++ [x], c5), And.intro (by simp; omega) (And.intro ht5 (fun y hy => by
              rcases List.mem_append.1 hy with h | h
              · exact hr4.out y h
              · rw [List.mem_singleton.1 h]; exact hx)), by simp; omega, by simp [subF, lk, purge, DV.has], rfl⟩
          · have d4 : decide ((r.length : Int) < (M : Int)) = false := decide_eq_false (by omega)
            have hrm : r.length = M := by omega
            repeat (first | (refine W_seq ?_) | (refine W_reg ?_) | (refine W_regd ?_) | (refine W_block ?_) | (refine And.intro (by omega) ?_) | simp (maxSteps := 1000000) (disch := omega) only [cA, cB, lk, lkH, Dst.onT, Dst.onX, Dst.slot, setF, setH, mapF, mapH, initF, binE, unE, cnt, boundE, newsE, freshE, opE, rmH, blkQ, frz_us, Nat.reduceEqDiff, Nat.reduceLT, Nat.reduceAdd, ↓reduceIte, reduceCtorEq, Nat.reduceLeDiff, d4])
            refine W_cond rfl (fun h => by cases h) (fun _ => W_exit ?_)
            simp (maxSteps := 1000000) (disch := omega) only [cA, cB, lk, lkH, Dst.onT, Dst.onX, Dst.slot, setF, setH, mapF, mapH, initF, binE, unE, cnt, boundE, newsE, freshE, opE, rmH, blkQ, frz_us, Nat.reduceEqDiff, Nat.reduceLT, Nat.reduceAdd, ↓reduceIte, reduceCtorEq, Nat.reduceLeDiff]
            refine W_freeze 35 (cells := strL r) rfl (strL_rf r) ?_
            have hf0 : ∀ o xs, o ≠ 1048576 → frz o xs (.ptr 1048576 0) = .ptr 1048576 0 := fun o xs h => frz_ptr_ne _ _ 0 (Ne.symm h)
            have hfz := frz_strL r 35
            have e3 : ((N - rs.length : Nat) : Int) - 1 = ((N - (rs ++ [r]).length : Nat) : Int) := by simp; omega
            have e4 : rs.length + 1 = (rs ++ [r]).length := by simp
            have hf3 := fun o xs => map_frz o xs ht3.rf
            have hf4 := fun o xs => map_frz o xs ht4.rf
            have hp4 := fun o => map_purge o ht4.rf
            repeat (first | (refine W_seq ?_) | (refine W_reg ?_) | (refine W_regd ?_) | (refine W_block ?_) | (refine And.intro (by omega) ?_) | simp (maxSteps := 1000000) (disch := omega) only [cA, cB, lk, lkH, Dst.onT, Dst.onX, Dst.slot, setF, setH, mapF, mapH, initF, binE, unE, cnt, boundE, newsE, freshE, opE, rmH, blkQ, frz_us, Nat.reduceEqDiff, Nat.reduceLT, Nat.reduceAdd, ↓reduceIte, reduceCtorEq, Nat.reduceLeDiff, hfz, cS, rfm_nil, rfm_sl, hrl, frz_recD, hf4])
            refine And.intro (And.intro (by omega) (And.intro (by omega) (fun d hd => by rw [List.mem_singleton.1 hd]; rfl))) ?_
            repeat (first | (refine W_seq ?_) | (refine W_reg ?_) | (refine W_regd ?_) | (refine W_block ?_) | (refine And.intro (by omega) ?_) | simp (maxSteps := 1000000) (disch := omega) only [cA, cB, lk, lkH, Dst.onT, Dst.onX, Dst.slot, setF, setH, mapF, mapH, initF, binE, unE, cnt, boundE, newsE, freshE, opE, rmH, blkQ, frz_us, Nat.reduceEqDiff, Nat.reduceLT, Nat.reduceAdd, ↓reduceIte, reduceCtorEq, Nat.reduceLeDiff, hp4, purge_recD, recD_app, e3, e4])
            exact ⟨(rs ++ [r], c4), And.intro (by simp; omega) (And.intro ht4 (fun y hy => by
              rcases List.mem_append.1 hy with h | h
              · exact hrs.out y h
              · rw [List.mem_singleton.1 h]; exact ⟨hrm, hr4⟩)), by simp; omega, by simp [subF, lk, purge, DV.has, hf0], rfl⟩
      · have dl : decide ((0 : Int) < ((N - rs.length : Nat) : Int)) = false := decide_eq_false (by omega)
        have hln : rs.length = N := by omega
        repeat (first | (refine W_seq ?_) | (refine W_reg ?_) | (refine W_regd ?_) | (refine W_block ?_) | (refine And.intro (by omega) ?_) | simp (maxSteps := 1000000) (disch := omega) only [cA, cB, lk, lkH, Dst.onT, Dst.onX, Dst.slot, setF, setH, mapF, mapH, initF, binE, unE, cnt, boundE, newsE, freshE, opE, rmH, blkQ, frz_us, Nat.reduceEqDiff, Nat.reduceLT, Nat.reduceAdd, ↓reduceIte, reduceCtorEq, Nat.reduceLeDiff, dl])
        refine W_cond rfl (fun h => by cases h) (fun _ => W_exit ?_)
        repeat (first | (refine W_seq ?_) | (refine W_reg ?_) | (refine W_regd ?_) | (refine W_block ?_) | (refine And.intro (by omega) ?_) | simp (maxSteps := 1000000) (disch := omega) only [cA, cB, lk, lkH, Dst.onT, Dst.onX, Dst.slot, setF, setH, mapF, mapH, initF, binE, unE, cnt, boundE, newsE, freshE, opE, rmH, blkQ, frz_us, Nat.reduceEqDiff, Nat.reduceLT, Nat.reduceAdd, ↓reduceIte, reduceCtorEq, Nat.reduceLeDiff])
        exact W_ret (RetTN (c' := c3) (cs := recD rs) (n := rs.length) (by decide) rfl rfl rfl ht3.rf (recD_rf rs) ⟨ht3, rs, by omega, rfl, by omega, rfl, M, by omega, by omega, hrs⟩)
  · simp only [drawn]
    refine W_loop (σ := List (List (List UInt8)) × List DV) (fun s => [(0, .ptr 1048576 0), (1, .bool true), (5, .int .i64 M), (6, .osl 1 39 0 s.1.length), (7, .int .i64 ((N - s.1.length : Nat) : Int))]) (fun s => [(39, recD s.1), (1048576, s.2)]) (fun s => s.1.length ≤ N ∧ isTp s.2 ∧ ∀ r ∈ s.1, r.length = M ∧ ∀ x ∈ r, x ∈ words16) (fun s => N - s.1.length) ([], c2) (And.intro (Nat.zero_le _) (And.intro ht2 (fun r h => by cases h))) ?_ rfl ?_
    · simp [subF, lk]
    · rintro ⟨rs, c3⟩ ⟨hl, ht3, hrs⟩
      try simp only at hl ht3 hrs ⊢
      have hrl := recD_len rs
      by_cases hlt : rs.length < N
      · have dl : decide ((0 : Int) < ((N - rs.length : Nat) : Int)) = true := decide_eq_true (by omega)
        (replace hrs := Hid.mk hrs)
        repeat (first | (refine W_seq ?_) | (refine W_reg ?_) | (refine W_regd ?_) | (refine W_block ?_) | (refine And.intro (by omega) ?_) | simp (maxSteps := 1000000) (disch := omega) only [cA, cB, lk, lkH, Dst.onT, Dst.onX, Dst.slot, setF, setH, mapF, mapH, initF, binE, unE, cnt, boundE, newsE, freshE, opE, rmH, blkQ, frz_us, Nat.reduceEqDiff, Nat.reduceLT, Nat.reduceAdd, ↓reduceIte, reduceCtorEq, Nat.reduceLeDiff, dl])
        refine W_cond rfl (fun _ => W_skip ?_) (fun h => by cases h)
        repeat (first | (refine W_seq ?_) | (refine W_reg ?_) | (refine W_regd ?_) | (refine W_block ?_) | (refine And.intro (by omega) ?_) | simp (maxSteps := 1000000) (disch := omega) only [cA, cB, lk, lkH, Dst.onT, Dst.onX, Dst.slot, setF, setH, mapF, mapH, initF, binE, unE, cnt, boundE, newsE, freshE, opE, rmH, blkQ, frz_us, Nat.reduceEqDiff, Nat.reduceLT, Nat.reduceAdd, ↓reduceIte, reduceCtorEq, Nat.reduceLeDiff])
        refine W_own 8 1 30 rfl (by simp [lkH]) ?_
        repeat (first | (refine W_seq ?_) | (refine W_reg ?_) | (refine W_regd ?_) | (refine W_block ?_) | (refine And.intro (by omega) ?_) | simp (maxSteps := 1000000) (disch := omega) only [cA, cB, lk, lkH, Dst.onT, Dst.onX, Dst.slot, setF, setH, mapF, mapH, initF, binE, unE, cnt, boundE, newsE, freshE, opE, rmH, blkQ, frz_us, Nat.reduceEqDiff, Nat.reduceLT, Nat.reduceAdd, ↓reduceIte, reduceCtorEq, Nat.reduceLeDiff])
        refine W_loop (σ := List (List UInt8) × List DV) (fun s => [(0, .ptr 1048576 0), (1, .bool true), (5, .int .i64 M), (6, .osl 1 39 0 rs.length), (7, .int .i64 ((N - rs.length : Nat) : Int)), (8, .osl 1 30 0 s.1.length), (9, .int .i64 s.1.length)]) (fun s => [(30, strL s.1), (39, recD rs), (1048576, s.2)]) (fun s => s.1.length ≤ M ∧ isTp s.2 ∧ ∀ x ∈ s.1, x ∈ words16) (fun s => M - s.1.length) ([], c3) (And.intro (Nat.zero_le _) (And.intro ht3 (fun r h => by cases h))) ?_ rfl ?_
        · simp [subF, lk]
        · rintro ⟨r, c4⟩ ⟨hl4, ht4, hr4⟩
          try simp only at hl4 ht4 hr4 ⊢
          have hsl := strL_len r
          by_cases hlt4 : r.length < M
          · have d4 : decide ((r.length : Int) < (M : Int)) = true := decide_eq_true (by omega)
            have e1 : ((r.length : Int) + 1) = ((r.length + 1 : Nat) : Int) := by omega
            have cw := lrWord_calls c4 ht4
            (replace hr4 := Hid.mk hr4)
            repeat (first | (refine W_seq ?_) | (refine W_reg ?_) | (refine W_regd ?_) | (refine W_block ?_) | (refine And.intro (by omega) ?_) | simp (maxSteps := 1000000) (disch := omega) only [cA, cB, lk, lkH, Dst.onT, Dst.onX, Dst.slot, setF, setH, mapF, mapH, initF, binE, unE, cnt, boundE, newsE, freshE, opE, rmH, blkQ, frz_us, Nat.reduceEqDiff, Nat.reduceLT, Nat.reduceAdd, ↓reduceIte, reduceCtorEq, Nat.reduceLeDiff, d4])
            refine W_cond rfl (fun _ => W_skip ?_) (fun h => by cases h)
            repeat (first | (refine W_seq ?_) | (refine W_reg ?_) | (refine W_regd ?_) | (refine W_block ?_) | (refine And.intro (by omega) ?_) | simp (maxSteps := 1000000) (disch := omega) only [cA, cB, lk, lkH, Dst.onT, Dst.onX, Dst.slot, setF, setH, mapF, mapH, initF, binE, unE, cnt, boundE, newsE, freshE, opE, rmH, blkQ, frz_us, Nat.reduceEqDiff, Nat.reduceLT, Nat.reduceAdd, ↓reduceIte, reduceCtorEq, Nat.reduceLeDiff])
            refine W_cond rfl (fun _ => ?_) (fun h => by cases h)
            repeat (first | (refine W_seq ?_) | (refine W_reg ?_) | (refine W_regd ?_) | (refine W_block ?_) | (refine And.intro (by omega) ?_) | simp (maxSteps := 1000000) (disch := omega) only [cA, cB, lk, lkH, Dst.onT, Dst.onX, Dst.slot, setF, setH, mapF, mapH, initF, binE, unE, cnt, boundE, newsE, freshE, opE, rmH, blkQ, frz_us, Nat.reduceEqDiff, Nat.reduceLT, Nat.reduceAdd, ↓reduceIte, reduceCtorEq, Nat.reduceLeDiff])
            refine callC_lend1 1048576 cw rfl (by simp [lkH]) ht4.rf (by simp [rn, fwd1]) fun q c5 hq hc5 hQ => ?_
            obtain ⟨ht5, x, hx, rfl⟩ := hQ
            repeat (first | (refine W_seq ?_) | (refine W_reg ?_) | (refine W_regd ?_) | (refine W_block ?_) | (refine And.intro (by omega) ?_) | simp (maxSteps := 1000000) (disch := omega) only [cA, cB, lk, lkH, Dst.onT, Dst.onX, Dst.slot, setF, setH, mapF, mapH, initF, binE, unE, cnt, boundE, newsE, freshE, opE, rmH, blkQ, frz_us, Nat.reduceEqDiff, Nat.reduceLT, Nat.reduceAdd, ↓reduceIte, reduceCtorEq, Nat.reduceLeDiff, cS, rfm_nil, rfm_str, hsl, e1])
            refine And.intro (And.intro (by omega) (And.intro (by omega) (fun d hd => by rw [List.mem_singleton.1 hd]; rfl))) ?_
            have hp5 := fun o => map_purge o hc5
            repeat (first | (refine W_seq ?_) | (refine W_reg ?_) | (refine W_regd ?_) | (refine W_block ?_) | (refine And.intro (by omega) ?_) | simp (maxSteps := 1000000) (disch := omega) only [cA, cB, lk, lkH, Dst.onT, Dst.onX, Dst.slot, setF, setH, mapF, mapH, initF, binE, unE, cnt, boundE, newsE, freshE, opE, rmH, blkQ, frz_us, Nat.reduceEqDiff, Nat.reduceLT, Nat.reduceAdd, ↓reduceIte, reduceCtorEq, Nat.reduceLeDiff, e1, strL_app, purge_strL, purge_recD, hp5])
            exact ⟨(r ++ [x], c5), And.intro (by simp; omega) (And.intro ht5 (fun y hy => by
              rcases List.mem_append.1 hy with h | h
              · exact hr4.out y h
              · rw [List.mem_singleton.1 h]; exact hx)), by simp; omega, by simp [subF, lk, purge, DV.has], rfl⟩
          · have d4 : decide ((r.length : Int) < (M : Int)) = false := decide_eq_false (by omega)
            have hrm : r.length = M := by omega
            repeat (first | (refine W_seq ?_) | (refine W_reg ?_) | (refine W_regd ?_) | (refine W_block ?_) | (refine And.intro (by omega) ?_) | simp (maxSteps := 1000000) (disch := omega) only [cA, cB, lk, lkH, Dst.onT, Dst.onX, Dst.slot, setF, setH, mapF, mapH, initF, binE, unE, cnt, boundE, newsE, freshE, opE, rmH, blkQ, frz_us, Nat.reduceEqDiff, Nat.reduceLT, Nat.reduceAdd, ↓reduceIte, reduceCtorEq, Nat.reduceLeDiff, d4])
            refine W_cond rfl (fun h => by cases h) (fun _ => W_exit ?_)
            simp (maxSteps := 1000000) (disch := omega) only [cA, cB, lk, lkH, Dst.onT, Dst.onX, Dst.slot, setF, setH, mapF, mapH, initF, binE, unE, cnt, boundE, newsE, freshE, opE, rmH, blkQ, frz_us, Nat.reduceEqDiff, Nat.reduceLT, Nat.reduceAdd, ↓reduceIte, reduceCtorEq, Nat.reduceLeDiff]
            refine W_freeze 30 (cells := strL r) rfl (strL_rf r) ?_
            have hf0 : ∀ o xs, o ≠ 1048576 → frz o xs (.ptr 1048576 0) = .ptr 1048576 0 := fun o xs h => frz_ptr_ne _ _ 0 (Ne.symm h)
            have hfz := frz_strL r 30
            have e3 : ((N - rs.length : Nat) : Int) - 1 = ((N - (rs ++ [r]).length : Nat) : Int) := by simp; omega
            have e4 : rs.length + 1 = (rs ++ [r]).length := by simp
            have hf3 := fun o xs => map_frz o xs ht3.rf
            have hf4 := fun o xs => map_frz o xs ht4.rf
            have hp4 := fun o => map_purge o ht4.rf
            repeat (first | (refine W_seq ?_) | (refine W_reg ?_) | (refine W_regd ?_) | (refine W_block ?_) | (refine And.intro (by omega) ?_) | simp (maxSteps := 1000000) (disch := omega) only [cA, cB, lk, lkH, Dst.onT, Dst.onX, Dst.slot, setF, setH, mapF, mapH, initF, binE, unE, cnt, boundE, newsE, freshE, opE, rmH, blkQ, frz_us, Nat.reduceEqDiff, Nat.reduceLT, Nat.reduceAdd, ↓reduceIte, reduceCtorEq, Nat.reduceLeDiff, hfz, cS, rfm_nil, rfm_sl, hrl, frz_recD, hf4])
            refine And.intro (And.intro (by omega) (And.intro (by omega) (fun d hd => by rw [List.mem_singleton.1 hd]; rfl))) ?_
            repeat (first | (refine W_seq ?_) | (refine W_reg ?_) | (refine W_regd ?_) | (refine W_block ?_) | (refine And.intro (by omega) ?_) | simp (maxSteps := 1000000) (disch := omega) only [cA, cB, lk, lkH, Dst.onT, Dst.onX, Dst.slot, setF, setH, mapF, mapH, initF, binE, unE, cnt, boundE, newsE, freshE, opE, rmH, blkQ, frz_us, Nat.reduceEqDiff, Nat.reduceLT, Nat.reduceAdd, ↓reduceIte, reduceCtorEq, Nat.reduceLeDiff, hp4, purge_recD, recD_app, e3, e4])
            exact ⟨(rs ++ [r], c4), And.intro (by simp; omega) (And.intro ht4 (fun y hy => by
              rcases List.mem_append.1 hy with h | h
              · exact hrs.out y h
              · rw [List.mem_singleton.1 h]; exact ⟨hrm, hr4⟩)), by simp; omega, by simp [subF, lk, purge, DV.has, hf0], rfl⟩
      · have dl : decide ((0 : Int) < ((N - rs.length : Nat) : Int)) = false := decide_eq_false (by omega)
        have hln : rs.length = N := by omega
        repeat (first | (refine W_seq ?_) | (refine W_reg ?_) | (refine W_regd ?_) | (refine W_block ?_) | (refine And.intro (by omega) ?_) | simp (maxSteps := 1000000) (disch := omega) only [cA, cB, lk, lkH, Dst.onT, Dst.onX, Dst.slot, setF, setH, mapF, mapH, initF, binE, unE, cnt, boundE, newsE, freshE, opE, rmH, blkQ, frz_us, Nat.reduceEqDiff, Nat.reduceLT, Nat.reduceAdd, ↓reduceIte, reduceCtorEq, Nat.reduceLeDiff, dl])
        refine W_cond rfl (fun h => by cases h) (fun _ => W_exit ?_)
        repeat (first | (refine W_seq ?_) | (refine W_reg ?_) | (refine W_regd ?_) | (refine W_block ?_) | (refine And.intro (by omega) ?_) | simp (maxSteps := 1000000) (disch := omega) only [cA, cB, lk, lkH, Dst.onT, Dst.onX, Dst.slot, setF, setH, mapF, mapH, initF, binE, unE, cnt, boundE, newsE, freshE, opE, rmH, blkQ, frz_us, Nat.reduceEqDiff, Nat.reduceLT, Nat.reduceAdd, ↓reduceIte, reduceCtorEq, Nat.reduceLeDiff])
        exact W_ret (RetTN (c' := c3) (cs := recD rs) (n := rs.length) (by decide) rfl rfl rfl ht3.rf (recD_rf rs) ⟨ht3, rs, by omega, rfl, by omega, rfl, M, by omega, by omega, hrs⟩)
end Go.Proofs.YtammbggabhnfdaaDoor
namespace Go.Proofs.YtammbggabhnfdaaDoor
open Go Go.Dat Go.Proofs Nat32 Go.RowKit
theorem reCell_calls (l : List UInt8) (hl : l.length ≤ 9223372036854775807) : PCalls Tryd.prog 22 [.str l] (.bool (cellB l)) := by
  refine PCalls_of isreCell (by simp [fnreCell]) ?_
  unfold codereCell
  repeat (first | (refine W_seq ?_) | (refine W_reg ?_) | (refine W_regd ?_) | (refine W_block ?_) | (refine And.intro (by omega) ?_) | simp (maxSteps := 1000000) (disch := omega) only [cA, cB, lk, lkH, Dst.onT, Dst.onX, Dst.slot, setF, setH, mapF, mapH, initF, binE, unE, cnt, boundE, newsE, freshE, opE, rmH, blkQ, frz_us, Nat.reduceEqDiff, Nat.reduceLT, Nat.reduceAdd, ↓reduceIte, reduceCtorEq, Nat.reduceLeDiff])
  refine W_loop (σ := Nat) (fun i => [(0, .str l), (2, .bool false), (3, .int .i64 i)]) (fun _ => []) (fun i => i ≤ l.length ∧ (l.take i).all cellC = true) (fun i => l.length - i) 0 (And.intro (Nat.zero_le _) rfl) ?_ rfl ?_
  · simp [subF, lk]
  · rintro i ⟨hi, hall⟩
    try simp only at hi hall ⊢
    by_cases hlt : i < l.length
    · have dl : decide ((i : Int) < l.length) = true := decide_eq_true (by omega)
      have ei : (i : Int).toNat = i := Int.toNat_natCast i
      have hta := @take_all1 cellC l i hlt hall
      have hbad := @all_bad1 cellC l i hlt
      obtain ⟨c, hc⟩ : ∃ c, l.getD i 0 = c := ⟨_, rfl⟩
      rw [hc] at hta hbad
      have hk : c.toNat < 256 := UInt8.toNat_lt c
      have eb : byteD c = .int .u8 (c.toNat : Nat) := rfl
      have e1 : ((i : Int) + 1) = ((i + 1 : Nat) : Int) := by omega
      repeat (first | (refine W_seq ?_) | (refine W_reg ?_) | (refine W_regd ?_) | (refine W_block ?_) | (refine And.intro (by omega) ?_) | simp (maxSteps := 1000000) (disch := omega) only [cA, cB, lk, lkH, Dst.onT, Dst.onX, Dst.slot, setF, setH, mapF, mapH, initF, binE, unE, cnt, boundE, newsE, freshE, opE, rmH, blkQ, frz_us, Nat.reduceEqDiff, Nat.reduceLT, Nat.reduceAdd, ↓reduceIte, reduceCtorEq, Nat.reduceLeDiff, dl])
      refine W_cond rfl (fun _ => W_skip ?_) (fun h => by cases h)
      by_cases h33 : c.toNat < 33
      · have d5 : decide (((c.toNat : Nat) : Int) < 33) = true := decide_eq_true (by omega)
        have hcb : cellB l = false := by unfold cellB; rw [hbad (by unfold cellC; rw [decide_eq_false (by omega)]; rfl)]; rfl
        rw [hcb]
        clear hta hbad hall
        repeat (first | (refine W_seq ?_) | (refine W_reg ?_) | (refine W_regd ?_) | (refine W_block ?_) | (refine And.intro (by omega) ?_) | simp (maxSteps := 1000000) (disch := omega) only [cA, cB, lk, lkH, Dst.onT, Dst.onX, Dst.slot, setF, setH, mapF, mapH, initF, binE, unE, cnt, boundE, newsE, freshE, opE, rmH, blkQ, frz_us, Nat.reduceEqDiff, Nat.reduceLT, Nat.reduceAdd, ↓reduceIte, reduceCtorEq, Nat.reduceLeDiff, ei, hc, eb, d5])
        refine W_cond rfl (fun _ => ?_) (fun h => by cases h)
        repeat (first | (refine W_seq ?_) | (refine W_reg ?_) | (refine W_regd ?_) | (refine W_block ?_) | (refine And.intro (by omega) ?_) | simp (maxSteps := 1000000) (disch := omega) only [cA, cB, lk, lkH, Dst.onT, Dst.onX, Dst.slot, setF, setH, mapF, mapH, initF, binE, unE, cnt, boundE, newsE, freshE, opE, rmH, blkQ, frz_us, Nat.reduceEqDiff, Nat.reduceLT, Nat.reduceAdd, ↓reduceIte, reduceCtorEq, Nat.reduceLeDiff])
        exact W_ret (RetP_1 (.imm rfl))
      · have d5 : decide (((c.toNat : Nat) : Int) < 33) = false := decide_eq_false (by omega)
        by_cases h126 : 126 < c.toNat
        · have d6 : decide ((126 : Int) < ((c.toNat : Nat) : Int)) = true := decide_eq_true (by omega)
          have hcb : cellB l = false := by unfold cellB; rw [hbad (by unfold cellC; rw [decide_eq_false (show ¬ c.toNat ≤ 126 by omega), Bool.and_false])]; rfl
          rw [hcb]
          clear hta hbad hall
          repeat (first | (refine W_seq ?_) | (refine W_reg ?_) | (refine W_regd ?_) | (refine W_block ?_) | (refine And.intro (by omega) ?_) | simp (maxSteps := 1000000) (disch := omega) only [cA, cB, lk, lkH, Dst.onT, Dst.onX, Dst.slot, setF, setH, mapF, mapH, initF, binE, unE, cnt, boundE, newsE, freshE, opE, rmH, blkQ, frz_us, Nat.reduceEqDiff, Nat.reduceLT, Nat.reduceAdd, ↓reduceIte, reduceCtorEq, Nat.reduceLeDiff, ei, hc, eb, d5, d6])
          refine W_cond rfl (fun _ => ?_) (fun h => by cases h)
          repeat (first | (refine W_seq ?_) | (refine W_reg ?_) | (refine W_regd ?_) | (refine W_block ?_) | (refine And.intro (by omega) ?_) | simp (maxSteps := 1000000) (disch := omega) only [cA, cB, lk, lkH, Dst.onT, Dst.onX, Dst.slot, setF, setH, mapF, mapH, initF, binE, unE, cnt, boundE, newsE, freshE, opE, rmH, blkQ, frz_us, Nat.reduceEqDiff, Nat.reduceLT, Nat.reduceAdd, ↓reduceIte, reduceCtorEq, Nat.reduceLeDiff])
          exact W_ret (RetP_1 (.imm rfl))
        · have d6 : decide ((126 : Int) < ((c.toNat : Nat) : Int)) = false := decide_eq_false (by omega)
          have hta' := hta (by unfold cellC; rw [decide_eq_true (by omega), decide_eq_true (by omega)]; rfl)
          clear hta hbad hall
          (replace hta' := Hid.mk hta')
          repeat (first | (refine W_seq ?_) | (refine W_reg ?_) | (refine W_regd ?_) | (refine W_block ?_) | (refine And.intro (by omega) ?_) | simp (maxSteps := 1000000) (disch := omega) only [cA, cB, lk, lkH, Dst.onT, Dst.onX, Dst.slot, setF, setH, mapF, mapH, initF, binE, unE, cnt, boundE, newsE, freshE, opE, rmH, blkQ, frz_us, Nat.reduceEqDiff, Nat.reduceLT, Nat.reduceAdd, ↓reduceIte, reduceCtorEq, Nat.reduceLeDiff, ei, hc, eb, d5, d6])
          refine W_cond rfl (fun h => by cases h) (fun _ => W_skip ?_)
          repeat (first | (refine W_seq ?_) | (refine W_reg ?_) | (refine W_regd ?_) | (refine W_block ?_) | (refine And.intro (by omega) ?_) | simp (maxSteps := 1000000) (disch := omega) only [cA, cB, lk, lkH, Dst.onT, Dst.onX, Dst.slot, setF, setH, mapF, mapH, initF, binE, unE, cnt, boundE, newsE, freshE, opE, rmH, blkQ, frz_us, Nat.reduceEqDiff, Nat.reduceLT, Nat.reduceAdd, ↓reduceIte, reduceCtorEq, Nat.reduceLeDiff, e1])
          exact ⟨i + 1, And.intro hlt hta'.out, by omega, by simp [subF, lk]⟩
    · have dl : decide ((i : Int) < l.length) = false := decide_eq_false (by omega)
      have hil : i = l.length := by omega
      rw [hil, List.take_length] at hall
      have hcb : cellB l = (decide (1 ≤ l.length) && decide (l.length ≤ 32)) := by unfold cellB; rw [hall]; rfl
      rw [hcb]
      by_cases h1 : 1 ≤ l.length
      · have d1 : decide ((1 : Int) ≤ (l.length : Int)) = true := decide_eq_true (by omega)
        have d2 : decide ((l.length : Int) ≤ 32) = decide (l.length ≤ 32) := by rw [decide_eq_decide]; omega
        rw [decide_eq_true h1, Bool.true_and, ← d2]
        repeat (first | (refine W_seq ?_) | (refine W_reg ?_) | (refine W_regd ?_) | (refine W_block ?_) | (refine And.intro (by omega) ?_) | simp (maxSteps := 1000000) (disch := omega) only [cA, cB, lk, lkH, Dst.onT, Dst.onX, Dst.slot, setF, setH, mapF, mapH, initF, binE, unE, cnt, boundE, newsE, freshE, opE, rmH, blkQ, frz_us, Nat.reduceEqDiff, Nat.reduceLT, Nat.reduceAdd, ↓reduceIte, reduceCtorEq, Nat.reduceLeDiff, dl])
        refine W_cond rfl (fun h => by cases h) (fun _ => W_exit ?_)
        repeat (first | (refine W_seq ?_) | (refine W_reg ?_) | (refine W_regd ?_) | (refine W_block ?_) | (refine And.intro (by omega) ?_) | simp (maxSteps := 1000000) (disch := omega) only [cA, cB, lk, lkH, Dst.onT, Dst.onX, Dst.slot, setF, setH, mapF, mapH, initF, binE, unE, cnt, boundE, newsE, freshE, opE, rmH, blkQ, frz_us, Nat.reduceEqDiff, Nat.reduceLT, Nat.reduceAdd, ↓reduceIte, reduceCtorEq, Nat.reduceLeDiff, d1])
        exact W_ret (RetP_1 (.imm rfl))
      · have d1 : decide ((1 : Int) ≤ (l.length : Int)) = false := decide_eq_false (by omega)
        rw [decide_eq_false h1, Bool.false_and]
        repeat (first | (refine W_seq ?_) | (refine W_reg ?_) | (refine W_regd ?_) | (refine W_block ?_) | (refine And.intro (by omega) ?_) | simp (maxSteps := 1000000) (disch := omega) only [cA, cB, lk, lkH, Dst.onT, Dst.onX, Dst.slot, setF, setH, mapF, mapH, initF, binE, unE, cnt, boundE, newsE, freshE, opE, rmH, blkQ, frz_us, Nat.reduceEqDiff, Nat.reduceLT, Nat.reduceAdd, ↓reduceIte, reduceCtorEq, Nat.reduceLeDiff, dl])
        refine W_cond rfl (fun h => by cases h) (fun _ => W_exit ?_)
        repeat (first | (refine W_seq ?_) | (refine W_reg ?_) | (refine W_regd ?_) | (refine W_block ?_) | (refine And.intro (by omega) ?_) | simp (maxSteps := 1000000) (disch := omega) only [cA, cB, lk, lkH, Dst.onT, Dst.onX, Dst.slot, setF, setH, mapF, mapH, initF, binE, unE, cnt, boundE, newsE, freshE, opE, rmH, blkQ, frz_us, Nat.reduceEqDiff, Nat.reduceLT, Nat.reduceAdd, ↓reduceIte, reduceCtorEq, Nat.reduceLeDiff, d1])
        exact W_ret (RetP_1 (.imm rfl))
def reT : DC := dSeq2 (dSeq2 (dSeq2 (dSeq2 (dSeq2 (dSeq2 codereColumns)))))
theorem bys_app (a b : List UInt8) : bys a ++ bys b = bys (a ++ b) := by unfold bys; rw [List.map_append]
theorem bys_32 (a : List UInt8) : bys a ++ [.int .u8 32] = bys (a ++ [32]) := by rw [← bys_app]; rfl
theorem bys_10 (a : List UInt8) : bys a ++ [.int .u8 10] = bys (a ++ [10]) := by rw [← bys_app]; rfl
theorem bytesOf_bys : ∀ l : List UInt8, bytesOf (bys l) = some l
  | [] => rfl
  | c :: r => by
    have ih := bytesOf_bys r
    unfold bys at ih ⊢
    rw [List.map_cons, byteD, bytesOf, ih]
    simp [Dat.byteOf]
theorem rfm_int (k : IntKind) (n : Int) (xs : List DV) : (∀ d ∈ DV.int k n :: xs, d.rf = true) ↔ ∀ d ∈ xs, d.rf = true := by simp [DV.rf]
theorem rfm_nil0 : (∀ d ∈ ([] : List DV), d.rf = true) ↔ True := by simp
theorem wcells_rf (f : Nat → Nat) (m : Nat) : ∀ d ∈ wcells f m, d.rf = true := by
  intro d hd
  unfold wcells at hd
  obtain ⟨c, _, rfl⟩ := List.mem_map.1 hd
  rfl
set_option maxHeartbeats 4000000 in
theorem reTail (recs : List (List (List UInt8))) (m : Nat) (hpos : 0 < recs.length) (h1024 : recs.length ≤ 1024) (hm1 : 1 ≤ m) (hm32 : m ≤ 32) (hlen : ∀ c, c < recs.length → (recs.getD c []).length = m) (hform : formB recs = true) :
    W fnreColumns reT (RetP resreColumns (.tup [.str (colT (wdT recs recs.length) recs m recs.length), .int .i64 0])) [(0, .sl 1 (recD recs)), (2, .str []), (3, .int .i64 0), (7, .osl 1 50 0 m)] [(50, wcells (wdT recs recs.length) m)] := by
  have hln := recD_len recs
  have hge := fun i j => wdT_ge (recs := recs) i j
  have hle := wdT_le hform
  generalize wdT recs recs.length = wd at *
  have hT : Dat.Hid (∀ i, (colT wd recs m i).length ≤ 1089 * i) := ⟨colT_len hm32 hge hle⟩
  have hR : Dat.Hid (∀ i k, (rowT wd (recs.getD i []) k).length ≤ 34 * k) := ⟨fun i k => rowT_len (hge i) hle k⟩
  have hmw := map_purge 115 (wcells_rf wd m)
  (replace hge := Hid.mk hge; replace hle := Hid.mk hle; replace hlen := Hid.mk hlen)
  clear hform
  unfold reT codereColumns
  dsimp only [dSeq2]
  repeat (first | (refine W_seq ?_) | (refine W_reg ?_) | (refine W_regd ?_) | (refine W_block ?_) | (refine And.intro (by omega) ?_) | simp (maxSteps := 1000000) (disch := omega) only [cA, cB, lk, lkH, Dst.onT, Dst.onX, Dst.slot, setF, setH, mapF, mapH, initF, binE, unE, cnt, boundE, newsE, freshE, opE, rmH, blkQ, frz_us, Nat.reduceEqDiff, Nat.reduceLT, Nat.reduceAdd, ↓reduceIte, reduceCtorEq, Nat.reduceLeDiff, hln])
  refine W_own 12 1 115 rfl (by simp [lkH]) ?_
  simp (maxSteps := 1000000) (disch := omega) only [cA, cB, lk, lkH, Dst.onT, Dst.onX, Dst.slot, setF, setH, mapF, mapH, initF, binE, unE, cnt, boundE, newsE, freshE, opE, rmH, blkQ, frz_us, Nat.reduceEqDiff, Nat.reduceLT, Nat.reduceAdd, ↓reduceIte, reduceCtorEq, Nat.reduceLeDiff]
  refine W_loop (σ := Nat × List UInt8) (fun s => [(0, .sl 1 (recD recs)), (3, .int .i64 0), (7, .osl 1 50 0 m), (12, .osl 1 115 0 s.2.length), (79, .sl 1 (recD recs)), (80, .int .i64 recs.length), (81, .int .i64 s.1)]) (fun s => [(50, wcells wd m), (115, bys s.2)]) (fun s => s.1 ≤ recs.length ∧ s.2 = colT wd recs m s.1) (fun s => recs.length - s.1) (0, []) (And.intro (Nat.zero_le _) rfl) ?_ rfl ?_
  · simp [subF, lk]
  · rintro ⟨i, X⟩ ⟨hi, hX⟩
    try simp only at hi hX ⊢
    have hxl := hT.out i
    by_cases hlt : i < recs.length
    · have dl : decide ((i : Int) < recs.length) = true := decide_eq_true (by omega)
      have ei : (i : Int).toNat = i := Int.toNat_natCast i
      have hgi := recD_getD hlt
      have hsi := strL_len (recs.getD i [])
      have hri := hlen.out i hlt
      rw [hri] at hsi
      have e1 : ((i : Int) + 1) = ((i + 1 : Nat) : Int) := by omega
      rw [← hX] at hxl
      repeat (first | (refine W_seq ?_) | (refine W_reg ?_) | (refine W_regd ?_) | (refine W_block ?_) | (refine And.intro (by omega) ?_) | simp (maxSteps := 1000000) (disch := omega) only [cA, cB, lk, lkH, Dst.onT, Dst.onX, Dst.slot, setF, setH, mapF, mapH, initF, binE, unE, cnt, boundE, newsE, freshE, opE, rmH, blkQ, frz_us, Nat.reduceEqDiff, Nat.reduceLT, Nat.reduceAdd, ↓reduceIte, reduceCtorEq, Nat.reduceLeDiff, dl])
      refine W_cond rfl (fun _ => W_skip ?_) (fun h => by cases h)
      repeat (first | (refine W_seq ?_) | (refine W_reg ?_) | (refine W_regd ?_) | (refine W_block ?_) | (refine And.intro (by omega) ?_) | simp (maxSteps := 1000000) (disch := omega) only [cA, cB, lk, lkH, Dst.onT, Dst.onX, Dst.slot, setF, setH, mapF, mapH, initF, binE, unE, cnt, boundE, newsE, freshE, opE, rmH, blkQ, frz_us, Nat.reduceEqDiff, Nat.reduceLT, Nat.reduceAdd, ↓reduceIte, reduceCtorEq, Nat.reduceLeDiff, ei, hln, hgi, hsi])
      refine W_loop (σ := Nat × List UInt8) (fun s => [(0, .sl 1 (recD recs)), (3, .int .i64 0), (7, .osl 1 50 0 m), (12, .osl 1 115 0 s.2.length), (79, .sl 1 (recD recs)), (80, .int .i64 recs.length), (81, .int .i64 i), (85, .sl 1 (strL (recs.getD i []))), (86, .int .i64 m), (87, .int .i64 s.1)]) (fun s => [(50, wcells wd m), (115, bys s.2)]) (fun s => s.1 ≤ m ∧ s.2 = X ++ rowT wd (recs.getD i []) s.1) (fun s => m - s.1) (0, X) (And.intro (Nat.zero_le _) (by simp [rowT_zero])) ?_ rfl ?_
      · simp [subF, lk]
      · rintro ⟨j, Y⟩ ⟨hj, hY⟩
        try simp only at hj hY ⊢
        have hyl := hR.out i j
        have hYl : Y.length ≤ 1200000 := by rw [hY, List.length_append]; omega
        by_cases hjm : j < m
        · have dj : decide ((j : Int) < m) = true := decide_eq_true (by omega)
          have ej : (j : Int).toNat = j := Int.toNat_natCast j
          have hgj := strL_getD (r := recs.getD i []) (j := j) (by omega)
          have e1j : ((j : Int) + 1) = ((j + 1 : Nat) : Int) := by omega
          have hwl := wcells_len wd m
          have hwg := wcells_getD (f := wd) hjm
          have hwj := hle.out j
          have hsj := hge.out i j
          have hnx := rowT_succ wd (recs.getD i []) j
          generalize (recs.getD i []).getD j [] = S at *
          repeat (first | (refine W_seq ?_) | (refine W_reg ?_) | (refine W_regd ?_) | (refine W_block ?_) | (refine And.intro (by omega) ?_) | simp (maxSteps := 1000000) (disch := omega) only [cA, cB, lk, lkH, Dst.onT, Dst.onX, Dst.slot, setF, setH, mapF, mapH, initF, binE, unE, cnt, boundE, newsE, freshE, opE, rmH, blkQ, frz_us, Nat.reduceEqDiff, Nat.reduceLT, Nat.reduceAdd, ↓reduceIte, reduceCtorEq, Nat.reduceLeDiff, dj])
          refine W_cond rfl (fun _ => W_skip ?_) (fun h => by cases h)
          repeat (first | (refine W_seq ?_) | (refine W_reg ?_) | (refine W_regd ?_) | (refine W_block ?_) | (refine And.intro (by omega) ?_) | simp (maxSteps := 1000000) (disch := omega) only [cA, cB, lk, lkH, Dst.onT, Dst.onX, Dst.slot, setF, setH, mapF, mapH, initF, binE, unE, cnt, boundE, newsE, freshE, opE, rmH, blkQ, frz_us, Nat.reduceEqDiff, Nat.reduceLT, Nat.reduceAdd, ↓reduceIte, reduceCtorEq, Nat.reduceLeDiff, ej, hsi, hgj])
          refine W_join (ι := List UInt8) (fun Z => Z = Y ++ (if 0 < j then [32, 32] else [])) (fun Z => [(0, .sl 1 (recD recs)), (3, .int .i64 0), (7, .osl 1 50 0 m), (12, .osl 1 115 0 Z.length), (15, .int .i64 j), (16, .str S), (79, .sl 1 (recD recs)), (80, .int .i64 recs.length), (81, .int .i64 i), (85, .sl 1 (strL (recs.getD i []))), (86, .int .i64 m), (87, .int .i64 j)]) (fun Z => [(50, wcells wd m), (115, bys Z)]) ?_ ?_
          · by_cases hj0 : 0 < j
            · have d0 : decide ((0 : Int) < (j : Int)) = true := decide_eq_true (by omega)
              have el : Y.length + 2 = (Y ++ [32, 32]).length := by simp
              have hbl := bys_len Y
              have e22 : ([32, 32] : List UInt8).length = 2 := rfl
              refine W_cond (by rw [d0]; rfl) (fun _ => ?_) (fun h => by cases h)
              repeat (first | (refine W_seq ?_) | (refine W_reg ?_) | (refine W_regd ?_) | (refine W_block ?_) | (refine And.intro (by omega) ?_) | simp (maxSteps := 1000000) (disch := omega) only [cA, cB, lk, lkH, Dst.onT, Dst.onX, Dst.slot, setF, setH, mapF, mapH, initF, binE, unE, cnt, boundE, newsE, freshE, opE, rmH, blkQ, frz_us, Nat.reduceEqDiff, Nat.reduceLT, Nat.reduceAdd, ↓reduceIte, reduceCtorEq, Nat.reduceLeDiff, hbl, e22, bys_app, purge_bys, hmw, el])
              exact ⟨Y ++ [32, 32], by rw [if_pos hj0], by simp [subF, lk, purge, DV.has], rfl⟩
            · have d0 : decide ((0 : Int) < (j : Int)) = false := decide_eq_false (by omega)
              refine W_cond (by rw [d0]; rfl) (fun h => by cases h) (fun _ => W_skip ?_)
              exact ⟨Y, by rw [if_neg hj0, List.append_nil], by simp [subF, lk, purge, DV.has], rfl⟩
          · rintro Z hZ
            have hZl : Z.length ≤ 1200002 := by
              rw [hZ, List.length_append]
              split
              · simp only [List.length_cons, List.length_nil]; omega
              · simp only [List.length_nil]; omega
            repeat (first | (refine W_seq ?_) | (refine W_reg ?_) | (refine W_regd ?_) | (refine W_block ?_) | (refine And.intro (by omega) ?_) | simp (maxSteps := 1000000) (disch := omega) only [cA, cB, lk, lkH, Dst.onT, Dst.onX, Dst.slot, setF, setH, mapF, mapH, initF, binE, unE, cnt, boundE, newsE, freshE, opE, rmH, blkQ, frz_us, Nat.reduceEqDiff, Nat.reduceLT, Nat.reduceAdd, ↓reduceIte, reduceCtorEq, Nat.reduceLeDiff])
            refine W_loop (σ := Nat × List UInt8) (fun s => [(0, .sl 1 (recD recs)), (3, .int .i64 0), (7, .osl 1 50 0 m), (12, .osl 1 115 0 s.2.length), (15, .int .i64 j), (16, .str S), (17, .int .i64 ((S.length + s.1 : Nat) : Int)), (79, .sl 1 (recD recs)), (80, .int .i64 recs.length), (81, .int .i64 i), (85, .sl 1 (strL (recs.getD i []))), (86, .int .i64 m), (87, .int .i64 j)]) (fun s => [(50, wcells wd m), (115, bys s.2)]) (fun s => s.1 ≤ wd j - S.length ∧ s.2 = Z ++ List.replicate s.1 32) (fun s => wd j - S.length - s.1) (0, Z) (And.intro (Nat.zero_le _) (by simp)) ?_ rfl ?_
            · simp [subF, lk]
            · rintro ⟨p, V⟩ ⟨hp, hV⟩
              try simp only at hp hV ⊢
              have hVl : V.length ≤ 1200040 := by rw [hV, List.length_append, List.length_replicate]; omega
              by_cases hpt : S.length + p < wd j
              · have dp : decide (((S.length + p : Nat) : Int) < (wd j : Int)) = true := decide_eq_true (by omega)
                have hbl := bys_len V
                have el : V.length + 1 = (V ++ [32]).length := by simp
                have e3 : (((S.length + p : Nat) : Int) + 1) = ((S.length + (p + 1) : Nat) : Int) := by omega
                repeat (first | (refine W_seq ?_) | (refine W_reg ?_) | (refine W_regd ?_) | (refine W_block ?_) | (refine And.intro (by omega) ?_) | simp (maxSteps := 1000000) (disch := omega) only [cA, cB, lk, lkH, Dst.onT, Dst.onX, Dst.slot, setF, setH, mapF, mapH, initF, binE, unE, cnt, boundE, newsE, freshE, opE, rmH, blkQ, frz_us, Nat.reduceEqDiff, Nat.reduceLT, Nat.reduceAdd, ↓reduceIte, reduceCtorEq, Nat.reduceLeDiff, ej, hwl, hwg, dp])
                refine W_cond rfl (fun _ => W_skip ?_) (fun h => by cases h)
                repeat (first | (refine W_seq ?_) | (refine W_reg ?_) | (refine W_regd ?_) | (refine W_block ?_) | (refine And.intro (by omega) ?_) | simp (maxSteps := 1000000) (disch := omega) only [cA, cB, lk, lkH, Dst.onT, Dst.onX, Dst.slot, setF, setH, mapF, mapH, initF, binE, unE, cnt, boundE, newsE, freshE, opE, rmH, blkQ, frz_us, Nat.reduceEqDiff, Nat.reduceLT, Nat.reduceAdd, ↓reduceIte, reduceCtorEq, Nat.reduceLeDiff, cS, rfm_nil0, rfm_int, hbl])
                refine And.intro (And.intro (by omega) (And.intro (by omega) (fun d hd => by rw [List.mem_singleton.1 hd]; rfl))) ?_
                repeat (first | (refine W_seq ?_) | (refine W_reg ?_) | (refine W_regd ?_) | (refine W_block ?_) | (refine And.intro (by omega) ?_) | simp (maxSteps := 1000000) (disch := omega) only [cA, cB, lk, lkH, Dst.onT, Dst.onX, Dst.slot, setF, setH, mapF, mapH, initF, binE, unE, cnt, boundE, newsE, freshE, opE, rmH, blkQ, frz_us, Nat.reduceEqDiff, Nat.reduceLT, Nat.reduceAdd, ↓reduceIte, reduceCtorEq, Nat.reduceLeDiff, bys_32, purge_bys, hmw, el, e3])
                exact ⟨(p + 1, V ++ [32]), And.intro (by omega) (by simp only; rw [hV, List.append_assoc, ← List.replicate_succ']), by simp only; omega, by simp [subF, lk, purge, DV.has], rfl⟩
              · have dp : decide (((S.length + p : Nat) : Int) < (wd j : Int)) = false := decide_eq_false (by omega)
                have hbl := bys_len V
                have el : V.length + S.length = (V ++ S).length := by simp
                repeat (first | (refine W_seq ?_) | (refine W_reg ?_) | (refine W_regd ?_) | (refine W_block ?_) | (refine And.intro (by omega) ?_) | simp (maxSteps := 1000000) (disch := omega) only [cA, cB, lk, lkH, Dst.onT, Dst.onX, Dst.slot, setF, setH, mapF, mapH, initF, binE, unE, cnt, boundE, newsE, freshE, opE, rmH, blkQ, frz_us, Nat.reduceEqDiff, Nat.reduceLT, Nat.reduceAdd, ↓reduceIte, reduceCtorEq, Nat.reduceLeDiff, ej, hwl, hwg, dp])
                refine W_cond rfl (fun h => by cases h) (fun _ => W_exit ?_)
                repeat (first | (refine W_seq ?_) | (refine W_reg ?_) | (refine W_regd ?_) | (refine W_block ?_) | (refine And.intro (by omega) ?_) | simp (maxSteps := 1000000) (disch := omega) only [cA, cB, lk, lkH, Dst.onT, Dst.onX, Dst.slot, setF, setH, mapF, mapH, initF, binE, unE, cnt, boundE, newsE, freshE, opE, rmH, blkQ, frz_us, Nat.reduceEqDiff, Nat.reduceLT, Nat.reduceAdd, ↓reduceIte, reduceCtorEq, Nat.reduceLeDiff, hbl, bys_app, purge_bys, hmw, el, e1j])
                refine ⟨(j + 1, V ++ S), And.intro hjm ?_, by simp only; omega, by simp [subF, lk, purge, DV.has], rfl⟩
                simp only
                rw [hV, hZ, hY, hnx]
                have hpw : p = wd j - S.length := by omega
                rw [hpw]
                unfold cellT
                simp
        · have dj : decide ((j : Int) < m) = false := decide_eq_false (by omega)
          have hjm2 : j = m := by omega
          have hbl := bys_len Y
          have el : Y.length + 1 = (Y ++ [10]).length := by simp
          repeat (first | (refine W_seq ?_) | (refine W_reg ?_) | (refine W_regd ?_) | (refine W_block ?_) | (refine And.intro (by omega) ?_) | simp (maxSteps := 1000000) (disch := omega) only [cA, cB, lk, lkH, Dst.onT, Dst.onX, Dst.slot, setF, setH, mapF, mapH, initF, binE, unE, cnt, boundE, newsE, freshE, opE, rmH, blkQ, frz_us, Nat.reduceEqDiff, Nat.reduceLT, Nat.reduceAdd, ↓reduceIte, reduceCtorEq, Nat.reduceLeDiff, dj])
          refine W_cond rfl (fun h => by cases h) (fun _ => W_exit ?_)
          repeat (first | (refine W_seq ?_) | (refine W_reg ?_) | (refine W_regd ?_) | (refine W_block ?_) | (refine And.intro (by omega) ?_) | simp (maxSteps := 1000000) (disch := omega) only [cA, cB, lk, lkH, Dst.onT, Dst.onX, Dst.slot, setF, setH, mapF, mapH, initF, binE, unE, cnt, boundE, newsE, freshE, opE, rmH, blkQ, frz_us, Nat.reduceEqDiff, Nat.reduceLT, Nat.reduceAdd, ↓reduceIte, reduceCtorEq, Nat.reduceLeDiff, cS, rfm_nil0, rfm_int, hbl])
          refine And.intro (And.intro (by omega) (And.intro (by omega) (fun d hd => by rw [List.mem_singleton.1 hd]; rfl))) ?_
          repeat (first | (refine W_seq ?_) | (refine W_reg ?_) | (refine W_regd ?_) | (refine W_block ?_) | (refine And.intro (by omega) ?_) | simp (maxSteps := 1000000) (disch := omega) only [cA, cB, lk, lkH, Dst.onT, Dst.onX, Dst.slot, setF, setH, mapF, mapH, initF, binE, unE, cnt, boundE, newsE, freshE, opE, rmH, blkQ, frz_us, Nat.reduceEqDiff, Nat.reduceLT, Nat.reduceAdd, ↓reduceIte, reduceCtorEq, Nat.reduceLeDiff, bys_10, purge_bys, hmw, el, e1])
          refine ⟨(i + 1, Y ++ [10]), And.intro hlt ?_, by simp only; omega, by simp [subF, lk, purge, DV.has], rfl⟩
          simp only
          rw [hY, hX, hjm2, colT_succ, List.append_assoc]
    · have dl : decide ((i : Int) < recs.length) = false := decide_eq_false (by omega)
      have hil : i = recs.length := by omega
      have hbl := bys_len X
      have hto := List.take_of_length_le (Nat.le_of_eq hbl)
      repeat (first | (refine W_seq ?_) | (refine W_reg ?_) | (refine W_regd ?_) | (refine W_block ?_) | (refine And.intro (by omega) ?_) | simp (maxSteps := 1000000) (disch := omega) only [cA, cB, lk, lkH, Dst.onT, Dst.onX, Dst.slot, setF, setH, mapF, mapH, initF, binE, unE, cnt, boundE, newsE, freshE, opE, rmH, blkQ, frz_us, Nat.reduceEqDiff, Nat.reduceLT, Nat.reduceAdd, ↓reduceIte, reduceCtorEq, Nat.reduceLeDiff, dl])
      refine W_cond rfl (fun h => by cases h) (fun _ => W_exit ?_)
      repeat (first | (refine W_seq ?_) | (refine W_reg ?_) | (refine W_regd ?_) | (refine W_block ?_) | (refine And.intro (by omega) ?_) | simp (maxSteps := 1000000) (disch := omega) only [cA, cB, lk, lkH, Dst.onT, Dst.onX, Dst.slot, setF, setH, mapF, mapH, initF, binE, unE, cnt, boundE, newsE, freshE, opE, rmH, blkQ, frz_us, Nat.reduceEqDiff, Nat.reduceLT, Nat.reduceAdd, ↓reduceIte, reduceCtorEq, Nat.reduceLeDiff, hbl, List.drop_zero, hto, bytesOf_bys])
      rw [hX, hil]
      exact W_ret (RetP_2 (.imm rfl) (.imm rfl))
set_option maxHeartbeats 4000000 in
theorem reColumns_calls (recs : List (List (List UInt8))) (hb1 : recs.length ≤ 9223372036854775807) (hb2 : ∀ i, (recs.getD i []).length ≤ 9223372036854775807) (hb3 : ∀ i j, ((recs.getD i []).getD j []).length ≤ 9223372036854775807) :
    PCalls Tryd.prog 9 [.sl 1 (recD recs)] (colR recs) := by
  refine PCalls_of isreColumns (by simp [fnreColumns]) ?_
  unfold codereColumns
  have hln := recD_len recs
  by_cases h1 : recs.length < 1
  · have d1 : decide ((recs.length : Int) < 1) = true := decide_eq_true (by omega)
    have hR : colR recs = .tup [.str [], .int .i64 6] := by
      unfold colR shapeOk
      rw [decide_eq_false (show ¬ 1 ≤ recs.length by omega)]; rfl
    rw [hR]
    repeat (first | (refine W_seq ?_) | (refine W_reg ?_) | (refine W_regd ?_) | (refine W_block ?_) | (refine And.intro (by omega) ?_) | simp (maxSteps := 1000000) (disch := omega) only [cA, cB, lk, lkH, Dst.onT, Dst.onX, Dst.slot, setF, setH, mapF, mapH, initF, binE, unE, cnt, boundE, newsE, freshE, opE, rmH, blkQ, frz_us, Nat.reduceEqDiff, Nat.reduceLT, Nat.reduceAdd, ↓reduceIte, reduceCtorEq, Nat.reduceLeDiff, hln, d1])
    refine W_cond rfl (fun _ => ?_) (fun h => by cases h)
    repeat (first | (refine W_seq ?_) | (refine W_reg ?_) | (refine W_regd ?_) | (refine W_block ?_) | (refine And.intro (by omega) ?_) | simp (maxSteps := 1000000) (disch := omega) only [cA, cB, lk, lkH, Dst.onT, Dst.onX, Dst.slot, setF, setH, mapF, mapH, initF, binE, unE, cnt, boundE, newsE, freshE, opE, rmH, blkQ, frz_us, Nat.reduceEqDiff, Nat.reduceLT, Nat.reduceAdd, ↓reduceIte, reduceCtorEq, Nat.reduceLeDiff])
    refine W_ret ?_
    exact RetP_2 (.imm rfl) (.imm rfl)
  · have d1 : decide ((recs.length : Int) < 1) = false := decide_eq_false (by omega)
    by_cases h2 : 1024 < recs.length
    · have d2 : decide ((1024 : Int) < (recs.length : Int)) = true := decide_eq_true (by omega)
      have hR : colR recs = .tup [.str [], .int .i64 6] := by
        unfold colR shapeOk
        rw [decide_eq_false (show ¬ recs.length ≤ 1024 by omega), Bool.and_false]; rfl
      rw [hR]
      repeat (first | (refine W_seq ?_) | (refine W_reg ?_) | (refine W_regd ?_) | (refine W_block ?_) | (refine And.intro (by omega) ?_) | simp (maxSteps := 1000000) (disch := omega) only [cA, cB, lk, lkH, Dst.onT, Dst.onX, Dst.slot, setF, setH, mapF, mapH, initF, binE, unE, cnt, boundE, newsE, freshE, opE, rmH, blkQ, frz_us, Nat.reduceEqDiff, Nat.reduceLT, Nat.reduceAdd, ↓reduceIte, reduceCtorEq, Nat.reduceLeDiff, hln, d1, d2])
      refine W_cond rfl (fun _ => ?_) (fun h => by cases h)
      repeat (first | (refine W_seq ?_) | (refine W_reg ?_) | (refine W_regd ?_) | (refine W_block ?_) | (refine And.intro (by omega) ?_) | simp (maxSteps := 1000000) (disch := omega) only [cA, cB, lk, lkH, Dst.onT, Dst.onX, Dst.slot, setF, setH, mapF, mapH, initF, binE, unE, cnt, boundE, newsE, freshE, opE, rmH, blkQ, frz_us, Nat.reduceEqDiff, Nat.reduceLT, Nat.reduceAdd, ↓reduceIte, reduceCtorEq, Nat.reduceLeDiff])
      refine W_ret ?_
      exact RetP_2 (.imm rfl) (.imm rfl)
    · have d2 : decide ((1024 : Int) < (recs.length : Int)) = false := decide_eq_false (by omega)
      repeat (first | (refine W_seq ?_) | (refine W_reg ?_) | (refine W_regd ?_) | (refine W_block ?_) | (refine And.intro (by omega) ?_) | simp (maxSteps := 1000000) (disch := omega) only [cA, cB, lk, lkH, Dst.onT, Dst.onX, Dst.slot, setF, setH, mapF, mapH, initF, binE, unE, cnt, boundE, newsE, freshE, opE, rmH, blkQ, frz_us, Nat.reduceEqDiff, Nat.reduceLT, Nat.reduceAdd, ↓reduceIte, reduceCtorEq, Nat.reduceLeDiff, hln, d1, d2])
      refine W_cond rfl (fun h => by cases h) (fun _ => W_skip ?_)
      have hpos : 0 < recs.length := by omega
      have hg0 := recD_getD hpos
      have hh : recs.getD 0 [] = recs.headD [] := by cases recs <;> rfl
      rw [hh] at hg0
      have hm := hb2 0
      rw [hh] at hm
      obtain ⟨m, hmd⟩ : ∃ m, (recs.headD []).length = m := ⟨_, rfl⟩
      have hsl := strL_len (recs.headD [])
      rw [hmd] at hsl hm
      have e0 : (Int.toNat 0) = 0 := rfl
      repeat (first | (refine W_seq ?_) | (refine W_reg ?_) | (refine W_regd ?_) | (refine W_block ?_) | (refine And.intro (by omega) ?_) | simp (maxSteps := 1000000) (disch := omega) only [cA, cB, lk, lkH, Dst.onT, Dst.onX, Dst.slot, setF, setH, mapF, mapH, initF, binE, unE, cnt, boundE, newsE, freshE, opE, rmH, blkQ, frz_us, Nat.reduceEqDiff, Nat.reduceLT, Nat.reduceAdd, ↓reduceIte, reduceCtorEq, Nat.reduceLeDiff, hln, e0, hg0, hsl])
      clear hg0 hsl
      repeat (first | (refine W_seq ?_) | (refine W_reg ?_) | (refine W_regd ?_) | (refine W_block ?_) | (refine And.intro (by omega) ?_) | simp (maxSteps := 1000000) (disch := omega) only [cA, cB, lk, lkH, Dst.onT, Dst.onX, Dst.slot, setF, setH, mapF, mapH, initF, binE, unE, cnt, boundE, newsE, freshE, opE, rmH, blkQ, frz_us, Nat.reduceEqDiff, Nat.reduceLT, Nat.reduceAdd, ↓reduceIte, reduceCtorEq, Nat.reduceLeDiff, hln])
      refine W_loop (σ := Nat) (fun i => [(0, .sl 1 (recD recs)), (2, .str []), (3, .int .i64 0), (4, .int .i64 m), (30, .sl 1 (recD recs)), (31, .int .i64 recs.length), (32, .int .i64 i)]) (fun _ => []) (fun i => i ≤ recs.length ∧ ∀ c, c < i → (recs.getD c []).length = m ∧ 1 ≤ m ∧ m ≤ 32) (fun i => recs.length - i) 0 (And.intro (Nat.zero_le _) (fun c hc => absurd hc (by omega))) ?_ rfl ?_
      · simp [subF, lk]
      · rintro i ⟨hi, hall⟩
        try simp only at hi hall ⊢
        by_cases hlt : i < recs.length
        · have dl : decide ((i : Int) < recs.length) = true := decide_eq_true (by omega)
          have ei : (i : Int).toNat = i := Int.toNat_natCast i
          have hgi := recD_getD hlt
          have hsi := strL_len (recs.getD i [])
          have hbd := hb2 i
          have e1 : ((i : Int) + 1) = ((i + 1 : Nat) : Int) := by omega
          obtain ⟨q, hq⟩ : ∃ q, (recs.getD i []).length = q := ⟨_, rfl⟩
          rw [hq] at hsi hbd
          have hbad : ¬ (q = m ∧ 1 ≤ m ∧ m ≤ 32) → colR recs = .tup [.str [], .int .i64 6] := fun hn => by
            have hs : shapeB recs = false := shape_bad hlt (by
              rw [hq, hmd]
              by_cases a1 : q = m
              · by_cases a2 : 1 ≤ m
                · rw [decide_eq_false (show ¬ m ≤ 32 from fun a3 => hn ⟨a1, a2, a3⟩)]; simp
                · rw [decide_eq_false a2]; simp
              · rw [decide_eq_false a1]; rfl)
            unfold colR shapeOk
            rw [hs, Bool.and_false]; rfl
          repeat (first | (refine W_seq ?_) | (refine W_reg ?_) | (refine W_regd ?_) | (refine W_block ?_) | (refine And.intro (by omega) ?_) | simp (maxSteps := 1000000) (disch := omega) only [cA, cB, lk, lkH, Dst.onT, Dst.onX, Dst.slot, setF, setH, mapF, mapH, initF, binE, unE, cnt, boundE, newsE, freshE, opE, rmH, blkQ, frz_us, Nat.reduceEqDiff, Nat.reduceLT, Nat.reduceAdd, ↓reduceIte, reduceCtorEq, Nat.reduceLeDiff, dl])
          refine W_cond rfl (fun _ => W_skip ?_) (fun h => by cases h)
          by_cases a1 : q = m
          · have g1 : decide (¬ (q : Int) = (m : Int)) = false := decide_eq_false (by omega)
            by_cases a2 : 1 ≤ m
            · have g2 : decide ((m : Int) < 1) = false := decide_eq_false (by omega)
              by_cases a3 : m ≤ 32
              · have g3 : decide ((32 : Int) < (m : Int)) = false := decide_eq_false (by omega)
                have hall' : Dat.Hid (∀ c, c < i + 1 → (recs.getD c []).length = m ∧ 1 ≤ m ∧ m ≤ 32) := ⟨fun c hc => by
                  rcases Nat.lt_or_ge c i with hci | hci
                  · exact hall c hci
                  · rw [show c = i by omega, hq]; exact ⟨a1, a2, a3⟩⟩
                clear hall hbad
                repeat (first | (refine W_seq ?_) | (refine W_reg ?_) | (refine W_regd ?_) | (refine W_block ?_) | (refine And.intro (by omega) ?_) | simp (maxSteps := 1000000) (disch := omega) only [cA, cB, lk, lkH, Dst.onT, Dst.onX, Dst.slot, setF, setH, mapF, mapH, initF, binE, unE, cnt, boundE, newsE, freshE, opE, rmH, blkQ, frz_us, Nat.reduceEqDiff, Nat.reduceLT, Nat.reduceAdd, ↓reduceIte, reduceCtorEq, Nat.reduceLeDiff, ei, hln, hgi, hsi, g1, g2, g3])
                refine W_cond rfl (fun h => by cases h) (fun _ => W_skip ?_)
                repeat (first | (refine W_seq ?_) | (refine W_reg ?_) | (refine W_regd ?_) | (refine W_block ?_) | (refine And.intro (by omega) ?_) | simp (maxSteps := 1000000) (disch := omega) only [cA, cB, lk, lkH, Dst.onT, Dst.onX, Dst.slot, setF, setH, mapF, mapH, initF, binE, unE, cnt, boundE, newsE, freshE, opE, rmH, blkQ, frz_us, Nat.reduceEqDiff, Nat.reduceLT, Nat.reduceAdd, ↓reduceIte, reduceCtorEq, Nat.reduceLeDiff, e1])
                exact ⟨i + 1, And.intro hlt hall'.out, by omega, by simp [subF, lk]⟩
              · have g3 : decide ((32 : Int) < (m : Int)) = true := decide_eq_true (by omega)
                rw [hbad (fun h => a3 h.2.2)]
                clear hall hbad
                repeat (first | (refine W_seq ?_) | (refine W_reg ?_) | (refine W_regd ?_) | (refine W_block ?_) | (refine And.intro (by omega) ?_) | simp (maxSteps := 1000000) (disch := omega) only [cA, cB, lk, lkH, Dst.onT, Dst.onX, Dst.slot, setF, setH, mapF, mapH, initF, binE, unE, cnt, boundE, newsE, freshE, opE, rmH, blkQ, frz_us, Nat.reduceEqDiff, Nat.reduceLT, Nat.reduceAdd, ↓reduceIte, reduceCtorEq, Nat.reduceLeDiff, ei, hln, hgi, hsi, g1, g2, g3])
                refine W_cond rfl (fun _ => ?_) (fun h => by cases h)
                repeat (first | (refine W_seq ?_) | (refine W_reg ?_) | (refine W_regd ?_) | (refine W_block ?_) | (refine And.intro (by omega) ?_) | simp (maxSteps := 1000000) (disch := omega) only [cA, cB, lk, lkH, Dst.onT, Dst.onX, Dst.slot, setF, setH, mapF, mapH, initF, binE, unE, cnt, boundE, newsE, freshE, opE, rmH, blkQ, frz_us, Nat.reduceEqDiff, Nat.reduceLT, Nat.reduceAdd, ↓reduceIte, reduceCtorEq, Nat.reduceLeDiff])
                refine W_ret ?_
                exact RetP_2 (.imm rfl) (.imm rfl)
            · have g2 : decide ((m : Int) < 1) = true := decide_eq_true (by omega)
              rw [hbad (fun h => a2 h.2.1)]
              clear hall hbad
              repeat (first | (refine W_seq ?_) | (refine W_reg ?_) | (refine W_regd ?_) | (refine W_block ?_) | (refine And.intro (by omega) ?_) | simp (maxSteps := 1000000) (disch := omega) only [cA, cB, lk, lkH, Dst.onT, Dst.onX, Dst.slot, setF, setH, mapF, mapH, initF, binE, unE, cnt, boundE, newsE, freshE, opE, rmH, blkQ, frz_us, Nat.reduceEqDiff, Nat.reduceLT, Nat.reduceAdd, ↓reduceIte, reduceCtorEq, Nat.reduceLeDiff, ei, hln, hgi, hsi, g1, g2])
              refine W_cond rfl (fun _ => ?_) (fun h => by cases h)
              repeat (first | (refine W_seq ?_) | (refine W_reg ?_) | (refine W_regd ?_) | (refine W_block ?_) | (refine And.intro (by omega) ?_) | simp (maxSteps := 1000000) (disch := omega) only [cA, cB, lk, lkH, Dst.onT, Dst.onX, Dst.slot, setF, setH, mapF, mapH, initF, binE, unE, cnt, boundE, newsE, freshE, opE, rmH, blkQ, frz_us, Nat.reduceEqDiff, Nat.reduceLT, Nat.reduceAdd, ↓reduceIte, reduceCtorEq, Nat.reduceLeDiff])
              refine W_ret ?_
              exact RetP_2 (.imm rfl) (.imm rfl)
          · have g1 : decide (¬ (q : Int) = (m : Int)) = true := decide_eq_true (by omega)
            rw [hbad (fun h => a1 h.1)]
            clear hall hbad
            repeat (first | (refine W_seq ?_) | (refine W_reg ?_) | (refine W_regd ?_) | (refine W_block ?_) | (refine And.intro (by omega) ?_) | simp (maxSteps := 1000000) (disch := omega) only [cA, cB, lk, lkH, Dst.onT, Dst.onX, Dst.slot, setF, setH, mapF, mapH, initF, binE, unE, cnt, boundE, newsE, freshE, opE, rmH, blkQ, frz_us, Nat.reduceEqDiff, Nat.reduceLT, Nat.reduceAdd, ↓reduceIte, reduceCtorEq, Nat.reduceLeDiff, ei, hln, hgi, hsi, g1])
            refine W_cond rfl (fun _ => ?_) (fun h => by cases h)
            repeat (first | (refine W_seq ?_) | (refine W_reg ?_) | (refine W_regd ?_) | (refine W_block ?_) | (refine And.intro (by omega) ?_) | simp (maxSteps := 1000000) (disch := omega) only [cA, cB, lk, lkH, Dst.onT, Dst.onX, Dst.slot, setF, setH, mapF, mapH, initF, binE, unE, cnt, boundE, newsE, freshE, opE, rmH, blkQ, frz_us, Nat.reduceEqDiff, Nat.reduceLT, Nat.reduceAdd, ↓reduceIte, reduceCtorEq, Nat.reduceLeDiff])
            refine W_ret ?_
            exact RetP_2 (.imm rfl) (.imm rfl)
        · have dl : decide ((i : Int) < recs.length) = false := decide_eq_false (by omega)
          have hil : i = recs.length := by omega
          subst hil
          have hm1 := (hall 0 hpos).2.1
          have hm32 := (hall 0 hpos).2.2
          have hlen : ∀ c, c < recs.length → (recs.getD c []).length = m := fun c hc => (hall c hc).1
          have hsh : shapeOk recs = true := by
            unfold shapeOk shapeB
            rw [decide_eq_true (show 1 ≤ recs.length by omega), decide_eq_true (show recs.length ≤ 1024 by omega), Bool.true_and, Bool.true_and]
            refine List.all_eq_true.2 fun r hr => ?_
            obtain ⟨c, hc, rfl⟩ := List.mem_iff_getElem.1 hr
            have := hlen c hc
            rw [List.getD_eq_getElem?_getD, List.getElem?_eq_getElem hc] at this
            simp only [Option.getD_some] at this
            rw [this, hmd, decide_eq_true rfl, decide_eq_true hm1, decide_eq_true hm32]; rfl
          clear hall
          (replace hlen := Hid.mk hlen)
          repeat (first | (refine W_seq ?_) | (refine W_reg ?_) | (refine W_regd ?_) | (refine W_block ?_) | (refine And.intro (by omega) ?_) | simp (maxSteps := 1000000) (disch := omega) only [cA, cB, lk, lkH, Dst.onT, Dst.onX, Dst.slot, setF, setH, mapF, mapH, initF, binE, unE, cnt, boundE, newsE, freshE, opE, rmH, blkQ, frz_us, Nat.reduceEqDiff, Nat.reduceLT, Nat.reduceAdd, ↓reduceIte, reduceCtorEq, Nat.reduceLeDiff, dl])
          refine W_cond rfl (fun h => by cases h) (fun _ => W_exit ?_)
          have hrp : rep m [DV.int .i64 0] = wcells (wdT recs 0) m := wcells_rep recs m
          have hcap : (m : Int) * 8 ≤ 281474976710656 := by omega
          repeat (first | (refine W_seq ?_) | (refine W_reg ?_) | (refine W_regd ?_) | (refine W_block ?_) | (refine And.intro (by omega) ?_) | simp (maxSteps := 1000000) (disch := omega) only [cA, cB, lk, lkH, Dst.onT, Dst.onX, Dst.slot, setF, setH, mapF, mapH, initF, binE, unE, cnt, boundE, newsE, freshE, opE, rmH, blkQ, frz_us, Nat.reduceEqDiff, Nat.reduceLT, Nat.reduceAdd, ↓reduceIte, reduceCtorEq, Nat.reduceLeDiff, hrp, nbreColumns])
          repeat (first | (refine W_seq ?_) | (refine W_reg ?_) | (refine W_regd ?_) | (refine W_block ?_) | (refine And.intro (by omega) ?_) | simp (maxSteps := 1000000) (disch := omega) only [cA, cB, lk, lkH, Dst.onT, Dst.onX, Dst.slot, setF, setH, mapF, mapH, initF, binE, unE, cnt, boundE, newsE, freshE, opE, rmH, blkQ, frz_us, Nat.reduceEqDiff, Nat.reduceLT, Nat.reduceAdd, ↓reduceIte, reduceCtorEq, Nat.reduceLeDiff, hln])
          refine W_loop (σ := Nat) (fun i => [(0, .sl 1 (recD recs)), (2, .str []), (3, .int .i64 0), (7, .osl 1 50 0 m), (51, .sl 1 (recD recs)), (52, .int .i64 recs.length), (53, .int .i64 i)]) (fun i => [(50, wcells (wdT recs i) m)]) (fun i => i ≤ recs.length ∧ ∀ c, c < i → ∀ j, j < m → cellB ((recs.getD c []).getD j []) = true) (fun i => recs.length - i) 0 (And.intro (Nat.zero_le _) (fun c hc => absurd hc (by omega))) ?_ rfl ?_
          · simp [subF, lk]
          · rintro i ⟨hi2, hok⟩
            try simp only at hi2 hok ⊢
            by_cases hlt2 : i < recs.length
            · have dl2 : decide ((i : Int) < recs.length) = true := decide_eq_true (by omega)
              have ei : (i : Int).toNat = i := Int.toNat_natCast i
              have hgi := recD_getD hlt2
              have hsi := strL_len (recs.getD i [])
              have hri := hlen.out i hlt2
              rw [hri] at hsi
              have e1 : ((i : Int) + 1) = ((i + 1 : Nat) : Int) := by omega
              replace hok := Dat.Hid.mk hok
              repeat (first | (refine W_seq ?_) | (refine W_reg ?_) | (refine W_regd ?_) | (refine W_block ?_) | (refine And.intro (by omega) ?_) | simp (maxSteps := 1000000) (disch := omega) only [cA, cB, lk, lkH, Dst.onT, Dst.onX, Dst.slot, setF, setH, mapF, mapH, initF, binE, unE, cnt, boundE, newsE, freshE, opE, rmH, blkQ, frz_us, Nat.reduceEqDiff, Nat.reduceLT, Nat.reduceAdd, ↓reduceIte, reduceCtorEq, Nat.reduceLeDiff, dl2])
              refine W_cond rfl (fun _ => W_skip ?_) (fun h => by cases h)
              repeat (first | (refine W_seq ?_) | (refine W_reg ?_) | (refine W_regd ?_) | (refine W_block ?_) | (refine And.intro (by omega) ?_) | simp (maxSteps := 1000000) (disch := omega) only [cA, cB, lk, lkH, Dst.onT, Dst.onX, Dst.slot, setF, setH, mapF, mapH, initF, binE, unE, cnt, boundE, newsE, freshE, opE, rmH, blkQ, frz_us, Nat.reduceEqDiff, Nat.reduceLT, Nat.reduceAdd, ↓reduceIte, reduceCtorEq, Nat.reduceLeDiff, ei, hln, hgi, hsi])
              refine W_loop (σ := Nat) (fun j => [(0, .sl 1 (recD recs)), (2, .str []), (3, .int .i64 0), (7, .osl 1 50 0 m), (51, .sl 1 (recD recs)), (52, .int .i64 recs.length), (53, .int .i64 i), (57, .sl 1 (strL (recs.getD i []))), (58, .int .i64 m), (59, .int .i64 j)]) (fun j => [(50, wcells (wmix recs i j) m)]) (fun j => j ≤ m ∧ ∀ c, c < j → cellB ((recs.getD i []).getD c []) = true) (fun j => m - j) 0 (And.intro (Nat.zero_le _) (fun c hc => absurd hc (by omega))) ?_ (by rw [wmix_zero]) ?_
              · simp [subF, lk]
              · rintro j ⟨hj, hcj⟩
                try simp only at hj hcj ⊢
                by_cases hjm : j < m
                · have dj : decide ((j : Int) < m) = true := decide_eq_true (by omega)
                  have ej : (j : Int).toNat = j := Int.toNat_natCast j
                  have hgj := strL_getD (r := recs.getD i []) (j := j) (by omega)
                  have hbd := hb3 i j
                  have cc := reCell_calls ((recs.getD i []).getD j []) (by omega)
                  have e1j : ((j : Int) + 1) = ((j + 1 : Nat) : Int) := by omega
                  have hwl := wcells_len (wmix recs i j) m
                  have hwg := wcells_getD (f := wmix recs i j) hjm
                  have hws := wcells_set (recs := recs) hlt2 hjm
                  have hmx : wmix recs i j j = wdT recs i j := by unfold wmix; rw [if_neg (Nat.lt_irrefl _)]
                  rw [hmx] at hwg
                  have hform := @form_bad recs i j hlt2 (by omega)
                  have hnext : cellB ((recs.getD i []).getD j []) = true → ∀ c, c < j + 1 → cellB ((recs.getD i []).getD c []) = true := fun h c hc => by
                    rcases Nat.lt_or_ge c j with hcj2 | hcj2
                    · exact hcj c hcj2
                    · rw [show c = j by omega]; exact h
                  generalize (recs.getD i []).getD j [] = S at *
                  repeat (first | (refine W_seq ?_) | (refine W_reg ?_) | (refine W_regd ?_) | (refine W_block ?_) | (refine And.intro (by omega) ?_) | simp (maxSteps := 1000000) (disch := omega) only [cA, cB, lk, lkH, Dst.onT, Dst.onX, Dst.slot, setF, setH, mapF, mapH, initF, binE, unE, cnt, boundE, newsE, freshE, opE, rmH, blkQ, frz_us, Nat.reduceEqDiff, Nat.reduceLT, Nat.reduceAdd, ↓reduceIte, reduceCtorEq, Nat.reduceLeDiff, dj])
                  refine W_cond rfl (fun _ => W_skip ?_) (fun h => by cases h)
                  cases hcb : cellB S
                  · rw [hcb] at cc
                    have hR : colR recs = .tup [.str [], .int .i64 4] := by
                      unfold colR
                      rw [hsh, hform hcb]; rfl
                    rw [hR]
                    clear hnext hform hcj
                    repeat (first | (refine W_seq ?_) | (refine W_reg ?_) | (refine W_regd ?_) | (refine W_block ?_) | (refine And.intro (by omega) ?_) | simp (maxSteps := 1000000) (disch := omega) only [cA, cB, lk, lkH, Dst.onT, Dst.onX, Dst.slot, setF, setH, mapF, mapH, initF, binE, unE, cnt, boundE, newsE, freshE, opE, rmH, blkQ, frz_us, Nat.reduceEqDiff, Nat.reduceLT, Nat.reduceAdd, ↓reduceIte, reduceCtorEq, Nat.reduceLeDiff, ej, hsi, hgj] | (refine callC_pure (cc) rfl ?_) | exact W_ret (RetP_1 (.imm rfl)) | exact W_ret (RetP_c rfl rfl rfl (.imm rfl)))
                    refine W_cond rfl (fun _ => ?_) (fun h => by cases h)
                    repeat (first | (refine W_seq ?_) | (refine W_reg ?_) | (refine W_regd ?_) | (refine W_block ?_) | (refine And.intro (by omega) ?_) | simp (maxSteps := 1000000) (disch := omega) only [cA, cB, lk, lkH, Dst.onT, Dst.onX, Dst.slot, setF, setH, mapF, mapH, initF, binE, unE, cnt, boundE, newsE, freshE, opE, rmH, blkQ, frz_us, Nat.reduceEqDiff, Nat.reduceLT, Nat.reduceAdd, ↓reduceIte, reduceCtorEq, Nat.reduceLeDiff])
                    refine W_ret ?_
                    exact RetP_2 (.imm rfl) (.imm rfl)
                  · rw [hcb] at cc
                    have hnx := Dat.Hid.mk (hnext hcb)
                    have emax : (if ((wdT recs i j : Nat) : Int) < (S.length : Int) then (S.length : Int) else ((wdT recs i j : Nat) : Int)) = ((max (wdT recs i j) S.length : Nat) : Int) := by
                      split <;> omega
                    clear hnext hform hcj
                    repeat (first | (refine W_seq ?_) | (refine W_reg ?_) | (refine W_regd ?_) | (refine W_block ?_) | (refine And.intro (by omega) ?_) | simp (maxSteps := 1000000) (disch := omega) only [cA, cB, lk, lkH, Dst.onT, Dst.onX, Dst.slot, setF, setH, mapF, mapH, initF, binE, unE, cnt, boundE, newsE, freshE, opE, rmH, blkQ, frz_us, Nat.reduceEqDiff, Nat.reduceLT, Nat.reduceAdd, ↓reduceIte, reduceCtorEq, Nat.reduceLeDiff, ej, hsi, hgj] | (refine callC_pure (cc) rfl ?_) | exact W_ret (RetP_1 (.imm rfl)) | exact W_ret (RetP_c rfl rfl rfl (.imm rfl)))
                    refine W_cond rfl (fun h => by cases h) (fun _ => W_skip ?_)
                    repeat (first | (refine W_seq ?_) | (refine W_reg ?_) | (refine W_regd ?_) | (refine W_block ?_) | (refine And.intro (by omega) ?_) | simp (maxSteps := 1000000) (disch := omega) only [cA, cB, lk, lkH, Dst.onT, Dst.onX, Dst.slot, setF, setH, mapF, mapH, initF, binE, unE, cnt, boundE, newsE, freshE, opE, rmH, blkQ, frz_us, Nat.reduceEqDiff, Nat.reduceLT, Nat.reduceAdd, ↓reduceIte, reduceCtorEq, Nat.reduceLeDiff, ej, hwl, hwg, emax, hws, e1j])
                    exact ⟨j + 1, And.intro hjm hnx.out, by omega, by simp [subF, lk]⟩
                · have dj : decide ((j : Int) < m) = false := decide_eq_false (by omega)
                  have hjm2 : j = m := by omega
                  subst hjm2
                  have hnx : Dat.Hid (∀ c, c < i + 1 → ∀ q, q < j → cellB ((recs.getD c []).getD q []) = true) := ⟨fun c hc q hq => by
                    rcases Nat.lt_or_ge c i with hci | hci
                    · exact hok.out c hci q hq
                    · rw [show c = i by omega]; exact hcj q hq⟩
                  clear hcj hok
                  rw [wmix_full]
                  repeat (first | (refine W_seq ?_) | (refine W_reg ?_) | (refine W_regd ?_) | (refine W_block ?_) | (refine And.intro (by omega) ?_) | simp (maxSteps := 1000000) (disch := omega) only [cA, cB, lk, lkH, Dst.onT, Dst.onX, Dst.slot, setF, setH, mapF, mapH, initF, binE, unE, cnt, boundE, newsE, freshE, opE, rmH, blkQ, frz_us, Nat.reduceEqDiff, Nat.reduceLT, Nat.reduceAdd, ↓reduceIte, reduceCtorEq, Nat.reduceLeDiff, dj])
                  refine W_cond rfl (fun h => by cases h) (fun _ => W_exit ?_)
                  repeat (first | (refine W_seq ?_) | (refine W_reg ?_) | (refine W_regd ?_) | (refine W_block ?_) | (refine And.intro (by omega) ?_) | simp (maxSteps := 1000000) (disch := omega) only [cA, cB, lk, lkH, Dst.onT, Dst.onX, Dst.slot, setF, setH, mapF, mapH, initF, binE, unE, cnt, boundE, newsE, freshE, opE, rmH, blkQ, frz_us, Nat.reduceEqDiff, Nat.reduceLT, Nat.reduceAdd, ↓reduceIte, reduceCtorEq, Nat.reduceLeDiff, e1])
                  exact ⟨i + 1, And.intro hlt2 hnx.out, by omega, by simp [subF, lk]⟩
            · have dl2 : decide ((i : Int) < recs.length) = false := decide_eq_false (by omega)
              have hil2 : i = recs.length := by omega
              subst hil2
              have hform : formB recs = true := form_ok fun c hc q hq => hok c hc q (by rw [hlen.out c hc] at hq; exact hq)
              have hR : colR recs = .tup [.str (colT (wdT recs recs.length) recs m recs.length), .int .i64 0] := by
                unfold colR
                rw [hsh, hform, hmd]; rfl
              rw [hR]
              clear hok
              repeat (first | (refine W_seq ?_) | (refine W_reg ?_) | (refine W_regd ?_) | (refine W_block ?_) | (refine And.intro (by omega) ?_) | simp (maxSteps := 1000000) (disch := omega) only [cA, cB, lk, lkH, Dst.onT, Dst.onX, Dst.slot, setF, setH, mapF, mapH, initF, binE, unE, cnt, boundE, newsE, freshE, opE, rmH, blkQ, frz_us, Nat.reduceEqDiff, Nat.reduceLT, Nat.reduceAdd, ↓reduceIte, reduceCtorEq, Nat.reduceLeDiff, dl2])
              refine W_cond rfl (fun h => by cases h) (fun _ => W_exit ?_)
              simp (maxSteps := 1000000) (disch := omega) only [cA, cB, lk, lkH, Dst.onT, Dst.onX, Dst.slot, setF, setH, mapF, mapH, initF, binE, unE, cnt, boundE, newsE, freshE, opE, rmH, blkQ, frz_us, Nat.reduceEqDiff, Nat.reduceLT, Nat.reduceAdd, ↓reduceIte, reduceCtorEq, Nat.reduceLeDiff]
              have ht := reTail recs m hpos (by omega) hm1 hm32 hlen.out hform
              unfold reT codereColumns at ht
              dsimp only [dSeq2] at ht
              exact W_sub (by simp [subF, lk]) ht
end Go.Proofs.YtammbggabhnfdaaDoor
namespace Go.Proofs.YtammbggabhnfdaaDoor
open Go Go.Dat Go.Proofs Nat32 Go.RowKit
theorem split_calls (s : List UInt8) (c : UInt8) (h : s.length < 4294967281) : PCalls Tryd.prog 24 [.str s, .str [c]] (.sl 1 (strL (spl1 c s))) :=
  PCalls_split (g := 0) (by kernel_rfl) fun m w hm => Tryd.strings_Split ⟨s.toArray⟩ ⟨#[c]⟩ m w (by show s.toArray.size < _; simpa using h) hm (Nat.le_refl 1)
theorem suffix_calls (s p : List UInt8) (h : s.length ≤ 9223372036854775807) : PCalls Tryd.prog 32 [.str s, .str p] (.bool (Lib.hasSuffix s p)) :=
  PCalls_suffix fun w => Tryd.strings_HasSuffix ⟨s.toArray⟩ ⟨p.toArray⟩ w (by show s.toArray.size ≤ _; simpa using h)
def linesD (s : List UInt8) : DV := if Lib.hasSuffix s [10] = true then .tup [.sl 1 (strL (spl1 10 (s.take (s.length - 1)))), .bool true] else .tup [.nils, .bool false]
theorem rpLines_calls (s : List UInt8) (h : s.length < 4294967281) : PCalls Tryd.prog 23 [.str s] (linesD s) := by
  have c1 := suffix_calls s [10] (by omega)
  refine PCalls_of isrpLines (by simp [fnrpLines]) ?_
  unfold coderpLines
  unfold linesD
  cases hs : Lib.hasSuffix s [10]
  · rw [hs] at c1
    rw [if_neg (by decide)]
    repeat (first | (refine W_seq ?_) | (refine W_reg ?_) | (refine W_regd ?_) | (refine W_block ?_) | (refine And.intro (by omega) ?_) | simp (maxSteps := 1000000) (disch := omega) only [cA, cB, lk, lkH, Dst.onT, Dst.onX, Dst.slot, setF, setH, mapF, mapH, initF, binE, unE, cnt, boundE, newsE, freshE, opE, rmH, blkQ, frz_us, Nat.reduceEqDiff, Nat.reduceLT, Nat.reduceAdd, ↓reduceIte, reduceCtorEq, Nat.reduceLeDiff] | (refine callC_pure (c1) rfl ?_) | exact W_ret (RetP_1 (.imm rfl)) | exact W_ret (RetP_c rfl rfl rfl (.imm rfl)))
    refine W_cond rfl (fun _ => ?_) (fun h => by cases h)
    repeat (first | (refine W_seq ?_) | (refine W_reg ?_) | (refine W_regd ?_) | (refine W_block ?_) | (refine And.intro (by omega) ?_) | simp (maxSteps := 1000000) (disch := omega) only [cA, cB, lk, lkH, Dst.onT, Dst.onX, Dst.slot, setF, setH, mapF, mapH, initF, binE, unE, cnt, boundE, newsE, freshE, opE, rmH, blkQ, frz_us, Nat.reduceEqDiff, Nat.reduceLT, Nat.reduceAdd, ↓reduceIte, reduceCtorEq, Nat.reduceLeDiff])
    exact W_ret (RetP_2 (.imm rfl) (.imm rfl))
  · rw [hs] at c1
    rw [if_pos rfl]
    obtain ⟨t, rfl⟩ := (suffix_10 s).1 hs
    have hl : (t ++ [10]).length = t.length + 1 := by simp
    have ht : (t ++ [10]).take t.length = t := by simp
    have e1 : ((t.length + 1 : Nat) : Int) - 1 = (t.length : Int) := by omega
    have e2 : (t.length : Int).toNat = t.length := Int.toNat_natCast _
    rw [hl] at h ⊢
    rw [show t.length + 1 - 1 = t.length by omega, ht]
    have c2 := split_calls t 10 (by omega)
    have hle : (t.length : Int) ≤ ((t.length + 1 : Nat) : Int) := by omega
    repeat (first | (refine W_seq ?_) | (refine W_reg ?_) | (refine W_regd ?_) | (refine W_block ?_) | (refine And.intro (by omega) ?_) | simp (maxSteps := 1000000) (disch := omega) only [cA, cB, lk, lkH, Dst.onT, Dst.onX, Dst.slot, setF, setH, mapF, mapH, initF, binE, unE, cnt, boundE, newsE, freshE, opE, rmH, blkQ, frz_us, Nat.reduceEqDiff, Nat.reduceLT, Nat.reduceAdd, ↓reduceIte, reduceCtorEq, Nat.reduceLeDiff, hl] | (refine callC_pure (c1) rfl ?_) | exact W_ret (RetP_1 (.imm rfl)) | exact W_ret (RetP_c rfl rfl rfl (.imm rfl)))
    refine W_cond rfl (fun h => by cases h) (fun _ => W_skip ?_)
    repeat (first | (refine W_seq ?_) | (refine W_reg ?_) | (refine W_regd ?_) | (refine W_block ?_) | (refine And.intro (by omega) ?_) | simp (maxSteps := 1000000) (disch := omega) only [cA, cB, lk, lkH, Dst.onT, Dst.onX, Dst.slot, setF, setH, mapF, mapH, initF, binE, unE, cnt, boundE, newsE, freshE, opE, rmH, blkQ, frz_us, Nat.reduceEqDiff, Nat.reduceLT, Nat.reduceAdd, ↓reduceIte, reduceCtorEq, Nat.reduceLeDiff, hl, e1, e2, ht, List.drop_zero] | (refine callC_pure (c2) rfl ?_) | exact W_ret (RetP_1 (.imm rfl)) | exact W_ret (RetP_c rfl rfl rfl (.imm rfl)))
    exact W_ret (RetP_2 (.imm rfl) (.imm rfl))
end Go.Proofs.YtammbggabhnfdaaDoor
namespace Go.Proofs.YtammbggabhnfdaaDoor
open Go Go.Dat Go.Proofs Nat32 Go.RowKit
theorem frz_recD' (R : List (List Bs)) (o : Nat) : frz o (recD R) (.osl 1 o 0 R.length) = .sl 1 (recD R) := by
  have := recD_len R
  simp [frz, this]
  rw [List.take_of_length_le (Nat.le_of_eq this)]
set_option maxHeartbeats 2000000 in
theorem rpParse_calls (s : Bs) (hs : s.length ≤ 1000000) : PCalls Tryd.prog 11 [.str s] (parD s) := by
  have c0 := rpLines_calls s (by omega)
  refine PCalls_of isrpParse (by simp [fnrpParse]) ?_
  unfold coderpParse
  unfold linesD at c0
  cases hsf : Lib.hasSuffix s [10]
  · rw [hsf, if_neg (by decide)] at c0
    have hp : parD s = .tup [.nils, .int .i64 3] := parD_bad fun h => by rw [(suffix_10 s).2 h] at hsf; cases hsf
    rw [hp]
    repeat (first | (refine W_seq ?_) | (refine W_reg ?_) | (refine W_regd ?_) | (refine W_block ?_) | (refine And.intro (by omega) ?_) | simp (maxSteps := 1000000) (disch := omega) only [cA, cB, lk, lkH, Dst.onT, Dst.onX, Dst.slot, setF, setH, mapF, mapH, initF, binE, unE, cnt, boundE, newsE, freshE, opE, rmH, blkQ, frz_us, Nat.reduceEqDiff, Nat.reduceLT, Nat.reduceAdd, ↓reduceIte, reduceCtorEq, Nat.reduceLeDiff] | (refine callC_pure (c0) rfl ?_) | exact W_ret (RetP_1 (.imm rfl)) | exact W_ret (RetP_c rfl rfl rfl (.imm rfl)))
    refine W_cond rfl (fun _ => ?_) (fun h => by cases h)
    repeat (first | (refine W_seq ?_) | (refine W_reg ?_) | (refine W_regd ?_) | (refine W_block ?_) | (refine And.intro (by omega) ?_) | simp (maxSteps := 1000000) (disch := omega) only [cA, cB, lk, lkH, Dst.onT, Dst.onX, Dst.slot, setF, setH, mapF, mapH, initF, binE, unE, cnt, boundE, newsE, freshE, opE, rmH, blkQ, frz_us, Nat.reduceEqDiff, Nat.reduceLT, Nat.reduceAdd, ↓reduceIte, reduceCtorEq, Nat.reduceLeDiff])
    exact W_ret (RetP_2 (.imm rfl) (.imm rfl))
  · obtain ⟨t, rfl⟩ := (suffix_10 s).1 hsf
    have htk : (t ++ [10]).take ((t ++ [10]).length - 1) = t := by simp
    rw [hsf, if_pos rfl, htk] at c0
    clear htk
    have hwl := words_lines t
    have hsl := strL_len (spl1 10 t)
    have hll := spl1_len 10 t
    have htl : t.length + 1 ≤ 1000000 := by simpa using hs
    have hmem := spl1_mem 10 t
    have hrb := recB_words (t ++ [10])
    rw [hwl] at hrb
    have hpD : parD (t ++ [10]) = if colP ((spl1 10 t).map lineW) = some (t ++ [10]) then .tup [.sl 1 (recD ((spl1 10 t).map lineW)), .int .i64 0] else .tup [.nils, .int .i64 3] := by unfold parD; rw [hwl]
    generalize spl1 10 t = lns at *
    by_cases hm : 1024 < lns.length
    · have d1 : decide ((1024 : Int) < (lns.length : Int)) = true := decide_eq_true (by omega)
      rw [colP_many (by simpa using hm), if_neg (by simp)] at hpD
      rw [hpD]
      repeat (first | (refine W_seq ?_) | (refine W_reg ?_) | (refine W_regd ?_) | (refine W_block ?_) | (refine And.intro (by omega) ?_) | simp (maxSteps := 1000000) (disch := omega) only [cA, cB, lk, lkH, Dst.onT, Dst.onX, Dst.slot, setF, setH, mapF, mapH, initF, binE, unE, cnt, boundE, newsE, freshE, opE, rmH, blkQ, frz_us, Nat.reduceEqDiff, Nat.reduceLT, Nat.reduceAdd, ↓reduceIte, reduceCtorEq, Nat.reduceLeDiff, hsl, d1] | (refine callC_pure (c0) rfl ?_) | exact W_ret (RetP_1 (.imm rfl)) | exact W_ret (RetP_c rfl rfl rfl (.imm rfl)))
      refine W_cond rfl (fun _ => ?_) (fun h => by cases h)
      repeat (first | (refine W_seq ?_) | (refine W_reg ?_) | (refine W_regd ?_) | (refine W_block ?_) | (refine And.intro (by omega) ?_) | simp (maxSteps := 1000000) (disch := omega) only [cA, cB, lk, lkH, Dst.onT, Dst.onX, Dst.slot, setF, setH, mapF, mapH, initF, binE, unE, cnt, boundE, newsE, freshE, opE, rmH, blkQ, frz_us, Nat.reduceEqDiff, Nat.reduceLT, Nat.reduceAdd, ↓reduceIte, reduceCtorEq, Nat.reduceLeDiff])
      exact W_ret (RetP_2 (.imm rfl) (.imm rfl))
    · have d1 : decide ((1024 : Int) < (lns.length : Int)) = false := decide_eq_false (by omega)
      rw [hpD]
      clear hpD hwl
      repeat (first | (refine W_seq ?_) | (refine W_reg ?_) | (refine W_regd ?_) | (refine W_block ?_) | (refine And.intro (by omega) ?_) | simp (maxSteps := 1000000) (disch := omega) only [cA, cB, lk, lkH, Dst.onT, Dst.onX, Dst.slot, setF, setH, mapF, mapH, initF, binE, unE, cnt, boundE, newsE, freshE, opE, rmH, blkQ, frz_us, Nat.reduceEqDiff, Nat.reduceLT, Nat.reduceAdd, ↓reduceIte, reduceCtorEq, Nat.reduceLeDiff, hsl, d1] | (refine callC_pure (c0) rfl ?_) | exact W_ret (RetP_1 (.imm rfl)) | exact W_ret (RetP_c rfl rfl rfl (.imm rfl)))
      refine W_cond rfl (fun h => by cases h) (fun _ => W_skip ?_)
      repeat (first | (refine W_seq ?_) | (refine W_reg ?_) | (refine W_regd ?_) | (refine W_block ?_) | (refine And.intro (by omega) ?_) | simp (maxSteps := 1000000) (disch := omega) only [cA, cB, lk, lkH, Dst.onT, Dst.onX, Dst.slot, setF, setH, mapF, mapH, initF, binE, unE, cnt, boundE, newsE, freshE, opE, rmH, blkQ, frz_us, Nat.reduceEqDiff, Nat.reduceLT, Nat.reduceAdd, ↓reduceIte, reduceCtorEq, Nat.reduceLeDiff, hsl])
      refine W_own 6 1 49 rfl (by simp [lkH]) ?_
      simp (maxSteps := 1000000) (disch := omega) only [cA, cB, lk, lkH, Dst.onT, Dst.onX, Dst.slot, setF, setH, mapF, mapH, initF, binE, unE, cnt, boundE, newsE, freshE, opE, rmH, blkQ, frz_us, Nat.reduceEqDiff, Nat.reduceLT, Nat.reduceAdd, ↓reduceIte, reduceCtorEq, Nat.reduceLeDiff]
      (replace hmem := Hid.mk hmem; replace hrb := Hid.mk hrb)
      refine W_loop (σ := Nat × List (List Bs)) (fun s => [(0, .str (t ++ [10])), (6, .osl 1 49 0 s.2.length), (26, .sl 1 (strL lns)), (27, .int .i64 lns.length), (28, .int .i64 s.1)]) (fun s => [(49, recD s.2)]) (fun s => s.1 ≤ lns.length ∧ s.2 = (lns.take s.1).map lineW) (fun s => lns.length - s.1) (0, []) (And.intro (Nat.zero_le _) rfl) ?_ rfl ?_
      · simp [subF, lk]
      · rintro ⟨i, R⟩ ⟨hi, hR⟩
        try simp only at hi hR ⊢
        have hRl : R.length = i := by rw [hR]; simp; omega
        have hrl := recD_len R
        by_cases hlt : i < lns.length
        · have dl : decide ((i : Int) < lns.length) = true := decide_eq_true (by omega)
          have ei : (i : Int).toNat = i := Int.toNat_natCast i
          have hgi := strL_getD (r := lns) hlt
          have e1 : ((i : Int) + 1) = ((i + 1 : Nat) : Int) := by omega
          have hln : (lns.getD i []).length ≤ t.length := hmem.out _ (by rw [List.getD_eq_getElem?_getD, List.getElem?_eq_getElem hlt]; exact List.getElem_mem hlt)
          have hRn : (lns.take (i + 1)).map lineW = R ++ [lineW (lns.getD i [])] := by
            rw [hR, List.take_add_one, List.getElem?_eq_getElem hlt, List.map_append, List.getD_eq_getElem?_getD, List.getElem?_eq_getElem hlt]; rfl
          have hps := spl1_len 32 (lns.getD i [])
          have c1 := split_calls (lns.getD i []) 32 (by omega)
          have hpl := strL_len (spl1 32 (lns.getD i []))
          have hlw : lineW (lns.getD i []) = fl (spl1 32 (lns.getD i [])) := rfl
          rw [hlw] at hRn
          clear hlw
          generalize spl1 32 (lns.getD i []) = ps at *
          generalize lns.getD i [] = ln at *
          repeat (first | (refine W_seq ?_) | (refine W_reg ?_) | (refine W_regd ?_) | (refine W_block ?_) | (refine And.intro (by omega) ?_) | simp (maxSteps := 1000000) (disch := omega) only [cA, cB, lk, lkH, Dst.onT, Dst.onX, Dst.slot, setF, setH, mapF, mapH, initF, binE, unE, cnt, boundE, newsE, freshE, opE, rmH, blkQ, frz_us, Nat.reduceEqDiff, Nat.reduceLT, Nat.reduceAdd, ↓reduceIte, reduceCtorEq, Nat.reduceLeDiff, dl])
          refine W_cond rfl (fun _ => W_skip ?_) (fun h => by cases h)
          repeat (first | (refine W_seq ?_) | (refine W_reg ?_) | (refine W_regd ?_) | (refine W_block ?_) | (refine And.intro (by omega) ?_) | simp (maxSteps := 1000000) (disch := omega) only [cA, cB, lk, lkH, Dst.onT, Dst.onX, Dst.slot, setF, setH, mapF, mapH, initF, binE, unE, cnt, boundE, newsE, freshE, opE, rmH, blkQ, frz_us, Nat.reduceEqDiff, Nat.reduceLT, Nat.reduceAdd, ↓reduceIte, reduceCtorEq, Nat.reduceLeDiff, ei, hsl, hgi, hpl] | (refine callC_pure (c1) rfl ?_) | exact W_ret (RetP_1 (.imm rfl)) | exact W_ret (RetP_c rfl rfl rfl (.imm rfl)))
          refine W_own 9 1 44 rfl (by simp [lkH]) ?_
          simp (maxSteps := 1000000) (disch := omega) only [cA, cB, lk, lkH, Dst.onT, Dst.onX, Dst.slot, setF, setH, mapF, mapH, initF, binE, unE, cnt, boundE, newsE, freshE, opE, rmH, blkQ, frz_us, Nat.reduceEqDiff, Nat.reduceLT, Nat.reduceAdd, ↓reduceIte, reduceCtorEq, Nat.reduceLeDiff]
          refine W_loop (σ := Nat × List Bs) (fun s => [(0, .str (t ++ [10])), (6, .osl 1 49 0 R.length), (9, .osl 1 44 0 s.2.length), (26, .sl 1 (strL lns)), (27, .int .i64 lns.length), (28, .int .i64 i), (33, .sl 1 (strL ps)), (34, .int .i64 ps.length), (35, .int .i64 s.1)]) (fun s => [(44, strL s.2), (49, recD R)]) (fun s => s.1 ≤ ps.length ∧ s.2 = fl (ps.take s.1)) (fun s => ps.length - s.1) (0, []) (And.intro (Nat.zero_le _) rfl) ?_ rfl ?_
          · simp [subF, lk]
          · rintro ⟨j, r⟩ ⟨hj, hr⟩
            try simp only at hj hr ⊢
            have hfl := fl_len (ps.take j)
            rw [← hr, List.length_take] at hfl
            have hsr := strL_len r
            by_cases hjt : j < ps.length
            · have dj : decide ((j : Int) < ps.length) = true := decide_eq_true (by omega)
              have ej : (j : Int).toNat = j := Int.toNat_natCast j
              have hgj := strL_getD (r := ps) hjt
              have e1j : ((j : Int) + 1) = ((j + 1 : Nat) : Int) := by omega
              have hrn : fl (ps.take (j + 1)) = if ps.getD j [] = [] then r else r ++ [ps.getD j []] := by
                rw [List.take_add_one, List.getElem?_eq_getElem hjt, Option.toList_some, fl_app, ← hr, List.getD_eq_getElem?_getD, List.getElem?_eq_getElem hjt]; rfl
              generalize ps.getD j [] = p at *
              repeat (first | (refine W_seq ?_) | (refine W_reg ?_) | (refine W_regd ?_) | (refine W_block ?_) | (refine And.intro (by omega) ?_) | simp (maxSteps := 1000000) (disch := omega) only [cA, cB, lk, lkH, Dst.onT, Dst.onX, Dst.slot, setF, setH, mapF, mapH, initF, binE, unE, cnt, boundE, newsE, freshE, opE, rmH, blkQ, frz_us, Nat.reduceEqDiff, Nat.reduceLT, Nat.reduceAdd, ↓reduceIte, reduceCtorEq, Nat.reduceLeDiff, dj])
              refine W_cond rfl (fun _ => W_skip ?_) (fun h => by cases h)
              by_cases hp : p = []
              · rw [if_pos hp] at hrn
                have dp : decide (¬ p = []) = false := decide_eq_false (fun h => h hp)
                repeat (first | (refine W_seq ?_) | (refine W_reg ?_) | (refine W_regd ?_) | (refine W_block ?_) | (refine And.intro (by omega) ?_) | simp (maxSteps := 1000000) (disch := omega) only [cA, cB, lk, lkH, Dst.onT, Dst.onX, Dst.slot, setF, setH, mapF, mapH, initF, binE, unE, cnt, boundE, newsE, freshE, opE, rmH, blkQ, frz_us, Nat.reduceEqDiff, Nat.reduceLT, Nat.reduceAdd, ↓reduceIte, reduceCtorEq, Nat.reduceLeDiff, ej, hpl, hgj, dp])
                refine W_cond rfl (fun h => by cases h) (fun _ => W_skip ?_)
                repeat (first | (refine W_seq ?_) | (refine W_reg ?_) | (refine W_regd ?_) | (refine W_block ?_) | (refine And.intro (by omega) ?_) | simp (maxSteps := 1000000) (disch := omega) only [cA, cB, lk, lkH, Dst.onT, Dst.onX, Dst.slot, setF, setH, mapF, mapH, initF, binE, unE, cnt, boundE, newsE, freshE, opE, rmH, blkQ, frz_us, Nat.reduceEqDiff, Nat.reduceLT, Nat.reduceAdd, ↓reduceIte, reduceCtorEq, Nat.reduceLeDiff, e1j])
                exact ⟨(j + 1, r), And.intro hjt hrn.symm, by simp only; omega, by simp [subF, lk], rfl⟩
              · rw [if_neg hp] at hrn
                have dp : decide (¬ p = []) = true := decide_eq_true hp
                have el : r.length + 1 = (r ++ [p]).length := by simp
                repeat (first | (refine W_seq ?_) | (refine W_reg ?_) | (refine W_regd ?_) | (refine W_block ?_) | (refine And.intro (by omega) ?_) | simp (maxSteps := 1000000) (disch := omega) only [cA, cB, lk, lkH, Dst.onT, Dst.onX, Dst.slot, setF, setH, mapF, mapH, initF, binE, unE, cnt, boundE, newsE, freshE, opE, rmH, blkQ, frz_us, Nat.reduceEqDiff, Nat.reduceLT, Nat.reduceAdd, ↓reduceIte, reduceCtorEq, Nat.reduceLeDiff, ej, hpl, hgj, dp])
                refine W_cond rfl (fun _ => ?_) (fun h => by cases h)
                repeat (first | (refine W_seq ?_) | (refine W_reg ?_) | (refine W_regd ?_) | (refine W_block ?_) | (refine And.intro (by omega) ?_) | simp (maxSteps := 1000000) (disch := omega) only [cA, cB, lk, lkH, Dst.onT, Dst.onX, Dst.slot, setF, setH, mapF, mapH, initF, binE, unE, cnt, boundE, newsE, freshE, opE, rmH, blkQ, frz_us, Nat.reduceEqDiff, Nat.reduceLT, Nat.reduceAdd, ↓reduceIte, reduceCtorEq, Nat.reduceLeDiff, cS, rfm_nil, rfm_str, hsr])
                refine And.intro (And.intro (by omega) (And.intro (by omega) (fun d hd => by rw [List.mem_singleton.1 hd]; rfl))) ?_
                repeat (first | (refine W_seq ?_) | (refine W_reg ?_) | (refine W_regd ?_) | (refine W_block ?_) | (refine And.intro (by omega) ?_) | simp (maxSteps := 1000000) (disch := omega) only [cA, cB, lk, lkH, Dst.onT, Dst.onX, Dst.slot, setF, setH, mapF, mapH, initF, binE, unE, cnt, boundE, newsE, freshE, opE, rmH, blkQ, frz_us, Nat.reduceEqDiff, Nat.reduceLT, Nat.reduceAdd, ↓reduceIte, reduceCtorEq, Nat.reduceLeDiff, e1j, strL_app, purge_strL, purge_recD, el])
                exact ⟨(j + 1, r ++ [p]), And.intro hjt hrn.symm, by simp only; omega, by simp [subF, lk, purge, DV.has], rfl⟩
            · have dj : decide ((j : Int) < ps.length) = false := decide_eq_false (by omega)
              have hjl : j = ps.length := by omega
              rw [hjl, List.take_length] at hr
              repeat (first | (refine W_seq ?_) | (refine W_reg ?_) | (refine W_regd ?_) | (refine W_block ?_) | (refine And.intro (by omega) ?_) | simp (maxSteps := 1000000) (disch := omega) only [cA, cB, lk, lkH, Dst.onT, Dst.onX, Dst.slot, setF, setH, mapF, mapH, initF, binE, unE, cnt, boundE, newsE, freshE, opE, rmH, blkQ, frz_us, Nat.reduceEqDiff, Nat.reduceLT, Nat.reduceAdd, ↓reduceIte, reduceCtorEq, Nat.reduceLeDiff, dj])
              refine W_cond rfl (fun h => by cases h) (fun _ => W_exit ?_)
              simp (maxSteps := 1000000) (disch := omega) only [cA, cB, lk, lkH, Dst.onT, Dst.onX, Dst.slot, setF, setH, mapF, mapH, initF, binE, unE, cnt, boundE, newsE, freshE, opE, rmH, blkQ, frz_us, Nat.reduceEqDiff, Nat.reduceLT, Nat.reduceAdd, ↓reduceIte, reduceCtorEq, Nat.reduceLeDiff]
              refine W_freeze 44 (cells := strL r) rfl (strL_rf r) ?_
              have hfz := frz_strL r 44
              have e4 : R.length + 1 = (R ++ [r]).length := by simp
              repeat (first | (refine W_seq ?_) | (refine W_reg ?_) | (refine W_regd ?_) | (refine W_block ?_) | (refine And.intro (by omega) ?_) | simp (maxSteps := 1000000) (disch := omega) only [cA, cB, lk, lkH, Dst.onT, Dst.onX, Dst.slot, setF, setH, mapF, mapH, initF, binE, unE, cnt, boundE, newsE, freshE, opE, rmH, blkQ, frz_us, Nat.reduceEqDiff, Nat.reduceLT, Nat.reduceAdd, ↓reduceIte, reduceCtorEq, Nat.reduceLeDiff, hfz, cS, rfm_nil, rfm_sl, hrl, frz_recD])
              refine And.intro (And.intro (by omega) (And.intro (by omega) (fun d hd => by rw [List.mem_singleton.1 hd]; rfl))) ?_
              repeat (first | (refine W_seq ?_) | (refine W_reg ?_) | (refine W_regd ?_) | (refine W_block ?_) | (refine And.intro (by omega) ?_) | simp (maxSteps := 1000000) (disch := omega) only [cA, cB, lk, lkH, Dst.onT, Dst.onX, Dst.slot, setF, setH, mapF, mapH, initF, binE, unE, cnt, boundE, newsE, freshE, opE, rmH, blkQ, frz_us, Nat.reduceEqDiff, Nat.reduceLT, Nat.reduceAdd, ↓reduceIte, reduceCtorEq, Nat.reduceLeDiff, purge_recD, recD_app, e1, e4])
              exact ⟨(i + 1, R ++ [r]), And.intro hlt (by simp only; rw [hRn, hr]), by simp only; omega, by simp [subF, lk, purge, DV.has], rfl⟩
        · have dl : decide ((i : Int) < lns.length) = false := decide_eq_false (by omega)
          have hil : i = lns.length := by omega
          rw [hil, List.take_length] at hR
          rw [← hR] at hrb ⊢
          obtain ⟨b1, b2, b3⟩ := hrb.out
          have hte : (t ++ [10]).length ≤ 9223372036854775807 := by simp; omega
          have cc := rpColumns_calls R (by omega) (fun i => by have := b2 i; omega) (fun i j => by have := b3 i j; omega)
          clear b1 b2 b3 hte
          repeat (first | (refine W_seq ?_) | (refine W_reg ?_) | (refine W_regd ?_) | (refine W_block ?_) | (refine And.intro (by omega) ?_) | simp (maxSteps := 1000000) (disch := omega) only [cA, cB, lk, lkH, Dst.onT, Dst.onX, Dst.slot, setF, setH, mapF, mapH, initF, binE, unE, cnt, boundE, newsE, freshE, opE, rmH, blkQ, frz_us, Nat.reduceEqDiff, Nat.reduceLT, Nat.reduceAdd, ↓reduceIte, reduceCtorEq, Nat.reduceLeDiff, dl])
          refine W_cond rfl (fun h => by cases h) (fun _ => W_exit ?_)
          simp (maxSteps := 1000000) (disch := omega) only [cA, cB, lk, lkH, Dst.onT, Dst.onX, Dst.slot, setF, setH, mapF, mapH, initF, binE, unE, cnt, boundE, newsE, freshE, opE, rmH, blkQ, frz_us, Nat.reduceEqDiff, Nat.reduceLT, Nat.reduceAdd, ↓reduceIte, reduceCtorEq, Nat.reduceLeDiff]
          refine W_freeze 49 (cells := recD R) rfl (List.all_eq_true.2 (recD_rf R)) ?_
          have hfz := frz_recD' R 49
          simp (maxSteps := 1000000) (disch := omega) only [cA, cB, lk, lkH, Dst.onT, Dst.onX, Dst.slot, setF, setH, mapF, mapH, initF, binE, unE, cnt, boundE, newsE, freshE, opE, rmH, blkQ, frz_us, Nat.reduceEqDiff, Nat.reduceLT, Nat.reduceAdd, ↓reduceIte, reduceCtorEq, Nat.reduceLeDiff, hfz]
          cases hcp : colP R with
          | none =>
            obtain ⟨e, he, hce⟩ := colR_none hcp
            rw [hce] at cc
            have de : decide (¬ e = 0) = true := decide_eq_true he
            rw [if_neg (by simp)]
            repeat (first | (refine W_seq ?_) | (refine W_reg ?_) | (refine W_regd ?_) | (refine W_block ?_) | (refine And.intro (by omega) ?_) | simp (maxSteps := 1000000) (disch := omega) only [cA, cB, lk, lkH, Dst.onT, Dst.onX, Dst.slot, setF, setH, mapF, mapH, initF, binE, unE, cnt, boundE, newsE, freshE, opE, rmH, blkQ, frz_us, Nat.reduceEqDiff, Nat.reduceLT, Nat.reduceAdd, ↓reduceIte, reduceCtorEq, Nat.reduceLeDiff, de] | (refine callC_pure (cc) rfl ?_) | exact W_ret (RetP_1 (.imm rfl)) | exact W_ret (RetP_c rfl rfl rfl (.imm rfl)))
            refine W_cond rfl (fun _ => ?_) (fun h => by cases h)
            repeat (first | (refine W_seq ?_) | (refine W_reg ?_) | (refine W_regd ?_) | (refine W_block ?_) | (refine And.intro (by omega) ?_) | simp (maxSteps := 1000000) (disch := omega) only [cA, cB, lk, lkH, Dst.onT, Dst.onX, Dst.slot, setF, setH, mapF, mapH, initF, binE, unE, cnt, boundE, newsE, freshE, opE, rmH, blkQ, frz_us, Nat.reduceEqDiff, Nat.reduceLT, Nat.reduceAdd, ↓reduceIte, reduceCtorEq, Nat.reduceLeDiff])
            exact W_ret (RetP_2 (.imm rfl) (.imm rfl))
          | some u =>
            rw [colR_some hcp] at cc
            obtain ⟨e, he⟩ : ∃ e : Int, e = 0 := ⟨0, rfl⟩
            have de : decide (¬ e = 0) = false := decide_eq_false (fun h => h he)
            rw [← he] at cc
            by_cases hu : u = t ++ [10]
            · have du : decide (¬ u = t ++ [10]) = false := decide_eq_false (fun h => h hu)
              rw [if_pos (by rw [hu])]
              repeat (first | (refine W_seq ?_) | (refine W_reg ?_) | (refine W_regd ?_) | (refine W_block ?_) | (refine And.intro (by omega) ?_) | simp (maxSteps := 1000000) (disch := omega) only [cA, cB, lk, lkH, Dst.onT, Dst.onX, Dst.slot, setF, setH, mapF, mapH, initF, binE, unE, cnt, boundE, newsE, freshE, opE, rmH, blkQ, frz_us, Nat.reduceEqDiff, Nat.reduceLT, Nat.reduceAdd, ↓reduceIte, reduceCtorEq, Nat.reduceLeDiff, de, du] | (refine callC_pure (cc) rfl ?_) | exact W_ret (RetP_1 (.imm rfl)) | exact W_ret (RetP_c rfl rfl rfl (.imm rfl)))
              refine W_cond rfl (fun h => by cases h) (fun _ => W_skip ?_)
              repeat (first | (refine W_seq ?_) | (refine W_reg ?_) | (refine W_regd ?_) | (refine W_block ?_) | (refine And.intro (by omega) ?_) | simp (maxSteps := 1000000) (disch := omega) only [cA, cB, lk, lkH, Dst.onT, Dst.onX, Dst.slot, setF, setH, mapF, mapH, initF, binE, unE, cnt, boundE, newsE, freshE, opE, rmH, blkQ, frz_us, Nat.reduceEqDiff, Nat.reduceLT, Nat.reduceAdd, ↓reduceIte, reduceCtorEq, Nat.reduceLeDiff])
              exact W_ret (RetP_2 (.imm rfl) (.imm rfl))
            · have du : decide (¬ u = t ++ [10]) = true := decide_eq_true hu
              rw [if_neg (by simpa using hu)]
              repeat (first | (refine W_seq ?_) | (refine W_reg ?_) | (refine W_regd ?_) | (refine W_block ?_) | (refine And.intro (by omega) ?_) | simp (maxSteps := 1000000) (disch := omega) only [cA, cB, lk, lkH, Dst.onT, Dst.onX, Dst.slot, setF, setH, mapF, mapH, initF, binE, unE, cnt, boundE, newsE, freshE, opE, rmH, blkQ, frz_us, Nat.reduceEqDiff, Nat.reduceLT, Nat.reduceAdd, ↓reduceIte, reduceCtorEq, Nat.reduceLeDiff, de, du] | (refine callC_pure (cc) rfl ?_) | exact W_ret (RetP_1 (.imm rfl)) | exact W_ret (RetP_c rfl rfl rfl (.imm rfl)))
              refine W_cond rfl (fun _ => ?_) (fun h => by cases h)
              repeat (first | (refine W_seq ?_) | (refine W_reg ?_) | (refine W_regd ?_) | (refine W_block ?_) | (refine And.intro (by omega) ?_) | simp (maxSteps := 1000000) (disch := omega) only [cA, cB, lk, lkH, Dst.onT, Dst.onX, Dst.slot, setF, setH, mapF, mapH, initF, binE, unE, cnt, boundE, newsE, freshE, opE, rmH, blkQ, frz_us, Nat.reduceEqDiff, Nat.reduceLT, Nat.reduceAdd, ↓reduceIte, reduceCtorEq, Nat.reduceLeDiff])
              exact W_ret (RetP_2 (.imm rfl) (.imm rfl))
end Go.Proofs.YtammbggabhnfdaaDoor
