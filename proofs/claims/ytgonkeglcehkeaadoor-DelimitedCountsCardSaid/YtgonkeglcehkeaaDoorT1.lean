/- Lemmas of the walk; no conditions beyond those that each states. -/
import Derived.Shelf.Strings.Builder1
import Derived.Shelf.Strings.Builder2
import Derived.Shelf.Small.Utf8
import Derived.Shelf.Small.Strs
import Derived.Shelf.Strings.BuilderF
import Derived.Shelf.Strings.BuilderK
import Derived.Shelf.Utf8.RuneCount
import Derived.Shelf.Strings.Builder2Cap
import Derived.Shelf.Strings.Search1
import Derived.Shelf.Strings.Search2
import Derived.Shelf.Strings.Search3
import Derived.Shelf.Strings.Count
import Derived.Shelf.LaysM
import Derived.Shelf.Strings.Shaped
import Derived.Shelf.Strings.Prefix
import Derived.Shelf.Strings.Split
import Derived.Shelf.Strings.Replace
import Derived.Shelf.Strings.SplitShaped
import Derived.Shelf.Unicode.Decode
import Derived.Shelf.Strings.Runes
import Derived.Shelf.Strings.RuneCount
import Derived.Shelf.Strings.IndexAny
import Derived.Shelf.Strings.AsciiSet
import Derived.Shelf.Strings.IndexAnyAll
import Derived.Shelf.Unicode.DecodeSlow
import Derived.Shelf.Unicode.DecodeAny
import Derived.Shelf.Strings.BuilderCap
import Derived.Test.YtgonkeglcehkeaaDoorProg
import Derived.Defers
import Derived.Recover
import Derived.Laws.Pointers
import Derived.OpenShut
import Derived.Below
import Derived.Test.YtgonkeglcehkeaaDoorC1
import Derived.Test.YtgonkeglcehkeaaDoorD3
import Derived.Test.YtgonkeglcehkeaaDoorN1
set_option linter.unusedSimpArgs false
set_option linter.unusedVariables false
set_option linter.unnecessarySimpa false
namespace Go.Proofs
open Go.Shelf
def Tryd.lays169_ren : Go.Shelf.Ren := ⟨fun | 169 => 20 | n => n, fun | 70 => 39 | 9 => 9 | 0 => 0 | 72 => 41 | 37 => 35 | 127 => 62 | 3 => 3 | 5 => 5 | n => n, fun | n => n⟩
theorem Tryd.lays169 : Go.Proofs.Lays.n169 Tryd.prog Tryd.lays169_ren := {
  mixed := by kernel_rfl
  f169 := Tryd.func20.trans (congrArg some (by kernel_rfl))
  t0 := Tryd.underlying0
  a0 := Tryd.isAgg0
  z0 := Tryd.sizeOf0
  v0 := Tryd.zeroValue0
  t3 := Tryd.underlying3
  a3 := Tryd.isAgg3
  z3 := Tryd.sizeOf3
  v3 := Tryd.zeroValue3
  t9 := Tryd.underlying9
  a9 := Tryd.isAgg9
  z9 := Tryd.sizeOf9
  v9 := Tryd.zeroValue9
  t37 := Tryd.underlying35
  a37 := Tryd.isAgg35
  z37 := Tryd.sizeOf35
  v37 := Tryd.zeroValue35
  t70 := Tryd.underlying39
  a70 := Tryd.isAgg39
  z70 := Tryd.sizeOf39
  v70 := Tryd.zeroValue39
  t72 := Tryd.underlying41
  a72 := Tryd.isAgg41
  z72 := Tryd.sizeOf41
  v72 := Tryd.zeroValue41
  t127 := Tryd.underlying62
  a127 := Tryd.isAgg62
  z127 := Tryd.sizeOf62
  v127 := Tryd.zeroValue62 }
theorem Tryd.Builder_Extra_169 : Builder.Extra Tryd.prog Tryd.lays169_ren := {
  sizeBuilder := by kernel_rfl
  liesBuilder := by kernel_rfl
  t5 := Tryd.underlying5
  a5 := Tryd.isAgg5
  z5 := Tryd.sizeOf5
  v5 := Tryd.zeroValue5
  infoByte := by kernel_rfl
  cellsByte := by kernel_rfl
  sizeByte := by kernel_rfl
  neB5 := by decide }
def Tryd.lays119_ren : Go.Shelf.Ren := ⟨fun | 119 => 58 | n => n, fun | 21 => 21 | 4 => 4 | n => n, fun | n => n⟩
theorem Tryd.lays119 : Go.Proofs.Lays.n119 Tryd.prog Tryd.lays119_ren := {
  mixed := by kernel_rfl
  f119 := Tryd.func58.trans (congrArg some (by kernel_rfl))
  t4 := Tryd.underlying4
  a4 := Tryd.isAgg4
  z4 := Tryd.sizeOf4
  v4 := Tryd.zeroValue4
  t21 := Tryd.underlying21
  a21 := Tryd.isAgg21
  z21 := Tryd.sizeOf21
  v21 := Tryd.zeroValue21 }
theorem Tryd.utf8_ValidRune (r : Int) (w : World) :
    Calls Tryd.prog 58 #[.int .i32 r] w fun e w' => e = .returned (.bool (Lib.validRune r)) ∧ w' = w := Any.utf8_ValidRune Tryd.lays119 r w
def Tryd.lays137_ren : Go.Shelf.Ren := ⟨fun | 137 => 57 | 217 => 53 | 266 => 62 | n => n, fun | 9 => 9 | 5 => 5 | 3 => 3 | n => n, fun | n => n⟩
theorem Tryd.lays137 : Go.Proofs.Lays.n137 Tryd.prog Tryd.lays137_ren := {
  mixed := by kernel_rfl
  f137 := Tryd.func57.trans (congrArg some (by kernel_rfl))
  f217 := Tryd.func53.trans (congrArg some (by kernel_rfl))
  f266 := Tryd.func62.trans (congrArg some (by kernel_rfl))
  t3 := Tryd.underlying3
  a3 := Tryd.isAgg3
  z3 := Tryd.sizeOf3
  v3 := Tryd.zeroValue3
  t5 := Tryd.underlying5
  a5 := Tryd.isAgg5
  z5 := Tryd.sizeOf5
  v5 := Tryd.zeroValue5
  t9 := Tryd.underlying9
  a9 := Tryd.isAgg9
  z9 := Tryd.sizeOf9
  v9 := Tryd.zeroValue9 }
open Go.RowKit in
theorem Tryd.strings_IndexByte (s : ByteArray) (c : Int) (w : World) :
    Calls Tryd.prog 57 #[.string s, .int .u8 c] w fun e w' => e = .returned (.int .i64 (Lib.indexByte s.data.toList c.toNat.toUInt8)) ∧ w' = w := Any.strings_IndexByte Tryd.lays137 s c w
def Tryd.lays138_ren : Go.Shelf.Ren := ⟨fun | 138 => 24 | 195 => 33 | 218 => 34 | 143 => 35 | 219 => 43 | 217 => 53 | 225 => 54 | 224 => 55 | 267 => 56 | 266 => 62 | 314 => 63 | n => n, fun | 9 => 9 | 3 => 3 | 4 => 4 | 5 => 5 | 0 => 0 | 46 => 84 | 146 => 88 | 51 => 87 | n => n, fun | 1 => 0 | n => n⟩
theorem Tryd.lays138 : Go.Proofs.Lays.n138 Tryd.prog Tryd.lays138_ren := {
  mixed := by kernel_rfl
  f138 := Tryd.func24.trans (congrArg some (by kernel_rfl))
  f143 := Tryd.func35.trans (congrArg some (by kernel_rfl))
  f195 := Tryd.func33.trans (congrArg some (by kernel_rfl))
  f217 := Tryd.func53.trans (congrArg some (by kernel_rfl))
  f218 := Tryd.func34.trans (congrArg some (by kernel_rfl))
  f219 := Tryd.func43.trans (congrArg some (by kernel_rfl))
  f224 := Tryd.func55.trans (congrArg some (by kernel_rfl))
  f225 := Tryd.func54.trans (congrArg some (by kernel_rfl))
  f266 := Tryd.func62.trans (congrArg some (by kernel_rfl))
  f267 := Tryd.func56.trans (congrArg some (by kernel_rfl))
  f314 := Tryd.func63.trans (congrArg some (by kernel_rfl))
  t0 := Tryd.underlying0
  a0 := Tryd.isAgg0
  z0 := Tryd.sizeOf0
  v0 := Tryd.zeroValue0
  t3 := Tryd.underlying3
  a3 := Tryd.isAgg3
  z3 := Tryd.sizeOf3
  v3 := Tryd.zeroValue3
  t4 := Tryd.underlying4
  a4 := Tryd.isAgg4
  z4 := Tryd.sizeOf4
  v4 := Tryd.zeroValue4
  t5 := Tryd.underlying5
  a5 := Tryd.isAgg5
  z5 := Tryd.sizeOf5
  v5 := Tryd.zeroValue5
  t9 := Tryd.underlying9
  a9 := Tryd.isAgg9
  z9 := Tryd.sizeOf9
  v9 := Tryd.zeroValue9
  t46 := Tryd.underlying84
  a46 := Tryd.isAgg84
  z46 := Tryd.sizeOf84
  v46 := Tryd.zeroValue84
  t51 := Tryd.underlying87
  a51 := Tryd.isAgg87
  z51 := Tryd.sizeOf87
  v51 := Tryd.zeroValue87
  t146 := Tryd.underlying88
  a146 := Tryd.isAgg88
  z146 := Tryd.sizeOf88
  v146 := Tryd.zeroValue88
  g1 := by kernel_rfl }
open Go.RowKit Go.Lib in
theorem Tryd.strings_Count_one (s : ByteArray) (c : UInt8) (w : World) :
    Calls Tryd.prog 24 #[.string s, .string ⟨#[c]⟩] w fun e w' => e = .returned (.int .i64 (Lib.countByte s.data.toList c)) ∧ w' = w := Any.strings_Count_one Tryd.lays138 s c w
def Tryd.laysM138_ren : Go.Shelf.Ren := ⟨fun | 138 => 24 | 195 => 33 | 218 => 34 | 143 => 35 | 219 => 43 | 217 => 53 | 225 => 54 | 224 => 55 | 267 => 56 | 266 => 62 | 314 => 63 | n => n, fun | 9 => 9 | 3 => 3 | 4 => 4 | 5 => 5 | 0 => 0 | 46 => 84 | 146 => 88 | 51 => 87 | n => n, fun | 1 => 0 | n => n⟩
theorem Tryd.laysM138 : Go.Proofs.LaysM.n138 Tryd.prog Tryd.laysM138_ren := {
  mixed := by kernel_rfl
  f138 := Tryd.func24.trans (congrArg some (by kernel_rfl))
  f143 := Tryd.func35.trans (congrArg some (by kernel_rfl))
  f195 := Tryd.func33.trans (congrArg some (by kernel_rfl))
  f217 := Tryd.func53.trans (congrArg some (by kernel_rfl))
  f218 := Tryd.func34.trans (congrArg some (by kernel_rfl))
  f219 := Tryd.func43.trans (congrArg some (by kernel_rfl))
  f224 := Tryd.func55.trans (congrArg some (by kernel_rfl))
  f225 := Tryd.func54.trans (congrArg some (by kernel_rfl))
  f266 := Tryd.func62.trans (congrArg some (by kernel_rfl))
  f267 := Tryd.func56.trans (congrArg some (by kernel_rfl))
  f314 := Tryd.func63.trans (congrArg some (by kernel_rfl))
  t0 := Tryd.underlying0
  a0 := Tryd.isAgg0
  z0 := Tryd.sizeOf0
  v0 := Tryd.zeroValue0
  t3 := Tryd.underlying3
  a3 := Tryd.isAgg3
  z3 := Tryd.sizeOf3
  v3 := Tryd.zeroValue3
  t4 := Tryd.underlying4
  a4 := Tryd.isAgg4
  z4 := Tryd.sizeOf4
  v4 := Tryd.zeroValue4
  t5 := Tryd.underlying5
  a5 := Tryd.isAgg5
  z5 := Tryd.sizeOf5
  v5 := Tryd.zeroValue5
  t9 := Tryd.underlying9
  a9 := Tryd.isAgg9
  z9 := Tryd.sizeOf9
  v9 := Tryd.zeroValue9
  t46 := Tryd.underlying84
  a46 := Tryd.isAgg84
  z46 := Tryd.sizeOf84
  v46 := Tryd.zeroValue84
  t51 := Tryd.underlying87
  a51 := Tryd.isAgg87
  z51 := Tryd.sizeOf87
  v51 := Tryd.zeroValue87
  t146 := Tryd.underlying88
  a146 := Tryd.isAgg88
  z146 := Tryd.sizeOf88
  v146 := Tryd.zeroValue88
  g1 := by kernel_rfl
  i0 := by kernel_rfl
  i3 := by kernel_rfl
  i4 := by kernel_rfl
  i5 := by kernel_rfl
  i9 := by kernel_rfl
  i46 := by kernel_rfl
  i51 := by kernel_rfl
  i146 := by kernel_rfl
  m1 := by kernel_rfl
  s1_3 := fun w h => Go.Proofs.cell_of_shapedOpen_int (zero := #[.int .i64 0]) (t := 3) h (of_decide_eq_true (by kernel_rfl)) (by kernel_rfl) rfl (by kernel_rfl) (by kernel_rfl) Tryd.underlying3 }
def Tryd.lays99_ren : Go.Shelf.Ren := ⟨fun | 99 => 52 | 206 => 61 | n => n, fun | 9 => 9 | 4 => 4 | 3 => 3 | n => n, fun | n => n⟩
theorem Tryd.lays99 : Go.Proofs.Lays.n99 Tryd.prog Tryd.lays99_ren := {
  mixed := by kernel_rfl
  f99 := Tryd.func52.trans (congrArg some (by kernel_rfl))
  f206 := Tryd.func61.trans (congrArg some (by kernel_rfl))
  t3 := Tryd.underlying3
  a3 := Tryd.isAgg3
  z3 := Tryd.sizeOf3
  v3 := Tryd.zeroValue3
  t4 := Tryd.underlying4
  a4 := Tryd.isAgg4
  z4 := Tryd.sizeOf4
  v4 := Tryd.zeroValue4
  t9 := Tryd.underlying9
  a9 := Tryd.isAgg9
  z9 := Tryd.sizeOf9
  v9 := Tryd.zeroValue9 }
open Go.RowKit Go.Lib in
theorem Tryd.strings_HasPrefix (s p : ByteArray) (w : World) :
    Calls Tryd.prog 52 #[.string s, .string p] w fun e w' => e = .returned (.bool (Lib.hasPrefix s.data.toList p.data.toList)) ∧ w' = w := Any.strings_HasPrefix Tryd.lays99 s p w
def Tryd.lays155_ren : Go.Shelf.Ren := ⟨fun | 155 => 28 | 154 => 40 | 138 => 24 | 165 => 49 | 143 => 35 | 166 => 17 | 197 => 50 | 169 => 20 | 195 => 33 | 218 => 34 | 240 => 26 | 241 => 59 | 219 => 43 | 260 => 60 | 276 => 38 | 277 => 64 | 217 => 53 | 225 => 54 | 224 => 55 | 267 => 56 | 266 => 62 | 314 => 63 | n => n, fun | 9 => 9 | 3 => 3 | 4 => 4 | 72 => 41 | 0 => 0 | 76 => 45 | 105 => 80 | 21 => 21 | 5 => 5 | 70 => 39 | 20 => 20 | 37 => 35 | 75 => 43 | 127 => 62 | 164 => 70 | 46 => 84 | 119 => 91 | 139 => 94 | 138 => 93 | 146 => 88 | 51 => 87 | 80 => 49 | n => n, fun | 1 => 0 | 3 => 1 | 4 => 2 | n => n⟩
theorem Tryd.lays155 : Go.Proofs.Lays.n155 Tryd.prog Tryd.lays155_ren := {
  mixed := by kernel_rfl
  f138 := Tryd.func24.trans (congrArg some (by kernel_rfl))
  f143 := Tryd.func35.trans (congrArg some (by kernel_rfl))
  f154 := Tryd.func40.trans (congrArg some (by kernel_rfl))
  f155 := Tryd.func28.trans (congrArg some (by kernel_rfl))
  f165 := Tryd.func49.trans (congrArg some (by kernel_rfl))
  f166 := Tryd.func17.trans (congrArg some (by kernel_rfl))
  f169 := Tryd.func20.trans (congrArg some (by kernel_rfl))
  f195 := Tryd.func33.trans (congrArg some (by kernel_rfl))
  f197 := Tryd.func50.trans (congrArg some (by kernel_rfl))
  f217 := Tryd.func53.trans (congrArg some (by kernel_rfl))
  f218 := Tryd.func34.trans (congrArg some (by kernel_rfl))
  f219 := Tryd.func43.trans (congrArg some (by kernel_rfl))
  f224 := Tryd.func55.trans (congrArg some (by kernel_rfl))
  f225 := Tryd.func54.trans (congrArg some (by kernel_rfl))
  f240 := Tryd.func26.trans (congrArg some (by kernel_rfl))
  f241 := Tryd.func59.trans (congrArg some (by kernel_rfl))
  f260 := Tryd.func60.trans (congrArg some (by kernel_rfl))
  f266 := Tryd.func62.trans (congrArg some (by kernel_rfl))
  f267 := Tryd.func56.trans (congrArg some (by kernel_rfl))
  f276 := Tryd.func38.trans (congrArg some (by kernel_rfl))
  f277 := Tryd.func64.trans (congrArg some (by kernel_rfl))
  f314 := Tryd.func63.trans (congrArg some (by kernel_rfl))
  t0 := Tryd.underlying0
  a0 := Tryd.isAgg0
  z0 := Tryd.sizeOf0
  v0 := Tryd.zeroValue0
  t3 := Tryd.underlying3
  a3 := Tryd.isAgg3
  z3 := Tryd.sizeOf3
  v3 := Tryd.zeroValue3
  t4 := Tryd.underlying4
  a4 := Tryd.isAgg4
  z4 := Tryd.sizeOf4
  v4 := Tryd.zeroValue4
  t5 := Tryd.underlying5
  a5 := Tryd.isAgg5
  z5 := Tryd.sizeOf5
  v5 := Tryd.zeroValue5
  t9 := Tryd.underlying9
  a9 := Tryd.isAgg9
  z9 := Tryd.sizeOf9
  v9 := Tryd.zeroValue9
  t20 := Tryd.underlying20
  a20 := Tryd.isAgg20
  z20 := Tryd.sizeOf20
  v20 := Tryd.zeroValue20
  t21 := Tryd.underlying21
  a21 := Tryd.isAgg21
  z21 := Tryd.sizeOf21
  v21 := Tryd.zeroValue21
  t37 := Tryd.underlying35
  a37 := Tryd.isAgg35
  z37 := Tryd.sizeOf35
  v37 := Tryd.zeroValue35
  t46 := Tryd.underlying84
  a46 := Tryd.isAgg84
  z46 := Tryd.sizeOf84
  v46 := Tryd.zeroValue84
  t51 := Tryd.underlying87
  a51 := Tryd.isAgg87
  z51 := Tryd.sizeOf87
  v51 := Tryd.zeroValue87
  t70 := Tryd.underlying39
  a70 := Tryd.isAgg39
  z70 := Tryd.sizeOf39
  v70 := Tryd.zeroValue39
  t72 := Tryd.underlying41
  a72 := Tryd.isAgg41
  z72 := Tryd.sizeOf41
  v72 := Tryd.zeroValue41
  t75 := Tryd.underlying43
  a75 := Tryd.isAgg43
  z75 := Tryd.sizeOf43
  v75 := Tryd.zeroValue43
  t76 := Tryd.underlying45
  a76 := Tryd.isAgg45
  z76 := Tryd.sizeOf45
  v76 := Tryd.zeroValue45
  t105 := Tryd.underlying80
  a105 := Tryd.isAgg80
  z105 := Tryd.sizeOf80
  v105 := Tryd.zeroValue80
  t119 := Tryd.underlying91
  a119 := Tryd.isAgg91
  z119 := Tryd.sizeOf91
  t127 := Tryd.underlying62
  a127 := Tryd.isAgg62
  z127 := Tryd.sizeOf62
  v127 := Tryd.zeroValue62
  t138 := Tryd.underlying93
  a138 := Tryd.isAgg93
  z138 := Tryd.sizeOf93
  v138 := Tryd.zeroValue93
  t139 := Tryd.underlying94
  a139 := Tryd.isAgg94
  z139 := Tryd.sizeOf94
  v139 := Tryd.zeroValue94
  t146 := Tryd.underlying88
  a146 := Tryd.isAgg88
  z146 := Tryd.sizeOf88
  v146 := Tryd.zeroValue88
  t164 := Tryd.underlying70
  a164 := Tryd.isAgg70
  z164 := Tryd.sizeOf70
  v164 := Tryd.zeroValue70
  g1 := by kernel_rfl
  g3 := by kernel_rfl
  g4 := by kernel_rfl }
theorem Tryd.Builder_Extra_155 : Builder.Extra Tryd.prog Tryd.lays155_ren := {
  sizeBuilder := by kernel_rfl
  liesBuilder := by kernel_rfl
  t5 := Tryd.underlying5
  a5 := Tryd.isAgg5
  z5 := Tryd.sizeOf5
  v5 := Tryd.zeroValue5
  infoByte := by kernel_rfl
  cellsByte := by kernel_rfl
  sizeByte := by kernel_rfl
  neB5 := by decide }
open Go.RowKit Go.Lib in
theorem Tryd.strings_ReplaceAll (s old new : ByteArray) (m : Int) (w : World) (hs : s.size < 4294967281) (hm : w.cell? ⟨0, 0, none⟩ = some (.int .i64 m)) (h1 : 1 ≤ old.size) (hlen : s.size + Lib.countB s old * new.size ≤ 140737488355328) :
    Calls Tryd.prog 28 #[.string s, .string old, .string new] w fun e w' =>
      e = .returned (.string ⟨(Lib.replaceAll s.data.toList old.data.toList new.data.toList).toArray⟩) ∧ Below w.heap.size w w' := Any.strings_ReplaceAll Tryd.lays155 Tryd.Builder_Extra_155 s old new m w hs hm h1 hlen
def Tryd.lays152_ren : Go.Shelf.Ren := ⟨fun | 152 => 45 | 137 => 57 | 119 => 58 | 224 => 55 | 225 => 54 | 217 => 53 | 266 => 62 | n => n, fun | 9 => 9 | 21 => 21 | 3 => 3 | 4 => 4 | 5 => 5 | 0 => 0 | 46 => 84 | n => n, fun | n => n⟩
theorem Tryd.lays152 : Go.Proofs.Lays.n152 Tryd.prog Tryd.lays152_ren := {
  mixed := by kernel_rfl
  f119 := Tryd.func58.trans (congrArg some (by kernel_rfl))
  f137 := Tryd.func57.trans (congrArg some (by kernel_rfl))
  f152 := Tryd.func45.trans (congrArg some (by kernel_rfl))
  f217 := Tryd.func53.trans (congrArg some (by kernel_rfl))
  f224 := Tryd.func55.trans (congrArg some (by kernel_rfl))
  f225 := Tryd.func54.trans (congrArg some (by kernel_rfl))
  f266 := Tryd.func62.trans (congrArg some (by kernel_rfl))
  t0 := Tryd.underlying0
  a0 := Tryd.isAgg0
  z0 := Tryd.sizeOf0
  v0 := Tryd.zeroValue0
  t3 := Tryd.underlying3
  a3 := Tryd.isAgg3
  z3 := Tryd.sizeOf3
  v3 := Tryd.zeroValue3
  t4 := Tryd.underlying4
  a4 := Tryd.isAgg4
  z4 := Tryd.sizeOf4
  v4 := Tryd.zeroValue4
  t5 := Tryd.underlying5
  a5 := Tryd.isAgg5
  z5 := Tryd.sizeOf5
  v5 := Tryd.zeroValue5
  t9 := Tryd.underlying9
  a9 := Tryd.isAgg9
  z9 := Tryd.sizeOf9
  v9 := Tryd.zeroValue9
  t21 := Tryd.underlying21
  a21 := Tryd.isAgg21
  z21 := Tryd.sizeOf21
  v21 := Tryd.zeroValue21
  t46 := Tryd.underlying84
  a46 := Tryd.isAgg84
  z46 := Tryd.sizeOf84
  v46 := Tryd.zeroValue84 }
open Go.RowKit Go.Lib in
theorem Tryd.strings_IndexRune_ascii (s : ByteArray) (r : Int) (w : World) (h0 : 0 ≤ r) (h1 : r < 128) :
    Calls Tryd.prog 45 #[.string s, .int .i32 r] w fun e w' => e = .returned (.int .i64 (Lib.indexByte s.data.toList r.toNat.toUInt8)) ∧ w' = w := Any.strings_IndexRune_ascii Tryd.lays152 s r w h0 h1
def Tryd.lays151_ren : Go.Shelf.Ren := ⟨fun | 151 => 51 | 152 => 45 | 137 => 57 | 119 => 58 | 224 => 55 | 225 => 54 | 217 => 53 | 266 => 62 | n => n, fun | 9 => 9 | 21 => 21 | 4 => 4 | 3 => 3 | 5 => 5 | 0 => 0 | 46 => 84 | n => n, fun | n => n⟩
theorem Tryd.lays151 : Go.Proofs.Lays.n151 Tryd.prog Tryd.lays151_ren := {
  mixed := by kernel_rfl
  f119 := Tryd.func58.trans (congrArg some (by kernel_rfl))
  f137 := Tryd.func57.trans (congrArg some (by kernel_rfl))
  f151 := Tryd.func51.trans (congrArg some (by kernel_rfl))
  f152 := Tryd.func45.trans (congrArg some (by kernel_rfl))
  f217 := Tryd.func53.trans (congrArg some (by kernel_rfl))
  f224 := Tryd.func55.trans (congrArg some (by kernel_rfl))
  f225 := Tryd.func54.trans (congrArg some (by kernel_rfl))
  f266 := Tryd.func62.trans (congrArg some (by kernel_rfl))
  t0 := Tryd.underlying0
  a0 := Tryd.isAgg0
  z0 := Tryd.sizeOf0
  v0 := Tryd.zeroValue0
  t3 := Tryd.underlying3
  a3 := Tryd.isAgg3
  z3 := Tryd.sizeOf3
  v3 := Tryd.zeroValue3
  t4 := Tryd.underlying4
  a4 := Tryd.isAgg4
  z4 := Tryd.sizeOf4
  v4 := Tryd.zeroValue4
  t5 := Tryd.underlying5
  a5 := Tryd.isAgg5
  z5 := Tryd.sizeOf5
  v5 := Tryd.zeroValue5
  t9 := Tryd.underlying9
  a9 := Tryd.isAgg9
  z9 := Tryd.sizeOf9
  v9 := Tryd.zeroValue9
  t21 := Tryd.underlying21
  a21 := Tryd.isAgg21
  z21 := Tryd.sizeOf21
  v21 := Tryd.zeroValue21
  t46 := Tryd.underlying84
  a46 := Tryd.isAgg84
  z46 := Tryd.sizeOf84
  v46 := Tryd.zeroValue84 }
open Go.RowKit Go.Lib in
theorem Tryd.strings_ContainsRune_ascii (s : ByteArray) (r : Int) (w : World) (h0 : 0 ≤ r) (h1 : r < 128) :
    Calls Tryd.prog 51 #[.string s, .int .i32 r] w fun e w' => e = .returned (.bool (decide (0 ≤ Lib.indexByte s.data.toList r.toNat.toUInt8))) ∧ w' = w := Any.strings_ContainsRune_ascii Tryd.lays151 s r w h0 h1
def Tryd.lays226_ren : Go.Shelf.Ren := ⟨fun | 226 => 46 | n => n, fun | 3 => 3 | 4 => 4 | n => n, fun | n => n⟩
theorem Tryd.lays226 : Go.Proofs.Lays.n226 Tryd.prog Tryd.lays226_ren := {
  mixed := by kernel_rfl
  f226 := Tryd.func46.trans (congrArg some (by kernel_rfl))
  t3 := Tryd.underlying3
  a3 := Tryd.isAgg3
  z3 := Tryd.sizeOf3
  v3 := Tryd.zeroValue3
  t4 := Tryd.underlying4
  a4 := Tryd.isAgg4
  z4 := Tryd.sizeOf4
  v4 := Tryd.zeroValue4 }
open Go.RowKit Go.Lib in
theorem Tryd.strings_shouldUseASCIISet (n : Int) (w : World) :
    Calls Tryd.prog 46 #[.int .i64 n] w fun e w' => e = .returned (.bool (decide (8 < n))) ∧ w' = w := Any.strings_shouldUseASCIISet Tryd.lays226 n w
def Tryd.lays153_ren : Go.Shelf.Ren := ⟨fun | 153 => 39 | 152 => 45 | 226 => 46 | 227 => 47 | 228 => 48 | 137 => 57 | 119 => 58 | 224 => 55 | 225 => 54 | 217 => 53 | 266 => 62 | n => n, fun | 9 => 9 | 3 => 3 | 4 => 4 | 5 => 5 | 21 => 21 | 117 => 77 | 116 => 76 | 0 => 0 | 46 => 84 | 124 => 86 | n => n, fun | n => n⟩
theorem Tryd.lays153 : Go.Proofs.Lays.n153 Tryd.prog Tryd.lays153_ren := {
  mixed := by kernel_rfl
  f119 := Tryd.func58.trans (congrArg some (by kernel_rfl))
  f137 := Tryd.func57.trans (congrArg some (by kernel_rfl))
  f152 := Tryd.func45.trans (congrArg some (by kernel_rfl))
  f153 := Tryd.func39.trans (congrArg some (by kernel_rfl))
  f217 := Tryd.func53.trans (congrArg some (by kernel_rfl))
  f224 := Tryd.func55.trans (congrArg some (by kernel_rfl))
  f225 := Tryd.func54.trans (congrArg some (by kernel_rfl))
  f226 := Tryd.func46.trans (congrArg some (by kernel_rfl))
  f227 := Tryd.func47.trans (congrArg some (by kernel_rfl))
  f228 := Tryd.func48.trans (congrArg some (by kernel_rfl))
  f266 := Tryd.func62.trans (congrArg some (by kernel_rfl))
  t0 := Tryd.underlying0
  a0 := Tryd.isAgg0
  z0 := Tryd.sizeOf0
  v0 := Tryd.zeroValue0
  t3 := Tryd.underlying3
  a3 := Tryd.isAgg3
  z3 := Tryd.sizeOf3
  v3 := Tryd.zeroValue3
  t4 := Tryd.underlying4
  a4 := Tryd.isAgg4
  z4 := Tryd.sizeOf4
  v4 := Tryd.zeroValue4
  t5 := Tryd.underlying5
  a5 := Tryd.isAgg5
  z5 := Tryd.sizeOf5
  v5 := Tryd.zeroValue5
  t9 := Tryd.underlying9
  a9 := Tryd.isAgg9
  z9 := Tryd.sizeOf9
  v9 := Tryd.zeroValue9
  t21 := Tryd.underlying21
  a21 := Tryd.isAgg21
  z21 := Tryd.sizeOf21
  v21 := Tryd.zeroValue21
  t46 := Tryd.underlying84
  a46 := Tryd.isAgg84
  z46 := Tryd.sizeOf84
  v46 := Tryd.zeroValue84
  t116 := Tryd.underlying76
  a116 := Tryd.isAgg76
  z116 := Tryd.sizeOf76
  t117 := Tryd.underlying77
  a117 := Tryd.isAgg77
  z117 := Tryd.sizeOf77
  v117 := Tryd.zeroValue77
  t124 := Tryd.underlying86
  a124 := Tryd.isAgg86
  z124 := Tryd.sizeOf86
  v124 := Tryd.zeroValue86 }
open Go.RowKit Go.Lib in
theorem Tryd.strings_IndexAny_long (hv116 : ∀ w, (zeroValue 76).run Tryd.prog w = .ok (.agg (Array.replicate 256 (.bool false))) w) (s chars : ByteArray) (w : World) (h2 : 2 ≤ chars.size) (h8 : 8 < s.size) (hs : s.size < 4294967281) (hcs : chars.size < 4294967281) (hascii : ∀ (j : Nat) b, chars.data.toList[j]? = some b → b.toNat < 128) :
    Calls Tryd.prog 39 #[.string s, .string chars] w fun e w' => e = .returned (.int .i64 (Lib.indexAny s.data.toList chars.data.toList)) ∧ w' = ((w.alloc (.cells (Lib.setCells chars.data.toList) 76)).alloc (.cells (Lib.setCells chars.data.toList) 76)) := Any.strings_IndexAny_long Tryd.lays153 hv116 (by kernel_rfl) s chars w h2 h8 hs hcs hascii
def Tryd.lays150_ren : Go.Shelf.Ren := ⟨fun | 150 => 27 | 153 => 39 | 152 => 45 | 226 => 46 | 227 => 47 | 228 => 48 | 137 => 57 | 119 => 58 | 224 => 55 | 225 => 54 | 217 => 53 | 266 => 62 | n => n, fun | 9 => 9 | 4 => 4 | 3 => 3 | 5 => 5 | 21 => 21 | 117 => 77 | 116 => 76 | 0 => 0 | 46 => 84 | 124 => 86 | n => n, fun | n => n⟩
theorem Tryd.lays150 : Go.Proofs.Lays.n150 Tryd.prog Tryd.lays150_ren := {
  mixed := by kernel_rfl
  f119 := Tryd.func58.trans (congrArg some (by kernel_rfl))
  f137 := Tryd.func57.trans (congrArg some (by kernel_rfl))
  f150 := Tryd.func27.trans (congrArg some (by kernel_rfl))
  f152 := Tryd.func45.trans (congrArg some (by kernel_rfl))
  f153 := Tryd.func39.trans (congrArg some (by kernel_rfl))
  f217 := Tryd.func53.trans (congrArg some (by kernel_rfl))
  f224 := Tryd.func55.trans (congrArg some (by kernel_rfl))
  f225 := Tryd.func54.trans (congrArg some (by kernel_rfl))
  f226 := Tryd.func46.trans (congrArg some (by kernel_rfl))
  f227 := Tryd.func47.trans (congrArg some (by kernel_rfl))
  f228 := Tryd.func48.trans (congrArg some (by kernel_rfl))
  f266 := Tryd.func62.trans (congrArg some (by kernel_rfl))
  t0 := Tryd.underlying0
  a0 := Tryd.isAgg0
  z0 := Tryd.sizeOf0
  v0 := Tryd.zeroValue0
  t3 := Tryd.underlying3
  a3 := Tryd.isAgg3
  z3 := Tryd.sizeOf3
  v3 := Tryd.zeroValue3
  t4 := Tryd.underlying4
  a4 := Tryd.isAgg4
  z4 := Tryd.sizeOf4
  v4 := Tryd.zeroValue4
  t5 := Tryd.underlying5
  a5 := Tryd.isAgg5
  z5 := Tryd.sizeOf5
  v5 := Tryd.zeroValue5
  t9 := Tryd.underlying9
  a9 := Tryd.isAgg9
  z9 := Tryd.sizeOf9
  v9 := Tryd.zeroValue9
  t21 := Tryd.underlying21
  a21 := Tryd.isAgg21
  z21 := Tryd.sizeOf21
  v21 := Tryd.zeroValue21
  t46 := Tryd.underlying84
  a46 := Tryd.isAgg84
  z46 := Tryd.sizeOf84
  v46 := Tryd.zeroValue84
  t116 := Tryd.underlying76
  a116 := Tryd.isAgg76
  z116 := Tryd.sizeOf76
  t117 := Tryd.underlying77
  a117 := Tryd.isAgg77
  z117 := Tryd.sizeOf77
  v117 := Tryd.zeroValue77
  t124 := Tryd.underlying86
  a124 := Tryd.isAgg86
  z124 := Tryd.sizeOf86
  v124 := Tryd.zeroValue86 }
end Go.Proofs
namespace Go.Proofs.YtgonkeglcehkeaaDoor
open Go Go.Dat Go.Proofs Go.RowKit Go.Shelf
theorem sizeB : (Tryd.prog.info? 41).map (·.size) = some 2 := by kernel_rfl
theorem liesB : liesAt Tryd.prog Tryd.prog.depth 41 (2 / Tryd.prog.cellsOf 41) 0 41 1 = true := by kernel_rfl
set_option maxHeartbeats 1000000 in
set_option maxRecDepth 100000 in
theorem bCopy_used (b : Nat) (w : World) (h0 : w.cell? ⟨b, 0, none⟩ = some (.pointer (some ⟨b, 0, none⟩))) :
    Calls Tryd.prog 26 #[.pointer (some ⟨b, 0, none⟩)] w fun e w' => e = .returned (.tuple #[]) ∧ w' = w := by
  obtain ⟨j, hj, _⟩ := Option.map_eq_some_iff.1 sizeB
  go_enter Tryd.func26, Tryd.ntmps26
  go_wp2
  rw [Lib.run_neq_ptr_same w _ Tryd.underlying39 hj]
  go_wp2
  go_end0
  exact ⟨rfl, rfl⟩
set_option maxHeartbeats 1000000 in
set_option maxRecDepth 100000 in
theorem bCopy_fresh (b : Nat) (w : World) (h0 : w.cell? ⟨b, 0, none⟩ = some (.pointer none)) (hsh : w.shape? b = some (41, 2)) (hfz : w.frozen? ⟨b, 0, none⟩ = false) :
    Calls Tryd.prog 26 #[.pointer (some ⟨b, 0, none⟩)] w fun e w' => e = .returned (.tuple #[]) ∧ w' = w.setCell ⟨b, 0, none⟩ (.pointer (some ⟨b, 0, none⟩)) := by
  obtain ⟨j, hj, hjs⟩ := Option.map_eq_some_iff.1 sizeB
  go_enter Tryd.func26, Tryd.ntmps26
  go_wp2
  rw [Lib.run_to_unsafe w ⟨b, 0, none⟩ Tryd.underlying39 Tryd.underlying70 hj (by rw [hjs]; decide) hsh (Nat.zero_lt_succ 1)]
  simp only [Result.andThen]
  rw [Oper.upon_value]
  go_wp2
  rw [run_callFunc_extern Tryd.func38 (by kernel_rfl) (by kernel_rfl) (by kernel_rfl) (e := Extern.AbiNoEscape.same) (by kernel_rfl)]
  rw [Lib.run_noEscape]
  simp only [Result.andThen]
  rw [Oper.upon_value]
  go_wp2
  rw [Lib.run_from_unsafe w ⟨b, 0, none⟩ Tryd.underlying70 Tryd.underlying39 hj hsh liesB]
  simp only [Result.andThen]
  rw [Oper.upon_value]
  go_wp2
  go_end0
  exact ⟨rfl, rfl⟩
def NB (k : Nat) : Nat := 2265600 + k % 256
def MB : Nat := 786512
theorem setCell_row {w : World} {b off : Nat} {cs : Array Value} {T : TypeId} {v : Value} (hb : w.heap[b]? = some (.cells cs T (0, 0))) :
    w.setCell ⟨b, off, none⟩ v = { w with heap := w.heap.setIfInBounds b (.cells (cs.setIfInBounds off v) T (0, 0)) } := by
  unfold World.setCell
  congr 1
  apply Array.ext_getElem?
  intro k
  rw [Array.getElem?_modify, Array.getElem?_setIfInBounds]
  by_cases e : b = k
  · subst e
    have hlt := (Array.getElem?_eq_some_iff.1 hb).1
    rw [if_pos rfl, if_pos rfl, hb, if_pos hlt]
    rfl
  · rw [if_neg e, if_neg e]
theorem bcp_calls (k : Nat) (l : List UInt8) : BCalls Tryd.prog (NB k) MB 26 [] l (.tup []) l := by
  intro c0 h2 S L w us hT hTb hH hS hs hv
  have hNM : NB k ≠ MB := by unfold NB MB; omega
  obtain ⟨v0, hv0⟩ := exists_aget (l := us) (k := 0) (by rw [hs]; exact Nat.zero_lt_succ 0)
  obtain ⟨b, hL, rfl⟩ := (hv 0 _ v0 rfl hv0).inv_ptr
  obtain rfl : us = #[.pointer (some ⟨b, 0, none⟩)] := by
    have h1 : us.size = 1 := by simpa using hs
    apply Array.ext_getElem?
    intro i
    match i with
    | 0 => rw [hv0]; rfl
    | i + 1 => rw [Array.getElem?_eq_none (by omega), Array.getElem?_eq_none (by simp)]
  obtain ⟨cells, cs, T, hc, hb, hl, hp⟩ := hH.at_ hL
  rw [lkH_BH hNM, if_pos rfl] at hc
  cases hc
  obtain ⟨T', m, hsh, hty⟩ := hH.ty _ b hL (.inl (by unfold NB; omega))
  have hs2 : w.shape? b = some (T, cs.size) := by simp [World.shape?, hb]
  rw [hs2] at hsh
  cases hsh
  obtain ⟨hT1, hsz⟩ := hty.1 (by unfold NB; omega)
  have hT2 : @Eq Nat T 41 := Eq.trans hT1 (by unfold NB; omega)
  have hsz2 : cs.size = 2 := by rw [hsz]; unfold NB; omega
  clear hT1 hsz hty
  subst hT2
  rw [hsz2] at hs2
  obtain ⟨u0, hu0⟩ := exists_aget (l := cs) (k := 0) (by rw [hsz2]; decide)
  have hV0 := hp 0 c0 u0 rfl hu0
  have hc0 : w.cell? ⟨b, 0, none⟩ = some u0 := by rw [cell_of_row w b 0 cs 41 (0, 0) hb]; exact hu0
  have hvt : ∀ w' : World, V w' L (Av S L) (.tup []) (.tuple #[]) := fun w' => .imm (.tup rfl fun k d v h => by simp at h)
  rcases h2 with rfl | rfl
  · have e0 : u0 = .pointer none := by
      cases hV0 with
      | imm h => cases h; rfl
    subst e0
    refine (bCopy_fresh b w hc0 hs2 (by simp [World.frozen?, hb])).mono ?_
    rintro e w' ⟨rfl, rfl⟩
    have hR : R ⟨S, w, fun x => ∃ o, L o = some x, 0, fun _ => none, []⟩ L (fun _ => .undef) (lkH (BH (NB k) MB .nilp l)) { tmps := #[], defers := [] } w :=
      ⟨rfl, rfl, fun s => .imm (.undef _), hH, Ext.refl _ _, hS, fun o x ho => .inl ⟨o, ho⟩, (fun o x ho => by cases ho), fun _ _ => rfl⟩
    have hW := hR.write (cells := [.ptr (NB k) 0, .osl 1 MB 0 l.length]) hL hb (cs' := cs.setIfInBounds 0 (.pointer (some ⟨b, 0, none⟩))) (by simp) (by rw [Array.size_setIfInBounds, hsz2]; exact Nat.le_refl 2) (fun i d v h1 h3 => by
      match i with
      | 0 =>
        simp at h1
        rw [Array.getElem?_setIfInBounds, if_pos rfl, if_pos (by rw [hsz2]; decide)] at h3
        cases h3
        subst h1
        exact .ptr hL
      | i + 1 =>
        rw [Array.getElem?_setIfInBounds, if_neg (by omega)] at h3
        exact hp (i + 1) d v (by simpa using h1) h3) (setCell_row hb)
    refine ⟨_, L, .tup [], _, ⟨rfl, rfl⟩, rfl, ?_, hvt _, hW.ext, fun o b ho _ => ho, fun o b ho => .inl ⟨o, ho⟩, fun x hx => hW.shp x hx⟩
    have e1 : lkH (BH (NB k) MB (.ptr (NB k) 0) l) = Heap.upd (lkH (BH (NB k) MB .nilp l)) (NB k) (some [.ptr (NB k) 0, .osl 1 MB 0 l.length]) := by
      funext q
      unfold Heap.upd
      rw [lkH_BH hNM, lkH_BH hNM]
      by_cases e : q = NB k
      · rw [if_pos e, if_pos e]
      · rw [if_neg e, if_neg e, if_neg e]
    rw [e1]
    exact hW.heap
  · obtain ⟨b', hL', e0⟩ := hV0.inv_ptr
    rw [hL] at hL'
    cases hL'
    subst e0
    refine (bCopy_used b w hc0).mono ?_
    rintro e w' ⟨rfl, rfl⟩
    exact ⟨_, L, .tup [], _, ⟨rfl, rfl⟩, rfl, hH, hvt _, Ext.refl _ _, fun o b ho _ => ho, fun o b ho => .inl ⟨o, ho⟩, fun _ _ => rfl⟩
theorem map_purge_bys (o : Nat) (l : List UInt8) : (bys l).map (purge o) = bys l := map_purge o (bys_rf l)
theorem bys_snoc (l : List UInt8) (c : UInt8) : bys l ++ [byteD c] = bys (l ++ [c]) := by simp [bys]
theorem bys_app (l m : List UInt8) : bys l ++ bys m = bys (l ++ m) := by simp [bys]
end Go.Proofs.YtgonkeglcehkeaaDoor
namespace Go.Proofs.YtgonkeglcehkeaaDoor
open Go Go.Dat Go.Proofs Go.RowKit Go.Shelf Nat32
theorem purge_ptrN {N : Nat} (h : 2097152 ≤ N) (off : Nat) : purge 786512 (.ptr N off) = .ptr N off := by
  have : ¬ N = 786512 := by omega
  simp [purge, DV.has, this]
theorem purge_byteD (o : Nat) (c : UInt8) : purge o (byteD c) = byteD c := purge_of_rf o rfl
theorem lenb (l : List UInt8) : (bys l).length = l.length := by simp [bys]
theorem oneb (c : UInt8) : (byteD c).one = true := rfl
theorem frb (c : UInt8) : (byteD c).rf = true := rfl
theorem cellb (c : UInt8) : (byteD c).cells? = some [byteD c] := rfl
theorem laidb (c : UInt8) : laid [.int .u8 0] [(0, 1, byteD c)] = some [byteD c] := rfl
theorem rfb (c : UInt8) : (∀ d ∈ [byteD c], d.rf = true) ↔ True := by simp [byteD, DV.rf]
theorem onb (c : UInt8) : (∀ d ∈ [byteD c], d.one = true) ↔ True := by simp [byteD, DV.one]
set_option maxHeartbeats 1000000 in
theorem bwb_calls (k : Nat) (l : List UInt8) (c : UInt8) (hl : l.length + 1 ≤ 140737488355328) : BCalls Tryd.prog (NB k) 786512 16 [byteD c] l .nili (l ++ [c]) := by
  intro c0 h2
  have hN : 2097152 ≤ NB k := by unfold NB; omega
  have bc : BCalls Tryd.prog (NB k) 786512 26 [] l (.tup []) l := bcp_calls k l
  generalize NB k = N at *
  have q1 : (786512 = N) = False := eq_false (by omega)
  have q2 : (N = 786512) = False := eq_false (by omega)
  have q3 : (N < 786512) = False := eq_false (by omega)
  have q4 : (786512 < N) = True := eq_true (by omega)
  have pp := fun off => purge_ptrN hN off
  refine MRel_of isbWB (by simp [fnbWB]) ?_
  unfold codebWB BH
  repeat (first | (refine W_seq ?_) | (refine W_reg ?_) | (refine W_regd ?_) | (refine W_regs ?_) | (refine W_block ?_) | (refine And.intro (by omega) ?_) | simp (maxSteps := 1000000) (disch := omega) only [cA, cB, lk, lkH, Dst.onT, Dst.onX, Dst.slot, setF, setH, mapF, mapH, initF, binE, unE, cnt, boundE, newsE, freshE, freshT, opE, rmH, blkQ, frz_us, Nat.reduceEqDiff, Nat.reduceLT, Nat.reduceAdd, Nat.reduceMul, Nat.reduceMod, ↓reduceIte, reduceCtorEq, Nat.reduceLeDiff, q1, q2, q3, q4])
  refine callC_bld N 786512 (c0 := c0) bc rfl (by simp [lkH, q1]) (by simp [lkH]) h2 hN (by decide) (fun d h => by cases h) rfl (by simp [DV.has, q2]) (by simp [DV.has, q2, byteD]) (fun p c h1 h2 h => by simp [lkH, Ne.symm h1, Ne.symm h2] at h) ?_
  repeat (first | (refine W_seq ?_) | (refine W_reg ?_) | (refine W_regd ?_) | (refine W_regs ?_) | (refine W_block ?_) | (refine And.intro (by omega) ?_) | simp (maxSteps := 1000000) (disch := omega) only [cA, cB, lk, lkH, Dst.onT, Dst.onX, Dst.slot, setF, setH, mapF, mapH, initF, binE, unE, cnt, boundE, newsE, freshE, freshT, opE, rmH, blkQ, frz_us, Nat.reduceEqDiff, Nat.reduceLT, Nat.reduceAdd, Nat.reduceMul, Nat.reduceMod, ↓reduceIte, reduceCtorEq, Nat.reduceLeDiff, q1, q2, q3, q4, pp, lenb, map_purge_bys, purge_byteD, oneb, frb, cellb, cS, bys_snoc, laidb, rfb, onb])
  refine And.intro ⟨by omega, by omega, fun h => h⟩ ?_
  repeat (first | (refine W_seq ?_) | (refine W_reg ?_) | (refine W_regd ?_) | (refine W_regs ?_) | (refine W_block ?_) | (refine And.intro (by omega) ?_) | simp (maxSteps := 1000000) (disch := omega) only [cA, cB, lk, lkH, Dst.onT, Dst.onX, Dst.slot, setF, setH, mapF, mapH, initF, binE, unE, cnt, boundE, newsE, freshE, freshT, opE, rmH, blkQ, frz_us, Nat.reduceEqDiff, Nat.reduceLT, Nat.reduceAdd, Nat.reduceMul, Nat.reduceMod, ↓reduceIte, reduceCtorEq, Nat.reduceLeDiff, q1, q2, q3, q4])
  refine W_ret (RetB (Ne.symm (by omega)) rfl rfl rfl (by simp [lkH, q1]) (by simp [lkH]))
set_option maxHeartbeats 1000000 in
theorem bws_calls (k : Nat) (l s : List UInt8) (hl : l.length + s.length ≤ 140737488355328) : BCalls Tryd.prog (NB k) 786512 17 [.str s] l (.tup [.int .i64 s.length, .nili]) (l ++ s) := by
  intro c0 h2
  have hN : 2097152 ≤ NB k := by unfold NB; omega
  have bc : BCalls Tryd.prog (NB k) 786512 26 [] l (.tup []) l := bcp_calls k l
  generalize NB k = N at *
  have q1 : (786512 = N) = False := eq_false (by omega)
  have q2 : (N = 786512) = False := eq_false (by omega)
  have q3 : (N < 786512) = False := eq_false (by omega)
  have q4 : (786512 < N) = True := eq_true (by omega)
  have pp := fun off => purge_ptrN hN off
  refine MRel_of isbWS (by simp [fnbWS]) ?_
  unfold codebWS BH
  repeat (first | (refine W_seq ?_) | (refine W_reg ?_) | (refine W_regd ?_) | (refine W_regs ?_) | (refine W_block ?_) | (refine And.intro (by omega) ?_) | simp (maxSteps := 1000000) (disch := omega) only [cA, cB, lk, lkH, Dst.onT, Dst.onX, Dst.slot, setF, setH, mapF, mapH, initF, binE, unE, cnt, boundE, newsE, freshE, freshT, opE, rmH, blkQ, frz_us, Nat.reduceEqDiff, Nat.reduceLT, Nat.reduceAdd, Nat.reduceMul, Nat.reduceMod, ↓reduceIte, reduceCtorEq, Nat.reduceLeDiff, q1, q2, q3, q4])
  refine callC_bld N 786512 (c0 := c0) bc rfl (by simp [lkH, q1]) (by simp [lkH]) h2 hN (by decide) (fun d h => by cases h) rfl (by simp [DV.has, q2]) (by simp [DV.has, q2]) (fun p c h1 h2 h => by simp [lkH, Ne.symm h1, Ne.symm h2] at h) ?_
  repeat (first | (refine W_seq ?_) | (refine W_reg ?_) | (refine W_regd ?_) | (refine W_regs ?_) | (refine W_block ?_) | (refine And.intro (by omega) ?_) | simp (maxSteps := 1000000) (disch := omega) only [cA, cB, lk, lkH, Dst.onT, Dst.onX, Dst.slot, setF, setH, mapF, mapH, initF, binE, unE, cnt, boundE, newsE, freshE, freshT, opE, rmH, blkQ, frz_us, Nat.reduceEqDiff, Nat.reduceLT, Nat.reduceAdd, Nat.reduceMul, Nat.reduceMod, ↓reduceIte, reduceCtorEq, Nat.reduceLeDiff, q1, q2, q3, q4, pp, lenb, map_purge_bys, cS, bys_app])
  refine And.intro ⟨by omega, fun h => h⟩ ?_
  repeat (first | (refine W_seq ?_) | (refine W_reg ?_) | (refine W_regd ?_) | (refine W_regs ?_) | (refine W_block ?_) | (refine And.intro (by omega) ?_) | simp (maxSteps := 1000000) (disch := omega) only [cA, cB, lk, lkH, Dst.onT, Dst.onX, Dst.slot, setF, setH, mapF, mapH, initF, binE, unE, cnt, boundE, newsE, freshE, freshT, opE, rmH, blkQ, frz_us, Nat.reduceEqDiff, Nat.reduceLT, Nat.reduceAdd, Nat.reduceMul, Nat.reduceMod, ↓reduceIte, reduceCtorEq, Nat.reduceLeDiff, q1, q2, q3, q4])
  refine W_ret (RetB (Ne.symm (by omega)) rfl rfl rfl (by simp [lkH, q1]) (by simp [lkH]))
end Go.Proofs.YtgonkeglcehkeaaDoor
namespace Go.Proofs.YtgonkeglcehkeaaDoor
open Go Go.Dat Go.Proofs Go.RowKit Go.Shelf Nat32
theorem pre_calls (s p : Bs) : PCalls Tryd.prog 52 [.str s, .str p] (.bool (Lib.hasPrefix s p)) := by
  intro A w us hT hA hs hv
  obtain ⟨v0, hv0⟩ := exists_aget (l := us) (k := 0) (by rw [hs]; exact Nat.zero_lt_succ _)
  obtain ⟨v1, hv1⟩ := exists_aget (l := us) (k := 1) (by rw [hs]; exact Nat.lt_succ_self _)
  have e0 := (V.imm (L := fun _ => none) (hv 0 _ v0 rfl hv0)).inv_str
  have e1 := (V.imm (L := fun _ => none) (hv 1 _ v1 rfl hv1)).inv_str
  subst e0
  subst e1
  obtain rfl : us = #[.string ⟨s.toArray⟩, .string ⟨p.toArray⟩] := by
    have h1 : us.size = 2 := by simpa using hs
    apply Array.ext_getElem?
    intro i
    match i with
    | 0 => rw [hv0]; rfl
    | 1 => rw [hv1]; rfl
    | i + 2 => rw [Array.getElem?_eq_none (by omega), Array.getElem?_eq_none (by simp)]
  refine (Tryd.strings_HasPrefix ⟨s.toArray⟩ ⟨p.toArray⟩ w).mono ?_
  rintro e w' ⟨rfl, rfl⟩
  exact ⟨_, rfl, .bool _, Ext.refl _ _⟩
theorem qrn_index (c : UInt8) : decide (0 ≤ Lib.indexByte [34, 13, 10] c) = qrn c := by
  by_cases h1 : c = 34
  · subst h1; decide
  · by_cases h2 : c = 13
    · subst h2; decide
    · by_cases h3 : c = 10
      · subst h3; decide
      · rw [indexByte_no _ c (fun x hx e => by subst e; simp at hx; rcases hx with h | h | h <;> contradiction)]
        unfold qrn
        rw [beq_eq_false_iff_ne.2 h1, beq_eq_false_iff_ne.2 h2, beq_eq_false_iff_ne.2 h3]; rfl
theorem crn_calls (c : UInt8) : PCalls Tryd.prog 51 [.str [34, 13, 10], .int .i32 c.toNat] (.bool (qrn c)) := by
  intro A w us hT hA hs hv
  obtain ⟨v0, hv0⟩ := exists_aget (l := us) (k := 0) (by rw [hs]; exact Nat.zero_lt_succ _)
  obtain ⟨v1, hv1⟩ := exists_aget (l := us) (k := 1) (by rw [hs]; exact Nat.lt_succ_self _)
  have e0 := (V.imm (L := fun _ => none) (hv 0 _ v0 rfl hv0)).inv_str
  have e1 := (V.imm (L := fun _ => none) (hv 1 _ v1 rfl hv1)).inv_int
  subst e0
  subst e1
  obtain rfl : us = #[.string ⟨#[34, 13, 10]⟩, .int .i32 c.toNat] := by
    have h1 : us.size = 2 := by simpa using hs
    apply Array.ext_getElem?
    intro i
    match i with
    | 0 => rw [hv0]; rfl
    | 1 => rw [hv1]; rfl
    | i + 2 => rw [Array.getElem?_eq_none (by omega), Array.getElem?_eq_none (by simp)]
  have hlt := c.toNat_lt
  by_cases h : c.toNat < 128
  · refine (Tryd.strings_ContainsRune_ascii ⟨#[34, 13, 10]⟩ c.toNat w (by omega) (by omega)).mono ?_
    rintro e w' ⟨rfl, rfl⟩
    have e1 : ((c.toNat : Int).toNat).toUInt8 = c := by simp
    rw [e1]
    exact ⟨_, rfl, by rw [← qrn_index]; exact .bool _, Ext.refl _ _⟩
  · refine (CRa_hi Tryd.lays151 ⟨#[34, 13, 10]⟩ (fun j hj => ?_) (by decide) c.toNat w (by omega) (by omega)).mono ?_
    · have hj2 : j < 3 := hj
      match j, hj2 with
      | 0, _ => show (34 : UInt8).toNat < 128; decide
      | 1, _ => show (13 : UInt8).toNat < 128; decide
      | 2, _ => show (10 : UInt8).toNat < 128; decide
    · rintro e w' ⟨rfl, hb⟩
      have e1 : qrn c = false := by
        unfold qrn
        have h1 : (c == 34) = false := beq_eq_false_iff_ne.2 (fun e => by subst e; exact h (by decide))
        have h2 : (c == 13) = false := beq_eq_false_iff_ne.2 (fun e => by subst e; exact h (by decide))
        have h3 : (c == 10) = false := beq_eq_false_iff_ne.2 (fun e => by subst e; exact h (by decide))
        rw [h1, h2, h3]; rfl
      rw [e1]
      exact ⟨_, rfl, .bool _, Ext_of_below hb⟩
def rdE (T : Bs) (d i : Int) : DV := .el [.str T, .int .u8 d, .int .i64 i, .undef] 0
theorem end_calls (T : Bs) (d : Int) (i : Nat) : PCalls Tryd.prog 31 [rdE T d i] (.bool (decide (i = T.length))) := by
  have e : decide ((i : Int) = (T.length : Int)) = decide (i = T.length) := by rw [decide_eq_decide]; omega
  refine PCalls_of isdEnd (by simp [fndEnd]) ?_
  unfold codedEnd rdE
  repeat (first | (refine W_seq ?_) | (refine W_reg ?_) | (refine W_regd ?_) | (refine W_regs ?_) | (refine W_block ?_) | (refine And.intro (by omega) ?_) | simp (maxSteps := 1000000) (disch := omega) only [cA, cB, lk, lkH, Dst.onT, Dst.onX, Dst.slot, setF, setH, mapF, mapH, initF, binE, unE, cnt, boundE, newsE, freshE, freshT, opE, rmH, blkQ, frz_us, Nat.reduceEqDiff, Nat.reduceLT, Nat.reduceAdd, Nat.reduceMul, Nat.reduceMod, ↓reduceIte, reduceCtorEq, Nat.reduceLeDiff])
  rw [e]
  exact W_ret (RetP_1 (.imm rfl))
theorem le_calls (T : Bs) (d : Int) (i : Nat) (hi : i ≤ T.length) (hT : T.length ≤ 9223372036854775807) : PCalls Tryd.prog 42 [rdE T d i] (.int .i64 (leN (T.drop i))) := by
  have c1 := pre_calls (T.drop i) [10]
  have c2 := pre_calls (T.drop i) [13, 10]
  refine PCalls_of isdLineEnd (by simp [fndLineEnd]) ?_
  unfold codedLineEnd rdE leN
  cases h1 : Lib.hasPrefix (T.drop i) [10]
  · rw [h1] at c1
    cases h2 : Lib.hasPrefix (T.drop i) [13, 10]
    · rw [h2] at c2
      repeat (first | (refine W_seq ?_) | (refine W_reg ?_) | (refine W_regd ?_) | (refine W_regs ?_) | (refine W_block ?_) | (refine And.intro (by omega) ?_) | simp (maxSteps := 1000000) (disch := omega) only [cA, cB, lk, lkH, Dst.onT, Dst.onX, Dst.slot, setF, setH, mapF, mapH, initF, binE, unE, cnt, boundE, newsE, freshE, freshT, opE, rmH, blkQ, frz_us, Nat.reduceEqDiff, Nat.reduceLT, Nat.reduceAdd, Nat.reduceMul, Nat.reduceMod, ↓reduceIte, reduceCtorEq, Nat.reduceLeDiff, List.take_length] | (refine callC_pure (c1) rfl ?_) | (refine callC_pure (c2) rfl ?_) | exact W_ret (RetP_1 (.imm rfl)) | exact W_ret (RetP_c rfl rfl rfl (.imm rfl)))
      refine W_cond rfl (fun h => by cases h) (fun _ => ?_)
      repeat (first | (refine W_seq ?_) | (refine W_reg ?_) | (refine W_regd ?_) | (refine W_regs ?_) | (refine W_block ?_) | (refine And.intro (by omega) ?_) | simp (maxSteps := 1000000) (disch := omega) only [cA, cB, lk, lkH, Dst.onT, Dst.onX, Dst.slot, setF, setH, mapF, mapH, initF, binE, unE, cnt, boundE, newsE, freshE, freshT, opE, rmH, blkQ, frz_us, Nat.reduceEqDiff, Nat.reduceLT, Nat.reduceAdd, Nat.reduceMul, Nat.reduceMod, ↓reduceIte, reduceCtorEq, Nat.reduceLeDiff, List.take_length] | (refine callC_pure (c1) rfl ?_) | (refine callC_pure (c2) rfl ?_) | exact W_ret (RetP_1 (.imm rfl)) | exact W_ret (RetP_c rfl rfl rfl (.imm rfl)))
      refine W_cond rfl (fun h => by cases h) (fun _ => W_skip ?_)
      repeat (first | (refine W_seq ?_) | (refine W_reg ?_) | (refine W_regd ?_) | (refine W_regs ?_) | (refine W_block ?_) | (refine And.intro (by omega) ?_) | simp (maxSteps := 1000000) (disch := omega) only [cA, cB, lk, lkH, Dst.onT, Dst.onX, Dst.slot, setF, setH, mapF, mapH, initF, binE, unE, cnt, boundE, newsE, freshE, freshT, opE, rmH, blkQ, frz_us, Nat.reduceEqDiff, Nat.reduceLT, Nat.reduceAdd, Nat.reduceMul, Nat.reduceMod, ↓reduceIte, reduceCtorEq, Nat.reduceLeDiff, List.take_length] | (refine callC_pure (c1) rfl ?_) | (refine callC_pure (c2) rfl ?_) | exact W_ret (RetP_1 (.imm rfl)) | exact W_ret (RetP_c rfl rfl rfl (.imm rfl)))
    · rw [h2] at c2
      repeat (first | (refine W_seq ?_) | (refine W_reg ?_) | (refine W_regd ?_) | (refine W_regs ?_) | (refine W_block ?_) | (refine And.intro (by omega) ?_) | simp (maxSteps := 1000000) (disch := omega) only [cA, cB, lk, lkH, Dst.onT, Dst.onX, Dst.slot, setF, setH, mapF, mapH, initF, binE, unE, cnt, boundE, newsE, freshE, freshT, opE, rmH, blkQ, frz_us, Nat.reduceEqDiff, Nat.reduceLT, Nat.reduceAdd, Nat.reduceMul, Nat.reduceMod, ↓reduceIte, reduceCtorEq, Nat.reduceLeDiff, List.take_length] | (refine callC_pure (c1) rfl ?_) | (refine callC_pure (c2) rfl ?_) | exact W_ret (RetP_1 (.imm rfl)) | exact W_ret (RetP_c rfl rfl rfl (.imm rfl)))
      refine W_cond rfl (fun h => by cases h) (fun _ => ?_)
      repeat (first | (refine W_seq ?_) | (refine W_reg ?_) | (refine W_regd ?_) | (refine W_regs ?_) | (refine W_block ?_) | (refine And.intro (by omega) ?_) | simp (maxSteps := 1000000) (disch := omega) only [cA, cB, lk, lkH, Dst.onT, Dst.onX, Dst.slot, setF, setH, mapF, mapH, initF, binE, unE, cnt, boundE, newsE, freshE, freshT, opE, rmH, blkQ, frz_us, Nat.reduceEqDiff, Nat.reduceLT, Nat.reduceAdd, Nat.reduceMul, Nat.reduceMod, ↓reduceIte, reduceCtorEq, Nat.reduceLeDiff, List.take_length] | (refine callC_pure (c1) rfl ?_) | (refine callC_pure (c2) rfl ?_) | exact W_ret (RetP_1 (.imm rfl)) | exact W_ret (RetP_c rfl rfl rfl (.imm rfl)))
      refine W_cond rfl (fun _ => ?_) (fun h => by cases h)
      repeat (first | (refine W_seq ?_) | (refine W_reg ?_) | (refine W_regd ?_) | (refine W_regs ?_) | (refine W_block ?_) | (refine And.intro (by omega) ?_) | simp (maxSteps := 1000000) (disch := omega) only [cA, cB, lk, lkH, Dst.onT, Dst.onX, Dst.slot, setF, setH, mapF, mapH, initF, binE, unE, cnt, boundE, newsE, freshE, freshT, opE, rmH, blkQ, frz_us, Nat.reduceEqDiff, Nat.reduceLT, Nat.reduceAdd, Nat.reduceMul, Nat.reduceMod, ↓reduceIte, reduceCtorEq, Nat.reduceLeDiff, List.take_length] | (refine callC_pure (c1) rfl ?_) | (refine callC_pure (c2) rfl ?_) | exact W_ret (RetP_1 (.imm rfl)) | exact W_ret (RetP_c rfl rfl rfl (.imm rfl)))
  · rw [h1] at c1
    repeat (first | (refine W_seq ?_) | (refine W_reg ?_) | (refine W_regd ?_) | (refine W_regs ?_) | (refine W_block ?_) | (refine And.intro (by omega) ?_) | simp (maxSteps := 1000000) (disch := omega) only [cA, cB, lk, lkH, Dst.onT, Dst.onX, Dst.slot, setF, setH, mapF, mapH, initF, binE, unE, cnt, boundE, newsE, freshE, freshT, opE, rmH, blkQ, frz_us, Nat.reduceEqDiff, Nat.reduceLT, Nat.reduceAdd, Nat.reduceMul, Nat.reduceMod, ↓reduceIte, reduceCtorEq, Nat.reduceLeDiff, List.take_length] | (refine callC_pure (c1) rfl ?_) | (refine callC_pure (c2) rfl ?_) | exact W_ret (RetP_1 (.imm rfl)) | exact W_ret (RetP_c rfl rfl rfl (.imm rfl)))
    refine W_cond rfl (fun _ => ?_) (fun h => by cases h)
    repeat (first | (refine W_seq ?_) | (refine W_reg ?_) | (refine W_regd ?_) | (refine W_regs ?_) | (refine W_block ?_) | (refine And.intro (by omega) ?_) | simp (maxSteps := 1000000) (disch := omega) only [cA, cB, lk, lkH, Dst.onT, Dst.onX, Dst.slot, setF, setH, mapF, mapH, initF, binE, unE, cnt, boundE, newsE, freshE, freshT, opE, rmH, blkQ, frz_us, Nat.reduceEqDiff, Nat.reduceLT, Nat.reduceAdd, Nat.reduceMul, Nat.reduceMod, ↓reduceIte, reduceCtorEq, Nat.reduceLeDiff, List.take_length] | (refine callC_pure (c1) rfl ?_) | (refine callC_pure (c2) rfl ?_) | exact W_ret (RetP_1 (.imm rfl)) | exact W_ret (RetP_c rfl rfl rfl (.imm rfl)))
end Go.Proofs.YtgonkeglcehkeaaDoor
namespace Go.Proofs.YtgonkeglcehkeaaDoor
open Go Go.Dat Go.Proofs Go.RowKit Go.Shelf Nat32
def stopE (e : Nat) : List PanicEntry := [{ v := .iface 65 (.agg #[.int .i64 (e : Int)]), recovered := false }]
theorem cat_take {T : Bs} {i k : Nat} : (T.take (i + k)).drop i = (T.drop i).take k := by rw [List.drop_take]; congr 1; omega
theorem head_get {i : Nat} (T : Bs) (hi : i < T.length) : (T.drop i).head? = some (T.getD i 0) := by
  rw [List.head?_drop, List.getD_eq_getElem?_getD, List.getElem?_eq_getElem hi]; rfl
theorem getD_drop' (T : Bs) (i k : Nat) : (T.drop i).getD k 0 = T.getD (i + k) 0 := by
  rw [List.getD_eq_getElem?_getD, List.getElem?_drop, List.getD_eq_getElem?_getD]
theorem dec_byte (c e : UInt8) : decide ((c.toNat : Int) = (e.toNat : Int)) = (c == e) := by
  rw [Bool.eq_iff_iff]
  simp only [decide_eq_true_eq, beq_iff_eq]
  constructor
  · intro h; exact UInt8.toNat_inj.1 (by omega)
  · rintro rfl; rfl
def codeFP : DC := match codedField with | .seq _ (.seq (.seq _ (.cond _ a _)) _) => a | _ => .bad
def codeFQ : DC := match codedField with | .seq _ (.seq (.seq _ (.cond _ _ _)) b) => b | _ => .bad
def fldQ (T : Bs) (d : UInt8) (i n : Nat) (rs : List DV) (rx : RX) (j : Int) : Prop := match fieldS d (T.drop i) with
  | some (f, k) => rx = .ret (.str f) ∧ j = ((i + k : Nat) : Int)
  | none => rx = .pan (stopE 3) ∧ j = (T.length : Int)
theorem hrd (T : Bs) (d : UInt8) (n : Nat) (j : Int) : [DV.ptr 1048576 0].map (elo 1048576 (rfc [.str T, .int .u8 d.toNat, .int .i64 j, .osl 1 1048577 0 n])) = [rdE T d.toNat j] := by
  simp [elo, rfc, rdE, DV.rf]
set_option maxHeartbeats 4000000 in
set_option maxRecDepth 10000 in
theorem field_plain (T : Bs) (d : UInt8) (i n : Nat) (rs : List DV) (hrs : ∀ x ∈ rs, x.rf = true) (hi : i ≤ T.length) (hT : T.length ≤ 65536) (hpl : ¬ (T.drop i).head? = some 34) :
    W fndField codeFP (fun e fr H => e ≠ .norm ∧ RetPX resdField (RH T d.toNat i n rs) (fun rx H' => ∃ j, H' = RH T d.toNat j n rs ∧ fldQ T d i n rs rx j) e fr H) [(0, .ptr 1048576 0)] (RH T d.toNat i n rs) := by
  have ce := fun j : Nat => end_calls T d.toNat j
  have hfs : fieldS d (T.drop i) = some ((T.drop i).take (plN d (T.drop i)), plN d (T.drop i)) := by unfold fieldS; rw [if_neg hpl]
  unfold fldQ
  rw [hfs]
  have hple := pl_le d (T.drop i)
  have hdl : (T.drop i).length = T.length - i := List.length_drop
  have hlt := pl_lt d (T.drop i)
  have hat := pl_at d (T.drop i)
  obtain ⟨m, hm⟩ : ∃ m, plN d (T.drop i) = m := ⟨_, rfl⟩
  rw [hm] at hple hlt hat ⊢
  have hat2 : i + m < T.length → stp d (T.getD (i + m) 0) = true := fun h => by
    have := hat (by omega)
    rwa [getD_drop'] at this
  have hlt2 : ∀ k, k < m → i + k < T.length ∧ stp d (T.getD (i + k) 0) = false := fun k h => by
    have := hlt k h
    rw [getD_drop'] at this
    exact ⟨by omega, this⟩
  clear hlt hat hfs
  unfold codeFP codedField
  dsimp only
  show W _ _ _ _ (RH T d.toNat i n rs)
  unfold RH
  repeat (first | (refine W_seq ?_) | (refine W_reg ?_) | (refine W_regd ?_) | (refine W_regs ?_) | (refine W_block ?_) | (refine And.intro (by omega) ?_) | simp (maxSteps := 1000000) (disch := omega) only [cA, cB, lk, lkH, Dst.onT, Dst.onX, Dst.slot, setF, setH, mapF, mapH, initF, binE, unE, cnt, boundE, newsE, freshE, freshT, opE, rmH, blkQ, frz_us, Nat.reduceEqDiff, Nat.reduceLT, Nat.reduceAdd, Nat.reduceMul, Nat.reduceMod, ↓reduceIte, reduceCtorEq, Nat.reduceLeDiff, List.take_length])
  refine W_loop (σ := Nat) (fun k => [(0, .ptr 1048576 0), (3, .int .i64 i)]) (fun k => [(1048576, [.str T, .int .u8 d.toNat, .int .i64 ((i + k : Nat) : Int), .osl 1 1048577 0 n]), (1048577, rs)]) (fun k => k ≤ m) (fun k => m - k) 0 (Nat.zero_le _) ?_ rfl ?_
  · simp [subF, lk]
  · intro k hk
    try simp only at hk ⊢
    repeat (first | (refine W_seq ?_) | (refine W_reg ?_) | (refine W_regd ?_) | (refine W_regs ?_) | (refine W_block ?_) | (refine And.intro (by omega) ?_) | simp (maxSteps := 1000000) (disch := omega) only [cA, cB, lk, lkH, Dst.onT, Dst.onX, Dst.slot, setF, setH, mapF, mapH, initF, binE, unE, cnt, boundE, newsE, freshE, freshT, opE, rmH, blkQ, frz_us, Nat.reduceEqDiff, Nat.reduceLT, Nat.reduceAdd, Nat.reduceMul, Nat.reduceMod, ↓reduceIte, reduceCtorEq, Nat.reduceLeDiff, List.take_length])
    refine callC_read rfl 1048576 (ce (i + k)) rfl (by simp) (hrd T d n _) rfl ?_
    by_cases hke : i + k = T.length
    · rw [show decide (i + k = T.length) = true from decide_eq_true hke]
      have hkm : k = m := by
        rcases Nat.lt_or_ge k m with h | h
        · have := (hlt2 k h).1; omega
        · omega
      subst hkm
      repeat (first | (refine W_seq ?_) | (refine W_reg ?_) | (refine W_regd ?_) | (refine W_regs ?_) | (refine W_block ?_) | (refine And.intro (by omega) ?_) | simp (maxSteps := 1000000) (disch := omega) only [cA, cB, lk, lkH, Dst.onT, Dst.onX, Dst.slot, setF, setH, mapF, mapH, initF, binE, unE, cnt, boundE, newsE, freshE, freshT, opE, rmH, blkQ, frz_us, Nat.reduceEqDiff, Nat.reduceLT, Nat.reduceAdd, Nat.reduceMul, Nat.reduceMod, ↓reduceIte, reduceCtorEq, Nat.reduceLeDiff, List.take_length])
      refine W_cond rfl (fun h => by cases h) (fun _ => W_exit ?_)
      repeat (first | (refine W_seq ?_) | (refine W_reg ?_) | (refine W_regd ?_) | (refine W_regs ?_) | (refine W_block ?_) | (refine And.intro (by omega) ?_) | simp (maxSteps := 1000000) (disch := omega) only [cA, cB, lk, lkH, Dst.onT, Dst.onX, Dst.slot, setF, setH, mapF, mapH, initF, binE, unE, cnt, boundE, newsE, freshE, freshT, opE, rmH, blkQ, frz_us, Nat.reduceEqDiff, Nat.reduceLT, Nat.reduceAdd, Nat.reduceMul, Nat.reduceMod, ↓reduceIte, reduceCtorEq, Nat.reduceLeDiff, cat_take])
      exact W_ret ⟨(fun h => by cases h), RetRX (Q := fun rx j => rx = .ret (.str ((T.drop i).take k)) ∧ j = ((i + k : Nat) : Int)) rfl rfl ⟨rfl, rfl⟩ rfl rfl hrs⟩
    · rw [show decide (i + k = T.length) = false from decide_eq_false hke]
      have hkl : i + k < T.length := by omega
      have hst : stp d (T.getD (i + k) 0) = decide (¬ k < m) := by
        by_cases h : k < m
        · rw [(hlt2 k h).2, decide_eq_false (fun h2 => h2 h)]
        · have : k = m := by omega
          subst this
          rw [hat2 hkl, decide_eq_true h]
      have cr := crn_calls (T.getD (i + k) 0)
      have e1 : ((i + k : Nat) : Int) + 1 = ((i + (k + 1) : Nat) : Int) := by omega
      unfold stp at hst
      have hwr : IntKind.i32.wrap ((T.getD (i + k) 0).toNat : Int) = ((T.getD (i + k) 0).toNat : Int) := by
        have := (T.getD (i + k) 0).toNat_lt
        rw [IntKind.wrap_i32]; omega
      have hdc : decide (¬ ((T.getD (i + k) 0).toNat : Int) = (d.toNat : Int)) = !(T.getD (i + k) 0 == d) := by rw [← dec_byte, decide_not]
      obtain ⟨c, hcv⟩ : ∃ c, T.getD (i + k) 0 = c := ⟨_, rfl⟩
      rw [hcv] at hst cr hwr hdc
      cases hcd : (c == d)
      · rw [hcd] at hdc hst
        rw [Bool.false_or] at hst
        rw [hst] at cr
        repeat (first | (refine W_seq ?_) | (refine W_reg ?_) | (refine W_regd ?_) | (refine W_regs ?_) | (refine W_block ?_) | (refine And.intro (by omega) ?_) | simp (maxSteps := 1000000) (disch := omega) only [cA, cB, lk, lkH, Dst.onT, Dst.onX, Dst.slot, setF, setH, mapF, mapH, initF, binE, unE, cnt, boundE, newsE, freshE, freshT, opE, rmH, blkQ, frz_us, Nat.reduceEqDiff, Nat.reduceLT, Nat.reduceAdd, Nat.reduceMul, Nat.reduceMod, ↓reduceIte, reduceCtorEq, Nat.reduceLeDiff, List.take_length, byteD, hcv, hdc, hwr])
        refine callC_pure cr rfl ?_
        by_cases hkm : k < m
        · rw [show decide (¬ k < m) = false from decide_eq_false (fun h => h hkm)]
          repeat (first | (refine W_seq ?_) | (refine W_reg ?_) | (refine W_regd ?_) | (refine W_regs ?_) | (refine W_block ?_) | (refine And.intro (by omega) ?_) | simp (maxSteps := 1000000) (disch := omega) only [cA, cB, lk, lkH, Dst.onT, Dst.onX, Dst.slot, setF, setH, mapF, mapH, initF, binE, unE, cnt, boundE, newsE, freshE, freshT, opE, rmH, blkQ, frz_us, Nat.reduceEqDiff, Nat.reduceLT, Nat.reduceAdd, Nat.reduceMul, Nat.reduceMod, ↓reduceIte, reduceCtorEq, Nat.reduceLeDiff, List.take_length])
          refine W_cond rfl (fun _ => W_skip ?_) (fun h => by cases h)
          repeat (first | (refine W_seq ?_) | (refine W_reg ?_) | (refine W_regd ?_) | (refine W_regs ?_) | (refine W_block ?_) | (refine And.intro (by omega) ?_) | simp (maxSteps := 1000000) (disch := omega) only [cA, cB, lk, lkH, Dst.onT, Dst.onX, Dst.slot, setF, setH, mapF, mapH, initF, binE, unE, cnt, boundE, newsE, freshE, freshT, opE, rmH, blkQ, frz_us, Nat.reduceEqDiff, Nat.reduceLT, Nat.reduceAdd, Nat.reduceMul, Nat.reduceMod, ↓reduceIte, reduceCtorEq, Nat.reduceLeDiff, e1])
          exact ⟨k + 1, by omega, by omega, by simp [subF, lk], rfl⟩
        · rw [show decide (¬ k < m) = true from decide_eq_true hkm]
          have hkm2 : k = m := by omega
          subst hkm2
          repeat (first | (refine W_seq ?_) | (refine W_reg ?_) | (refine W_regd ?_) | (refine W_regs ?_) | (refine W_block ?_) | (refine And.intro (by omega) ?_) | simp (maxSteps := 1000000) (disch := omega) only [cA, cB, lk, lkH, Dst.onT, Dst.onX, Dst.slot, setF, setH, mapF, mapH, initF, binE, unE, cnt, boundE, newsE, freshE, freshT, opE, rmH, blkQ, frz_us, Nat.reduceEqDiff, Nat.reduceLT, Nat.reduceAdd, Nat.reduceMul, Nat.reduceMod, ↓reduceIte, reduceCtorEq, Nat.reduceLeDiff, List.take_length])
          refine W_cond rfl (fun h => by cases h) (fun _ => W_exit ?_)
          repeat (first | (refine W_seq ?_) | (refine W_reg ?_) | (refine W_regd ?_) | (refine W_regs ?_) | (refine W_block ?_) | (refine And.intro (by omega) ?_) | simp (maxSteps := 1000000) (disch := omega) only [cA, cB, lk, lkH, Dst.onT, Dst.onX, Dst.slot, setF, setH, mapF, mapH, initF, binE, unE, cnt, boundE, newsE, freshE, freshT, opE, rmH, blkQ, frz_us, Nat.reduceEqDiff, Nat.reduceLT, Nat.reduceAdd, Nat.reduceMul, Nat.reduceMod, ↓reduceIte, reduceCtorEq, Nat.reduceLeDiff, cat_take])
          exact W_ret ⟨(fun h => by cases h), RetRX (Q := fun rx j => rx = .ret (.str ((T.drop i).take k)) ∧ j = ((i + k : Nat) : Int)) rfl rfl ⟨rfl, rfl⟩ rfl rfl hrs⟩
      · rw [hcd] at hdc hst
        have hkm2 : k = m := by
          rw [Bool.true_or] at hst
          have := of_decide_eq_true hst.symm
          omega
        subst hkm2
        repeat (first | (refine W_seq ?_) | (refine W_reg ?_) | (refine W_regd ?_) | (refine W_regs ?_) | (refine W_block ?_) | (refine And.intro (by omega) ?_) | simp (maxSteps := 1000000) (disch := omega) only [cA, cB, lk, lkH, Dst.onT, Dst.onX, Dst.slot, setF, setH, mapF, mapH, initF, binE, unE, cnt, boundE, newsE, freshE, freshT, opE, rmH, blkQ, frz_us, Nat.reduceEqDiff, Nat.reduceLT, Nat.reduceAdd, Nat.reduceMul, Nat.reduceMod, ↓reduceIte, reduceCtorEq, Nat.reduceLeDiff, List.take_length, byteD, hcv, hdc, hwr])
        refine W_cond rfl (fun h => by cases h) (fun _ => W_exit ?_)
        repeat (first | (refine W_seq ?_) | (refine W_reg ?_) | (refine W_regd ?_) | (refine W_regs ?_) | (refine W_block ?_) | (refine And.intro (by omega) ?_) | simp (maxSteps := 1000000) (disch := omega) only [cA, cB, lk, lkH, Dst.onT, Dst.onX, Dst.slot, setF, setH, mapF, mapH, initF, binE, unE, cnt, boundE, newsE, freshE, freshT, opE, rmH, blkQ, frz_us, Nat.reduceEqDiff, Nat.reduceLT, Nat.reduceAdd, Nat.reduceMul, Nat.reduceMod, ↓reduceIte, reduceCtorEq, Nat.reduceLeDiff, cat_take])
        exact W_ret ⟨(fun h => by cases h), RetRX (Q := fun rx j => rx = .ret (.str ((T.drop i).take k)) ∧ j = ((i + k : Nat) : Int)) rfl rfl ⟨rfl, rfl⟩ rfl rfl hrs⟩
theorem rd_out {T : Bs} {d i : Int} {n M N : Nat} {rs x y : List DV} (hrs : ∀ x ∈ rs, x.rf = true) (hM : M < 1048576) (p : Nat) (c : List DV) (h1 : p ≠ N) (h2 : p ≠ M)
    (h : lkH [(M, x), (1048576, [.str T, .int .u8 d, .int .i64 i, .osl 1 1048577 0 n]), (1048577, rs), (N, y)] p = some c) : ∀ e ∈ c, e.has M = false := by
  simp only [lkH] at h
  rw [if_neg (Ne.symm h2)] at h
  split at h
  · cases h
    intro e he
    have h3 : ¬ 1048577 = M := by omega
    simp only [List.mem_cons, List.not_mem_nil, or_false] at he
    rcases he with rfl | rfl | rfl | rfl <;> simp [DV.has, h3]
  · split at h
    · cases h
      exact fun e he => has_of_rf M e (hrs e he)
    · rw [if_neg (Ne.symm h1)] at h; cases h
set_option maxHeartbeats 8000000 in
set_option maxRecDepth 10000 in
theorem field_quoted (T : Bs) (d : UInt8) (i n : Nat) (rs : List DV) (hrs : ∀ x ∈ rs, x.rf = true) (hi : i < T.length) (hT : T.length ≤ 65536) (hpl : (T.drop i).head? = some 34) :
    W fndField codeFQ (RetPX resdField (RH T d.toNat i n rs) fun rx H' => ∃ j, H' = RH T d.toNat j n rs ∧ fldQ T d i n rs rx j) [(0, .ptr 1048576 0)] (RH T d.toNat i n rs) := by
  have ce := fun j : Nat => end_calls T d.toNat j
  have hfs : fieldS d (T.drop i) = (qs (T.drop (i + 1))).map (fun p => (p.1, p.2 + 1)) := by unfold fieldS; rw [if_pos hpl, List.drop_drop]
  have hdl : (T.drop (i + 1)).length = T.length - (i + 1) := List.length_drop
  have hdd : ∀ k, (T.drop (i + 1)).drop k = T.drop (i + 1 + k) := fun k => by rw [List.drop_drop]
  unfold codeFQ codedField
  dsimp only
  show W _ _ _ _ (RH T d.toNat i n rs)
  unfold RH
  repeat (first | (refine W_seq ?_) | (refine W_reg ?_) | (refine W_regd ?_) | (refine W_regs ?_) | (refine W_block ?_) | (refine And.intro (by omega) ?_) | simp (maxSteps := 1000000) (disch := omega) only [cA, cB, lk, lkH, Dst.onT, Dst.onX, Dst.slot, setF, setH, mapF, mapH, initF, binE, unE, cnt, boundE, newsE, freshE, freshT, opE, rmH, blkQ, frz_us, Nat.reduceEqDiff, Nat.reduceLT, Nat.reduceAdd, Nat.reduceMul, Nat.reduceMod, ↓reduceIte, reduceCtorEq, Nat.reduceLeDiff, List.take_length])
  refine W_ownc 2265604 1 1 786512 (cells := [.nilp, .nils]) rfl rfl rfl ?_
  simp (maxSteps := 1000000) (disch := omega) only [cA, cB, lk, lkH, Dst.onT, Dst.onX, Dst.slot, setF, setH, mapF, mapH, initF, binE, unE, cnt, boundE, newsE, freshE, freshT, opE, rmH, blkQ, frz_us, Nat.reduceEqDiff, Nat.reduceLT, Nat.reduceAdd, Nat.reduceMul, Nat.reduceMod, ↓reduceIte, reduceCtorEq, Nat.reduceLeDiff, List.take_length]
  refine W_loop (σ := Nat × Bs × DV) (fun s => [(0, .ptr 1048576 0), (4, .ptr 2265604 0)])
    (fun s => [(786512, bys s.2.1), (1048576, [.str T, .int .u8 d.toNat, .int .i64 ((i + 1 + s.1 : Nat) : Int), .osl 1 1048577 0 n]), (1048577, rs), (2265604, [s.2.2, .osl 1 786512 0 s.2.1.length])])
    (fun s => i + 1 + s.1 ≤ T.length ∧ s.2.1.length ≤ s.1 ∧ qs (T.drop (i + 1)) = (qs (T.drop (i + 1 + s.1))).map (fun p => (s.2.1 ++ p.1, s.1 + p.2)) ∧ (s.2.2 = .nilp ∨ s.2.2 = .ptr 2265604 0)) (fun s => T.length - s.1) (0, [], .nilp) ?_ ?_ rfl ?_
  · refine ⟨by omega, Nat.le_refl _, ?_, .inl rfl⟩
    simp
  · simp [subF, lk]
  · rintro ⟨k, v, c0⟩ ⟨hk, hvk, hq, hc0⟩
    try simp only at hk hvk hq hc0 ⊢
    repeat (first | (refine W_seq ?_) | (refine W_reg ?_) | (refine W_regd ?_) | (refine W_regs ?_) | (refine W_block ?_) | (refine And.intro (by omega) ?_) | simp (maxSteps := 1000000) (disch := omega) only [cA, cB, lk, lkH, Dst.onT, Dst.onX, Dst.slot, setF, setH, mapF, mapH, initF, binE, unE, cnt, boundE, newsE, freshE, freshT, opE, rmH, blkQ, frz_us, Nat.reduceEqDiff, Nat.reduceLT, Nat.reduceAdd, Nat.reduceMul, Nat.reduceMod, ↓reduceIte, reduceCtorEq, Nat.reduceLeDiff, List.take_length])
    refine callC_read rfl 1048576 (ce (i + 1 + k)) rfl (by simp) (hrd T d n _) rfl ?_
    by_cases hke : i + 1 + k = T.length
    · rw [show decide (i + 1 + k = T.length) = true from decide_eq_true hke]
      have hnone : fieldS d (T.drop i) = none := by rw [hfs, hq, List.drop_eq_nil_of_le (by omega)]; rfl
      repeat (first | (refine W_seq ?_) | (refine W_reg ?_) | (refine W_regd ?_) | (refine W_regs ?_) | (refine W_block ?_) | (refine And.intro (by omega) ?_) | simp (maxSteps := 1000000) (disch := omega) only [cA, cB, lk, lkH, Dst.onT, Dst.onX, Dst.slot, setF, setH, mapF, mapH, initF, binE, unE, cnt, boundE, newsE, freshE, freshT, opE, rmH, blkQ, frz_us, Nat.reduceEqDiff, Nat.reduceLT, Nat.reduceAdd, Nat.reduceMul, Nat.reduceMod, ↓reduceIte, reduceCtorEq, Nat.reduceLeDiff, List.take_length])
      refine W_cond rfl (fun _ => ?_) (fun h => by cases h)
      refine W_pan [⟨.t 90, .build [(.int .i64 0)] [(0, 1, (.c (.int .i64 3)))], none⟩, ⟨.t 91, .mki 65 (.t 90), none⟩] .no (.t 91) rfl ?_
      repeat (first | (refine W_seq ?_) | (refine W_reg ?_) | (refine W_regd ?_) | (refine W_regs ?_) | (refine W_block ?_) | (refine And.intro (by omega) ?_) | simp (maxSteps := 1000000) (disch := omega) only [cA, cB, lk, lkH, Dst.onT, Dst.onX, Dst.slot, setF, setH, mapF, mapH, initF, binE, unE, cnt, boundE, newsE, freshE, freshT, opE, rmH, blkQ, frz_us, Nat.reduceEqDiff, Nat.reduceLT, Nat.reduceAdd, Nat.reduceMul, Nat.reduceMod, ↓reduceIte, reduceCtorEq, Nat.reduceLeDiff, cS, DV.rf_agg])
      refine ⟨rfl, _, rfl, ?_⟩
      exact RetRP (Q := fldQ T d i n rs) (by unfold fldQ; rw [hnone]; exact ⟨rfl, by rw [hke]⟩) rfl rfl hrs
    · rw [show decide (i + 1 + k = T.length) = false from decide_eq_false hke]
      have hkl : i + 1 + k < T.length := by omega
      have cp := pre_calls (T.drop (i + 1 + k)) [34, 34]
      obtain ⟨c, hcv⟩ : ∃ c, T.getD (i + 1 + k) 0 = c := ⟨_, rfl⟩
      have hdr : T.drop (i + 1 + k) = c :: T.drop (i + 1 + (k + 1)) := by
        rw [List.drop_eq_getElem_cons hkl, ← hcv, List.getD_eq_getElem?_getD, List.getElem?_eq_getElem hkl]; rfl
      have e1 : ((i + 1 + k : Nat) : Int) + 1 = ((i + 1 + (k + 1) : Nat) : Int) := by omega
      have e2 : ((i + 1 + (k + 1) : Nat) : Int) + 1 = ((i + 1 + (k + 2) : Nat) : Int) := by omega
      repeat (first | (refine W_seq ?_) | (refine W_reg ?_) | (refine W_regd ?_) | (refine W_regs ?_) | (refine W_block ?_) | (refine And.intro (by omega) ?_) | simp (maxSteps := 1000000) (disch := omega) only [cA, cB, lk, lkH, Dst.onT, Dst.onX, Dst.slot, setF, setH, mapF, mapH, initF, binE, unE, cnt, boundE, newsE, freshE, freshT, opE, rmH, blkQ, frz_us, Nat.reduceEqDiff, Nat.reduceLT, Nat.reduceAdd, Nat.reduceMul, Nat.reduceMod, ↓reduceIte, reduceCtorEq, Nat.reduceLeDiff, List.take_length])
      refine W_cond rfl (fun h => by cases h) (fun _ => ?_)
      repeat (first | (refine W_seq ?_) | (refine W_reg ?_) | (refine W_regd ?_) | (refine W_regs ?_) | (refine W_block ?_) | (refine And.intro (by omega) ?_) | simp (maxSteps := 1000000) (disch := omega) only [cA, cB, lk, lkH, Dst.onT, Dst.onX, Dst.slot, setF, setH, mapF, mapH, initF, binE, unE, cnt, boundE, newsE, freshE, freshT, opE, rmH, blkQ, frz_us, Nat.reduceEqDiff, Nat.reduceLT, Nat.reduceAdd, Nat.reduceMul, Nat.reduceMod, ↓reduceIte, reduceCtorEq, Nat.reduceLeDiff, List.take_length])
      refine callC_pure cp rfl ?_
      cases hpre : Lib.hasPrefix (T.drop (i + 1 + k)) [34, 34]
      · repeat (first | (refine W_seq ?_) | (refine W_reg ?_) | (refine W_regd ?_) | (refine W_regs ?_) | (refine W_block ?_) | (refine And.intro (by omega) ?_) | simp (maxSteps := 1000000) (disch := omega) only [cA, cB, lk, lkH, Dst.onT, Dst.onX, Dst.slot, setF, setH, mapF, mapH, initF, binE, unE, cnt, boundE, newsE, freshE, freshT, opE, rmH, blkQ, frz_us, Nat.reduceEqDiff, Nat.reduceLT, Nat.reduceAdd, Nat.reduceMul, Nat.reduceMod, ↓reduceIte, reduceCtorEq, Nat.reduceLeDiff, List.take_length])
        refine W_cond rfl (fun h => by cases h) (fun _ => ?_)
        have hd34 : decide ((c.toNat : Int) = 34) = (c == 34) := dec_byte c 34
        by_cases hc : c = 34
        · rw [beq_iff_eq.2 hc] at hd34
          repeat (first | (refine W_seq ?_) | (refine W_reg ?_) | (refine W_regd ?_) | (refine W_regs ?_) | (refine W_block ?_) | (refine And.intro (by omega) ?_) | simp (maxSteps := 1000000) (disch := omega) only [cA, cB, lk, lkH, Dst.onT, Dst.onX, Dst.slot, setF, setH, mapF, mapH, initF, binE, unE, cnt, boundE, newsE, freshE, freshT, opE, rmH, blkQ, frz_us, Nat.reduceEqDiff, Nat.reduceLT, Nat.reduceAdd, Nat.reduceMul, Nat.reduceMod, ↓reduceIte, reduceCtorEq, Nat.reduceLeDiff, List.take_length, byteD, hcv, hd34])
          refine W_cond rfl (fun _ => ?_) (fun h => by cases h)
          repeat (first | (refine W_seq ?_) | (refine W_reg ?_) | (refine W_regd ?_) | (refine W_regs ?_) | (refine W_block ?_) | (refine And.intro (by omega) ?_) | simp (maxSteps := 1000000) (disch := omega) only [cA, cB, lk, lkH, Dst.onT, Dst.onX, Dst.slot, setF, setH, mapF, mapH, initF, binE, unE, cnt, boundE, newsE, freshE, freshT, opE, rmH, blkQ, frz_us, Nat.reduceEqDiff, Nat.reduceLT, Nat.reduceAdd, Nat.reduceMul, Nat.reduceMod, ↓reduceIte, reduceCtorEq, Nat.reduceLeDiff, e1])
          have cs : MRel Tryd.prog 20 [.ptr 2265604 0] (BH 2265604 786512 c0 v) fun r H' => r = .str v ∧ H' = [(2265604, [.undef, .undef])] :=
            Str_calls Tryd.lays169 Tryd.Builder_Extra_169 2265604 786512 (by decide) (by decide) rfl v (by omega) c0
          refine callC_bstr 2265604 786512 cs rfl rfl rfl hc0 (by decide) (by decide) rfl (by simp [DV.has]) (rd_out hrs (by decide)) ?_
          simp (maxSteps := 1000000) (disch := omega) only [cA, cB, lk, lkH, Dst.onT, Dst.onX, Dst.slot, setF, setH, mapF, mapH, initF, binE, unE, cnt, boundE, newsE, freshE, freshT, opE, rmH, blkQ, frz_us, Nat.reduceEqDiff, Nat.reduceLT, Nat.reduceAdd, Nat.reduceMul, Nat.reduceMod, ↓reduceIte, reduceCtorEq, Nat.reduceLeDiff, delH]
          refine W_ret (RetRX (Q := fldQ T d i n rs) (j := ((i + 1 + (k + 1) : Nat) : Int)) rfl rfl ?_ rfl rfl hrs)
          unfold fldQ
          rw [hfs, hq, hdr]
          subst hc
          rw [hdr] at hpre
          rw [qs_q hpre]
          refine ⟨by simp [oneOf, lk], by simp; omega⟩
        · rw [beq_eq_false_iff_ne.2 hc] at hd34
          repeat (first | (refine W_seq ?_) | (refine W_reg ?_) | (refine W_regd ?_) | (refine W_regs ?_) | (refine W_block ?_) | (refine And.intro (by omega) ?_) | simp (maxSteps := 1000000) (disch := omega) only [cA, cB, lk, lkH, Dst.onT, Dst.onX, Dst.slot, setF, setH, mapF, mapH, initF, binE, unE, cnt, boundE, newsE, freshE, freshT, opE, rmH, blkQ, frz_us, Nat.reduceEqDiff, Nat.reduceLT, Nat.reduceAdd, Nat.reduceMul, Nat.reduceMod, ↓reduceIte, reduceCtorEq, Nat.reduceLeDiff, List.take_length, byteD, hcv, hd34])
          refine W_cond rfl (fun h => by cases h) (fun _ => W_skip ?_)
          repeat (first | (refine W_seq ?_) | (refine W_reg ?_) | (refine W_regd ?_) | (refine W_regs ?_) | (refine W_block ?_) | (refine And.intro (by omega) ?_) | simp (maxSteps := 1000000) (disch := omega) only [cA, cB, lk, lkH, Dst.onT, Dst.onX, Dst.slot, setF, setH, mapF, mapH, initF, binE, unE, cnt, boundE, newsE, freshE, freshT, opE, rmH, blkQ, frz_us, Nat.reduceEqDiff, Nat.reduceLT, Nat.reduceAdd, Nat.reduceMul, Nat.reduceMod, ↓reduceIte, reduceCtorEq, Nat.reduceLeDiff, List.take_length, byteD, hcv])
          have bw : BCalls Tryd.prog 2265604 786512 16 [.int .u8 c.toNat] v .nili (v ++ [c]) := bwb_calls 4 v c (by omega)
          refine callC_bld 2265604 786512 bw rfl rfl rfl hc0 (by decide) (by decide) (fun d h => by simp at h; subst h; rfl) rfl (by simp [DV.has]) (by simp [DV.has]) (rd_out hrs (by decide)) ?_
          simp (maxSteps := 1000000) (disch := omega) only [cA, cB, lk, lkH, Dst.onT, Dst.onX, Dst.slot, setF, setH, mapF, mapH, initF, binE, unE, cnt, boundE, newsE, freshE, freshT, opE, rmH, blkQ, frz_us, Nat.reduceEqDiff, Nat.reduceLT, Nat.reduceAdd, Nat.reduceMul, Nat.reduceMod, ↓reduceIte, reduceCtorEq, Nat.reduceLeDiff]
          repeat (first | (refine W_seq ?_) | (refine W_reg ?_) | (refine W_regd ?_) | (refine W_regs ?_) | (refine W_block ?_) | (refine And.intro (by omega) ?_) | simp (maxSteps := 1000000) (disch := omega) only [cA, cB, lk, lkH, Dst.onT, Dst.onX, Dst.slot, setF, setH, mapF, mapH, initF, binE, unE, cnt, boundE, newsE, freshE, freshT, opE, rmH, blkQ, frz_us, Nat.reduceEqDiff, Nat.reduceLT, Nat.reduceAdd, Nat.reduceMul, Nat.reduceMod, ↓reduceIte, reduceCtorEq, Nat.reduceLeDiff, e1])
          refine ⟨(k + 1, v ++ [c], .ptr 2265604 0), ⟨by simp; omega, by simp; omega, ?_, .inr rfl⟩, by simp; omega, by simp [subF, lk], rfl⟩
          rw [hq, hdr, qs_c hc, Option.map_map]
          congr 1
          funext p
          simp; omega
      · repeat (first | (refine W_seq ?_) | (refine W_reg ?_) | (refine W_regd ?_) | (refine W_regs ?_) | (refine W_block ?_) | (refine And.intro (by omega) ?_) | simp (maxSteps := 1000000) (disch := omega) only [cA, cB, lk, lkH, Dst.onT, Dst.onX, Dst.slot, setF, setH, mapF, mapH, initF, binE, unE, cnt, boundE, newsE, freshE, freshT, opE, rmH, blkQ, frz_us, Nat.reduceEqDiff, Nat.reduceLT, Nat.reduceAdd, Nat.reduceMul, Nat.reduceMod, ↓reduceIte, reduceCtorEq, Nat.reduceLeDiff, List.take_length])
        refine W_cond rfl (fun _ => ?_) (fun h => by cases h)
        repeat (first | (refine W_seq ?_) | (refine W_reg ?_) | (refine W_regd ?_) | (refine W_regs ?_) | (refine W_block ?_) | (refine And.intro (by omega) ?_) | simp (maxSteps := 1000000) (disch := omega) only [cA, cB, lk, lkH, Dst.onT, Dst.onX, Dst.slot, setF, setH, mapF, mapH, initF, binE, unE, cnt, boundE, newsE, freshE, freshT, opE, rmH, blkQ, frz_us, Nat.reduceEqDiff, Nat.reduceLT, Nat.reduceAdd, Nat.reduceMul, Nat.reduceMod, ↓reduceIte, reduceCtorEq, Nat.reduceLeDiff, e1, List.take_length, byteD])
        obtain ⟨hc, hk2, hdr2⟩ : c = 34 ∧ i + 1 + (k + 1) < T.length ∧ T.drop (i + 1 + (k + 1)) = 34 :: T.drop (i + 1 + (k + 2)) := by
          rw [hdr] at hpre
          have h2 : i + 1 + (k + 1) < T.length := by
            apply Classical.byContradiction
            intro h
            rw [List.drop_eq_nil_of_le (by omega)] at hpre
            simp [Lib.hasPrefix] at hpre
          have h3 : T.drop (i + 1 + (k + 1)) = T.getD (i + 1 + (k + 1)) 0 :: T.drop (i + 1 + (k + 2)) := by
            rw [List.drop_eq_getElem_cons h2, List.getD_eq_getElem?_getD, List.getElem?_eq_getElem h2]; rfl
          rw [h3] at hpre
          simp [Lib.hasPrefix] at hpre
          exact ⟨hpre.1.symm, h2, by rw [h3]; congr 1; simpa using hpre.2.symm⟩
        have hcv2 : T.getD (i + 1 + (k + 1)) 0 = 34 := by
          have := congrArg List.head? hdr2
          rw [head_get T hk2] at this
          exact Option.some.inj this
        refine And.intro ⟨by omega, hk2⟩ ?_
        rw [hcv2]
        have bw : BCalls Tryd.prog 2265604 786512 16 [.int .u8 ((34 : UInt8).toNat : Int)] v .nili (v ++ [34]) := bwb_calls 4 v 34 (by omega)
        refine callC_bld 2265604 786512 bw rfl rfl rfl hc0 (by decide) (by decide) (fun d h => by simp at h; subst h; rfl) rfl (by simp [DV.has]) (by simp [DV.has]) (rd_out hrs (by decide)) ?_
        simp (maxSteps := 1000000) (disch := omega) only [cA, cB, lk, lkH, Dst.onT, Dst.onX, Dst.slot, setF, setH, mapF, mapH, initF, binE, unE, cnt, boundE, newsE, freshE, freshT, opE, rmH, blkQ, frz_us, Nat.reduceEqDiff, Nat.reduceLT, Nat.reduceAdd, Nat.reduceMul, Nat.reduceMod, ↓reduceIte, reduceCtorEq, Nat.reduceLeDiff]
        repeat (first | (refine W_seq ?_) | (refine W_reg ?_) | (refine W_regd ?_) | (refine W_regs ?_) | (refine W_block ?_) | (refine And.intro (by omega) ?_) | simp (maxSteps := 1000000) (disch := omega) only [cA, cB, lk, lkH, Dst.onT, Dst.onX, Dst.slot, setF, setH, mapF, mapH, initF, binE, unE, cnt, boundE, newsE, freshE, freshT, opE, rmH, blkQ, frz_us, Nat.reduceEqDiff, Nat.reduceLT, Nat.reduceAdd, Nat.reduceMul, Nat.reduceMod, ↓reduceIte, reduceCtorEq, Nat.reduceLeDiff, e2])
        refine ⟨(k + 2, v ++ [34], .ptr 2265604 0), ⟨by simp; omega, by simp; omega, ?_, .inr rfl⟩, by simp; omega, by simp [subF, lk], rfl⟩
        rw [hq, hdr, hdr2, hc, qs_qq, Option.map_map]
        congr 1
        funext p
        simp; omega
set_option maxHeartbeats 4000000 in
set_option maxRecDepth 10000 in
theorem field_calls (T : Bs) (d : UInt8) (i n : Nat) (rs : List DV) (hrs : ∀ x ∈ rs, x.rf = true) (hi : i ≤ T.length) (hT : T.length ≤ 65536) :
    MX Tryd.prog 41 [.ptr 1048576 0] (RH T d.toNat i n rs) fun rx H' => ∃ j, H' = RH T d.toNat j n rs ∧ fldQ T d i n rs rx j := by
  have ce := end_calls T d.toNat i
  refine MX_of isdField (by simp [fndField]) ?_
  unfold codedField
  show W _ _ _ _ (RH T d.toNat i n rs)
  unfold RH
  repeat (first | (refine W_seq ?_) | (refine W_reg ?_) | (refine W_regd ?_) | (refine W_regs ?_) | (refine W_block ?_) | (refine And.intro (by omega) ?_) | simp (maxSteps := 1000000) (disch := omega) only [cA, cB, lk, lkH, Dst.onT, Dst.onX, Dst.slot, setF, setH, mapF, mapH, initF, binE, unE, cnt, boundE, newsE, freshE, freshT, opE, rmH, blkQ, frz_us, Nat.reduceEqDiff, Nat.reduceLT, Nat.reduceAdd, Nat.reduceMul, Nat.reduceMod, ↓reduceIte, reduceCtorEq, Nat.reduceLeDiff, List.take_length])
  refine callC_read rfl 1048576 ce rfl (by simp) (hrd T d n _) rfl ?_
  by_cases hpl : (T.drop i).head? = some 34
  · have hil : i < T.length := by
      apply Classical.byContradiction
      intro h
      rw [List.drop_eq_nil_of_le (by omega)] at hpl
      cases hpl
    have hcv : T.getD i 0 = 34 := by rw [head_get T hil] at hpl; exact Option.some.inj hpl
    have hq : decide (¬ ((34 : UInt8).toNat : Int) = 34) = false := by decide
    rw [show decide (i = T.length) = false from decide_eq_false (by omega)]
    repeat (first | (refine W_seq ?_) | (refine W_reg ?_) | (refine W_regd ?_) | (refine W_regs ?_) | (refine W_block ?_) | (refine And.intro (by omega) ?_) | simp (maxSteps := 1000000) (disch := omega) only [cA, cB, lk, lkH, Dst.onT, Dst.onX, Dst.slot, setF, setH, mapF, mapH, initF, binE, unE, cnt, boundE, newsE, freshE, freshT, opE, rmH, blkQ, frz_us, Nat.reduceEqDiff, Nat.reduceLT, Nat.reduceAdd, Nat.reduceMul, Nat.reduceMod, ↓reduceIte, reduceCtorEq, Nat.reduceLeDiff, List.take_length, byteD, hcv, hq])
    refine W_cond rfl (fun h => by cases h) (fun _ => W_skip ?_)
    exact W_sub (by simp [subF, lk]) (field_quoted T d i n rs hrs hil hT hpl)
  · by_cases hend : i = T.length
    · rw [show decide (i = T.length) = true from decide_eq_true hend]
      repeat (first | (refine W_seq ?_) | (refine W_reg ?_) | (refine W_regd ?_) | (refine W_regs ?_) | (refine W_block ?_) | (refine And.intro (by omega) ?_) | simp (maxSteps := 1000000) (disch := omega) only [cA, cB, lk, lkH, Dst.onT, Dst.onX, Dst.slot, setF, setH, mapF, mapH, initF, binE, unE, cnt, boundE, newsE, freshE, freshT, opE, rmH, blkQ, frz_us, Nat.reduceEqDiff, Nat.reduceLT, Nat.reduceAdd, Nat.reduceMul, Nat.reduceMod, ↓reduceIte, reduceCtorEq, Nat.reduceLeDiff, List.take_length])
      refine W_cond rfl (fun _ => ?_) (fun h => by cases h)
      exact W_sub (by simp [subF, lk]) (W_mono (field_plain T d i n rs hrs hi hT hpl) (fun e fr H h => by cases e <;> first | exact absurd rfl h.1 | exact h.2))
    · have hil : i < T.length := by omega
      have hq : decide (¬ ((T.getD i 0).toNat : Int) = 34) = true := decide_eq_true (fun h => hpl (by
        rw [head_get T hil, show T.getD i 0 = 34 from UInt8.toNat_inj.1 (by show _ = 34; omega)]))
      rw [show decide (i = T.length) = false from decide_eq_false hend]
      repeat (first | (refine W_seq ?_) | (refine W_reg ?_) | (refine W_regd ?_) | (refine W_regs ?_) | (refine W_block ?_) | (refine And.intro (by omega) ?_) | simp (maxSteps := 1000000) (disch := omega) only [cA, cB, lk, lkH, Dst.onT, Dst.onX, Dst.slot, setF, setH, mapF, mapH, initF, binE, unE, cnt, boundE, newsE, freshE, freshT, opE, rmH, blkQ, frz_us, Nat.reduceEqDiff, Nat.reduceLT, Nat.reduceAdd, Nat.reduceMul, Nat.reduceMod, ↓reduceIte, reduceCtorEq, Nat.reduceLeDiff, List.take_length, byteD, hq])
      refine W_cond rfl (fun _ => ?_) (fun h => by cases h)
      exact W_sub (by simp [subF, lk]) (W_mono (field_plain T d i n rs hrs hi hT hpl) (fun e fr H h => by cases e <;> first | exact absurd rfl h.1 | exact h.2))
end Go.Proofs.YtgonkeglcehkeaaDoor
namespace Go.Proofs.YtgonkeglcehkeaaDoor
open Go Go.Dat Go.Proofs Go.RowKit Go.Shelf Nat32
def recQ (T : Bs) (d : UInt8) (i : Nat) (R : List (List Bs)) (rx : RX) (j : Int) (rs : List DV) (n : Nat) : Prop :=
  if R.length = 1024 then rx = .pan (stopE 2) ∧ j = (i : Int) ∧ rs = recD R ∧ n = R.length
  else match recS d 32 (T.drop i) with
    | .ok fs k => rx = .ret (.tup []) ∧ j = ((i + k : Nat) : Int) ∧ rs = recD (R ++ [fs]) ∧ n = R.length + 1
    | .err e k => rx = .pan (stopE e) ∧ j = ((i + k : Nat) : Int) ∧ rs = recD R ∧ n = R.length
theorem hrdm (T : Bs) (d : UInt8) (n : Nat) (j : Int) : [DV.ptr 1048576 0].map (elo 1048576 (rfc [.str T, .int .u8 d.toNat, .int .i64 j, .osl 1 1000000 0 n])) = [rdE T d.toNat j] := by
  simp [elo, rfc, rdE, DV.rf]
theorem recD_len (R : List (List Bs)) : (recD R).length = R.length := by unfold recD; simp
theorem strL_len (r : List Bs) : (strL r).length = r.length := by unfold strL; simp
theorem purge_ptr_ne {p o : Nat} (off : Nat) (h : ¬ p = o) : purge o (.ptr p off) = .ptr p off := by simp [purge, DV.has, h]
theorem frz_ptr_ne {p o : Nat} (xs : List DV) (off : Nat) (h : ¬ p = o) : frz o xs (.ptr p off) = .ptr p off := purge_ptr_ne off h
theorem recD_rf (R : List (List Bs)) : ∀ x ∈ recD R, x.rf = true := fun x hx => by
  unfold recD at hx
  obtain ⟨r, _, rfl⟩ := List.mem_map.1 hx
  rfl
theorem recD_snoc (R : List (List Bs)) (r : List Bs) : recD R ++ [.sl 1 (strL r)] = recD (R ++ [r]) := by simp [recD]
theorem strL_snoc (r : List Bs) (f : Bs) : strL r ++ [.str f] = strL (r ++ [f]) := by simp [strL]
theorem leN_le (s : Bs) : leN s ≤ 2 := by unfold leN; split <;> (try split) <;> omega
theorem strL_rf (r : List Bs) : ∀ x ∈ strL r, x.rf = true := fun x hx => by
  unfold strL at hx
  obtain ⟨r, _, rfl⟩ := List.mem_map.1 hx
  rfl
set_option maxHeartbeats 8000000 in
set_option maxRecDepth 10000 in
theorem record_calls (T : Bs) (d : UInt8) (i : Nat) (R : List (List Bs)) (hi : i < T.length) (hT : T.length ≤ 65536) (hR : R.length ≤ 1024) :
    MX Tryd.prog 32 [.ptr 1048576 0] (RHm T d.toNat i R.length (recD R)) fun rx H' => ∃ j n' rs', H' = RHm T d.toNat j n' rs' ∧ recQ T d i R rx j rs' n' := by
  have ce := fun j : Nat => end_calls T d.toNat j
  have hRl : (recD R).length = R.length := recD_len R
  refine MX_of isdRecord (by simp [fndRecord]) ?_
  unfold codedRecord
  show W _ _ _ _ (RHm T d.toNat i R.length (recD R))
  unfold RHm
  by_cases hfull : R.length = 1024
  · have hd : decide ((R.length : Int) = 1024) = true := decide_eq_true (by omega)
    repeat (first | (refine W_seq ?_) | (refine W_reg ?_) | (refine W_regd ?_) | (refine W_regs ?_) | (refine W_block ?_) | (refine And.intro (by omega) ?_) | simp (maxSteps := 1000000) (disch := omega) only [cA, cB, lk, lkH, Dst.onT, Dst.onX, Dst.slot, setF, setH, mapF, mapH, initF, binE, unE, cnt, boundE, newsE, freshE, freshT, opE, rmH, blkQ, frz_us, Nat.reduceEqDiff, Nat.reduceLT, Nat.reduceAdd, Nat.reduceMul, Nat.reduceMod, ↓reduceIte, reduceCtorEq, Nat.reduceLeDiff, hd])
    refine W_cond rfl (fun _ => ?_) (fun h => by cases h)
    refine W_pan [⟨.t 10, .build [(.int .i64 0)] [(0, 1, (.c (.int .i64 2)))], none⟩, ⟨.t 11, .mki 65 (.t 10), none⟩] .no (.t 11) rfl ?_
    repeat (first | (refine W_seq ?_) | (refine W_reg ?_) | (refine W_regd ?_) | (refine W_regs ?_) | (refine W_block ?_) | (refine And.intro (by omega) ?_) | simp (maxSteps := 1000000) (disch := omega) only [cA, cB, lk, lkH, Dst.onT, Dst.onX, Dst.slot, setF, setH, mapF, mapH, initF, binE, unE, cnt, boundE, newsE, freshE, freshT, opE, rmH, blkQ, frz_us, Nat.reduceEqDiff, Nat.reduceLT, Nat.reduceAdd, Nat.reduceMul, Nat.reduceMod, ↓reduceIte, reduceCtorEq, Nat.reduceLeDiff, cS, DV.rf_agg])
    refine ⟨rfl, _, rfl, ?_⟩
    exact RetMP (Q := recQ T d i R) (by unfold recQ; rw [if_pos hfull]; exact ⟨rfl, rfl, rfl, rfl⟩) rfl rfl (recD_rf R)
  · have hd : decide ((R.length : Int) = 1024) = false := decide_eq_false (by omega)
    repeat (first | (refine W_seq ?_) | (refine W_reg ?_) | (refine W_regd ?_) | (refine W_regs ?_) | (refine W_block ?_) | (refine And.intro (by omega) ?_) | simp (maxSteps := 1000000) (disch := omega) only [cA, cB, lk, lkH, Dst.onT, Dst.onX, Dst.slot, setF, setH, mapF, mapH, initF, binE, unE, cnt, boundE, newsE, freshE, freshT, opE, rmH, blkQ, frz_us, Nat.reduceEqDiff, Nat.reduceLT, Nat.reduceAdd, Nat.reduceMul, Nat.reduceMod, ↓reduceIte, reduceCtorEq, Nat.reduceLeDiff, hd])
    refine W_cond rfl (fun h => by cases h) (fun _ => W_skip ?_)
    repeat (first | (refine W_seq ?_) | (refine W_reg ?_) | (refine W_regd ?_) | (refine W_regs ?_) | (refine W_block ?_) | (refine And.intro (by omega) ?_) | simp (maxSteps := 1000000) (disch := omega) only [cA, cB, lk, lkH, Dst.onT, Dst.onX, Dst.slot, setF, setH, mapF, mapH, initF, binE, unE, cnt, boundE, newsE, freshE, freshT, opE, rmH, blkQ, frz_us, Nat.reduceEqDiff, Nat.reduceLT, Nat.reduceAdd, Nat.reduceMul, Nat.reduceMod, ↓reduceIte, reduceCtorEq, Nat.reduceLeDiff])
    refine W_own 2 1 49 rfl rfl ?_
    simp (maxSteps := 1000000) (disch := omega) only [cA, cB, lk, lkH, Dst.onT, Dst.onX, Dst.slot, setF, setH, mapF, mapH, initF, binE, unE, cnt, boundE, newsE, freshE, freshT, opE, rmH, blkQ, frz_us, Nat.reduceEqDiff, Nat.reduceLT, Nat.reduceAdd, Nat.reduceMul, Nat.reduceMod, ↓reduceIte, reduceCtorEq, Nat.reduceLeDiff]
    refine W_loop (σ := Nat × List Bs) (fun s => [(0, .ptr 1048576 0), (2, .osl 1 49 0 s.2.length)])
      (fun s => [(49, strL s.2), (1000000, recD R), (1048576, [.str T, .int .u8 d.toNat, .int .i64 ((i + s.1 : Nat) : Int), .osl 1 1000000 0 R.length])])
      (fun s => i + s.1 ≤ T.length ∧ s.2.length < 32 ∧ recS d 32 (T.drop i) = (recS d (32 - s.2.length) (T.drop (i + s.1))).mvs s.1 s.2) (fun s => 32 - s.2.length) (0, []) ?_ ?_ rfl ?_
    · exact ⟨by omega, by decide, by rw [RS.mvs_0]; rfl⟩
    · simp [subF, lk]
    · rintro ⟨k, fs⟩ ⟨hk, hfl, hrec⟩
      try simp only at hk hfl hrec ⊢
      refine W_block ?_
      refine W_seq ?_
      refine W_callX [⟨.t 12, .mv (.x 2), none⟩, ⟨.t 13, .mv (.x 0), none⟩] [⟨.t 15, .bsl 1 [.str []] [(0, 1, .t 14)], none⟩, ⟨.t 16, .app 9 1 16 (.t 12) (.t 15), none⟩, ⟨.x 2, .mv (.t 16), none⟩] (.t 14) 41 [.t 13] rfl ?_
      repeat (first | (refine W_seq ?_) | (refine W_reg ?_) | (refine W_regd ?_) | (refine W_regs ?_) | (refine W_block ?_) | (refine And.intro (by omega) ?_) | simp (maxSteps := 1000000) (disch := omega) only [cA, cB, lk, lkH, Dst.onT, Dst.onX, Dst.slot, setF, setH, mapF, mapH, initF, binE, unE, cnt, boundE, newsE, freshE, freshT, opE, rmH, blkQ, frz_us, Nat.reduceEqDiff, Nat.reduceLT, Nat.reduceAdd, Nat.reduceMul, Nat.reduceMod, ↓reduceIte, reduceCtorEq, Nat.reduceLeDiff])
      refine callX_rd 1000000 (field_calls T d (i + k) R.length (recD R) (recD_rf R) hk hT) (by decide) (by decide) rfl rfl (recD_rf R) (fun r j hQ => ?_) (fun ch j hQ => ?_)
      · unfold fldQ at hQ
        cases hf : fieldS d (T.drop (i + k)) with
        | none => rw [hf] at hQ; simp at hQ
        | some p =>
          obtain ⟨f, l⟩ := p
          rw [hf] at hQ
          simp only [RX.ret.injEq] at hQ
          obtain ⟨rfl, rfl⟩ := hQ
          refine ⟨rfl, ?_⟩
          have hsl := strL_len fs
          have hpR : (recD R).map (purge 49) = recD R := map_purge 49 (recD_rf R)
          have hpS : ∀ l, (strL l).map (purge 49) = strL l := fun l => map_purge 49 (strL_rf l)
          obtain ⟨hl1, hl2⟩ := fieldS_le hf
          rw [List.length_drop] at hl1
          have hdd : (T.drop (i + k)).drop l = T.drop (i + k + l) := List.drop_drop
          have hat : i + (k + l) ≤ T.length := by omega
          have eat : i + k + l = i + (k + l) := by omega
          have hrec2 : recS d (32 - fs.length) (T.drop (i + k)) = if T.drop (i + (k + l)) = [] ∨ 0 < leN (T.drop (i + (k + l))) then .ok [f] (l + leN (T.drop (i + (k + l)))) else if T.getD (i + (k + l)) 0 ≠ d then .err 3 l else if 32 - fs.length - 1 = 0 then .err 2 l else (recS d (32 - (fs ++ [f]).length) (T.drop (i + (k + l + 1)))).mv (l + 1) (some f) := by
            obtain ⟨m, hm⟩ : ∃ m, 32 - fs.length = m + 1 := ⟨31 - fs.length, by omega⟩
            have hm2 : 32 - (fs ++ [f]).length = m := by simp; omega
            rw [hm, hm2]
            simp only [recS, hf]
            rw [List.drop_drop, List.drop_drop, getD_drop', eat, show i + k + (l + 1) = i + (k + l + 1) by omega, Nat.add_zero]
            simp only [Nat.add_sub_cancel]
          repeat (first | (refine W_seq ?_) | (refine W_reg ?_) | (refine W_regd ?_) | (refine W_regs ?_) | (refine W_block ?_) | (refine And.intro (by omega) ?_) | simp (maxSteps := 1000000) (disch := omega) only [cA, cB, lk, lkH, Dst.onT, Dst.onX, Dst.slot, setF, setH, mapF, mapH, initF, binE, unE, cnt, boundE, newsE, freshE, freshT, opE, rmH, blkQ, frz_us, Nat.reduceEqDiff, Nat.reduceLT, Nat.reduceAdd, Nat.reduceMul, Nat.reduceMod, ↓reduceIte, reduceCtorEq, Nat.reduceLeDiff, cS, hpR, hpS, strL_snoc, purge_ptr_ne])
          refine And.intro (by simp [DV.rf]) (And.intro ⟨hsl, by omega, by omega, fun h => h, by simp [DV.one]⟩ ?_)
          rw [eat]
          have hle2 := leN_le (T.drop (i + (k + l)))
          have cl := le_calls T d.toNat (i + (k + l)) hat (by omega)
          obtain ⟨q, hq⟩ : ∃ q, leN (T.drop (i + (k + l))) = q := ⟨_, rfl⟩
          rw [hq] at cl hle2 hrec2
          repeat (first | (refine W_seq ?_) | (refine W_reg ?_) | (refine W_regd ?_) | (refine W_regs ?_) | (refine W_block ?_) | (refine And.intro (by omega) ?_) | simp (maxSteps := 1000000) (disch := omega) only [cA, cB, lk, lkH, Dst.onT, Dst.onX, Dst.slot, setF, setH, mapF, mapH, initF, binE, unE, cnt, boundE, newsE, freshE, freshT, opE, rmH, blkQ, frz_us, Nat.reduceEqDiff, Nat.reduceLT, Nat.reduceAdd, Nat.reduceMul, Nat.reduceMod, ↓reduceIte, reduceCtorEq, Nat.reduceLeDiff])
          refine callC_read rfl 1048576 cl rfl (by simp) (hrdm T d _ _) rfl ?_
          repeat (first | (refine W_seq ?_) | (refine W_reg ?_) | (refine W_regd ?_) | (refine W_regs ?_) | (refine W_block ?_) | (refine And.intro (by omega) ?_) | simp (maxSteps := 1000000) (disch := omega) only [cA, cB, lk, lkH, Dst.onT, Dst.onX, Dst.slot, setF, setH, mapF, mapH, initF, binE, unE, cnt, boundE, newsE, freshE, freshT, opE, rmH, blkQ, frz_us, Nat.reduceEqDiff, Nat.reduceLT, Nat.reduceAdd, Nat.reduceMul, Nat.reduceMod, ↓reduceIte, reduceCtorEq, Nat.reduceLeDiff])
          refine callC_read rfl 1048576 (ce (i + (k + l))) rfl (by simp) (hrdm T d _ _) rfl ?_
          have hfz : frz 49 (strL (fs ++ [f])) (.osl 1 49 0 (fs.length + 1)) = .sl 1 (strL (fs ++ [f])) := by
            have := strL_len (fs ++ [f])
            rw [List.length_append, List.length_singleton] at this
            simp [frz, this]
            exact List.take_of_length_le (Nat.le_of_eq this)
          have hfR : (recD R).map (frz 49 (strL (fs ++ [f]))) = recD R := map_frz 49 _ (recD_rf R)
          have hpR2 : ∀ X, (recD X).map (purge 1000000) = recD X := fun X => map_purge 1000000 (recD_rf X)
          have eq1 : ((i + (k + l) : Nat) : Int) + (q : Int) = ((i + (k + l + q) : Nat) : Int) := by omega
          by_cases hend : i + (k + l) = T.length
          · have hnil : T.drop (i + (k + l)) = [] := List.drop_eq_nil_of_le (by omega)
            rw [show decide (i + (k + l) = T.length) = true from decide_eq_true hend]
            repeat (first | (refine W_seq ?_) | (refine W_reg ?_) | (refine W_regd ?_) | (refine W_regs ?_) | (refine W_block ?_) | (refine And.intro (by omega) ?_) | simp (maxSteps := 1000000) (disch := omega) only [cA, cB, lk, lkH, Dst.onT, Dst.onX, Dst.slot, setF, setH, mapF, mapH, initF, binE, unE, cnt, boundE, newsE, freshE, freshT, opE, rmH, blkQ, frz_us, Nat.reduceEqDiff, Nat.reduceLT, Nat.reduceAdd, Nat.reduceMul, Nat.reduceMod, ↓reduceIte, reduceCtorEq, Nat.reduceLeDiff])
            refine W_cond rfl (fun _ => ?_) (fun h => by cases h)
            refine W_freeze 49 (cells := strL (fs ++ [f])) rfl (List.all_eq_true.2 (strL_rf _)) ?_
            repeat (first | (refine W_seq ?_) | (refine W_reg ?_) | (refine W_regd ?_) | (refine W_regs ?_) | (refine W_block ?_) | (refine And.intro (by omega) ?_) | simp (maxSteps := 1000000) (disch := omega) only [cA, cB, lk, lkH, Dst.onT, Dst.onX, Dst.slot, setF, setH, mapF, mapH, initF, binE, unE, cnt, boundE, newsE, freshE, freshT, opE, rmH, blkQ, frz_us, Nat.reduceEqDiff, Nat.reduceLT, Nat.reduceAdd, Nat.reduceMul, Nat.reduceMod, ↓reduceIte, reduceCtorEq, Nat.reduceLeDiff, cS, hfz, hfR, eq1, hpR2, recD_snoc, purge_ptr_ne, frz_ptr_ne])
            refine And.intro (by simp [DV.rf]) (And.intro ⟨hRl, by omega, by omega, fun h => h.elim, by simp [DV.one]⟩ ?_)
            repeat (first | (refine W_seq ?_) | (refine W_reg ?_) | (refine W_regd ?_) | (refine W_regs ?_) | (refine W_block ?_) | (refine And.intro (by omega) ?_) | simp (maxSteps := 1000000) (disch := omega) only [cA, cB, lk, lkH, Dst.onT, Dst.onX, Dst.slot, setF, setH, mapF, mapH, initF, binE, unE, cnt, boundE, newsE, freshE, freshT, opE, rmH, blkQ, frz_us, Nat.reduceEqDiff, Nat.reduceLT, Nat.reduceAdd, Nat.reduceMul, Nat.reduceMod, ↓reduceIte, reduceCtorEq, Nat.reduceLeDiff])
            refine W_ret (RetMX (Q := recQ T d i R) rfl rfl ?_ rfl rfl (recD_rf _))
            unfold recQ
            rw [if_neg hfull, hrec, hrec2, if_pos (.inl hnil)]
            exact ⟨rfl, by omega, rfl, rfl⟩
          · have hnil : ¬ T.drop (i + (k + l)) = [] := by
              intro h
              have := congrArg List.length h
              rw [List.length_drop] at this
              simp at this
              omega
            have hlt : i + (k + l) < T.length := by omega
            rw [show decide (i + (k + l) = T.length) = false from decide_eq_false hend]
            by_cases hq0 : 0 < q
            · have dq : decide ((0 : Int) < (q : Int)) = true := decide_eq_true (by omega)
              repeat (first | (refine W_seq ?_) | (refine W_reg ?_) | (refine W_regd ?_) | (refine W_regs ?_) | (refine W_block ?_) | (refine And.intro (by omega) ?_) | simp (maxSteps := 1000000) (disch := omega) only [cA, cB, lk, lkH, Dst.onT, Dst.onX, Dst.slot, setF, setH, mapF, mapH, initF, binE, unE, cnt, boundE, newsE, freshE, freshT, opE, rmH, blkQ, frz_us, Nat.reduceEqDiff, Nat.reduceLT, Nat.reduceAdd, Nat.reduceMul, Nat.reduceMod, ↓reduceIte, reduceCtorEq, Nat.reduceLeDiff, dq])
              refine W_cond rfl (fun _ => ?_) (fun h => by cases h)
              refine W_freeze 49 (cells := strL (fs ++ [f])) rfl (List.all_eq_true.2 (strL_rf _)) ?_
              repeat (first | (refine W_seq ?_) | (refine W_reg ?_) | (refine W_regd ?_) | (refine W_regs ?_) | (refine W_block ?_) | (refine And.intro (by omega) ?_) | simp (maxSteps := 1000000) (disch := omega) only [cA, cB, lk, lkH, Dst.onT, Dst.onX, Dst.slot, setF, setH, mapF, mapH, initF, binE, unE, cnt, boundE, newsE, freshE, freshT, opE, rmH, blkQ, frz_us, Nat.reduceEqDiff, Nat.reduceLT, Nat.reduceAdd, Nat.reduceMul, Nat.reduceMod, ↓reduceIte, reduceCtorEq, Nat.reduceLeDiff, cS, hfz, hfR, eq1, hpR2, recD_snoc, purge_ptr_ne, frz_ptr_ne])
              refine And.intro (by simp [DV.rf]) (And.intro ⟨hRl, by omega, by omega, fun h => h.elim, by simp [DV.one]⟩ ?_)
              repeat (first | (refine W_seq ?_) | (refine W_reg ?_) | (refine W_regd ?_) | (refine W_regs ?_) | (refine W_block ?_) | (refine And.intro (by omega) ?_) | simp (maxSteps := 1000000) (disch := omega) only [cA, cB, lk, lkH, Dst.onT, Dst.onX, Dst.slot, setF, setH, mapF, mapH, initF, binE, unE, cnt, boundE, newsE, freshE, freshT, opE, rmH, blkQ, frz_us, Nat.reduceEqDiff, Nat.reduceLT, Nat.reduceAdd, Nat.reduceMul, Nat.reduceMod, ↓reduceIte, reduceCtorEq, Nat.reduceLeDiff])
              refine W_ret (RetMX (Q := recQ T d i R) rfl rfl ?_ rfl rfl (recD_rf _))
              unfold recQ
              rw [if_neg hfull, hrec, hrec2, if_pos (.inr hq0)]
              exact ⟨rfl, by omega, rfl, rfl⟩
            · have dq : decide ((0 : Int) < (q : Int)) = false := decide_eq_false (by omega)
              rw [if_neg (fun h => h.elim hnil hq0)] at hrec2
              repeat (first | (refine W_seq ?_) | (refine W_reg ?_) | (refine W_regd ?_) | (refine W_regs ?_) | (refine W_block ?_) | (refine And.intro (by omega) ?_) | simp (maxSteps := 1000000) (disch := omega) only [cA, cB, lk, lkH, Dst.onT, Dst.onX, Dst.slot, setF, setH, mapF, mapH, initF, binE, unE, cnt, boundE, newsE, freshE, freshT, opE, rmH, blkQ, frz_us, Nat.reduceEqDiff, Nat.reduceLT, Nat.reduceAdd, Nat.reduceMul, Nat.reduceMod, ↓reduceIte, reduceCtorEq, Nat.reduceLeDiff, dq])
              refine W_cond rfl (fun h => by cases h) (fun _ => ?_)
              have hdc : decide (¬ ((T.getD (i + (k + l)) 0).toNat : Int) = (d.toNat : Int)) = !(T.getD (i + (k + l)) 0 == d) := by rw [← dec_byte, decide_not]
              by_cases hcd : T.getD (i + (k + l)) 0 = d
              · rw [beq_iff_eq.2 hcd] at hdc
                rw [if_neg (fun h => h hcd)] at hrec2
                repeat (first | (refine W_seq ?_) | (refine W_reg ?_) | (refine W_regd ?_) | (refine W_regs ?_) | (refine W_block ?_) | (refine And.intro (by omega) ?_) | simp (maxSteps := 1000000) (disch := omega) only [cA, cB, lk, lkH, Dst.onT, Dst.onX, Dst.slot, setF, setH, mapF, mapH, initF, binE, unE, cnt, boundE, newsE, freshE, freshT, opE, rmH, blkQ, frz_us, Nat.reduceEqDiff, Nat.reduceLT, Nat.reduceAdd, Nat.reduceMul, Nat.reduceMod, ↓reduceIte, reduceCtorEq, Nat.reduceLeDiff, byteD, hdc])
                refine W_cond rfl (fun h => by cases h) (fun _ => ?_)
                by_cases h32 : 32 - fs.length - 1 = 0
                · have d32 : decide (((fs.length + 1 : Nat) : Int) = 32) = true := decide_eq_true (by omega)
                  rw [if_pos h32] at hrec2
                  repeat (first | (refine W_seq ?_) | (refine W_reg ?_) | (refine W_regd ?_) | (refine W_regs ?_) | (refine W_block ?_) | (refine And.intro (by omega) ?_) | simp (maxSteps := 1000000) (disch := omega) only [cA, cB, lk, lkH, Dst.onT, Dst.onX, Dst.slot, setF, setH, mapF, mapH, initF, binE, unE, cnt, boundE, newsE, freshE, freshT, opE, rmH, blkQ, frz_us, Nat.reduceEqDiff, Nat.reduceLT, Nat.reduceAdd, Nat.reduceMul, Nat.reduceMod, ↓reduceIte, reduceCtorEq, Nat.reduceLeDiff, d32])
                  refine W_cond rfl (fun _ => ?_) (fun h => by cases h)
                  refine W_pan [⟨.t 65, .build [(.int .i64 0)] [(0, 1, (.c (.int .i64 2)))], none⟩, ⟨.t 66, .mki 65 (.t 65), none⟩] .no (.t 66) rfl ?_
                  repeat (first | (refine W_seq ?_) | (refine W_reg ?_) | (refine W_regd ?_) | (refine W_regs ?_) | (refine W_block ?_) | (refine And.intro (by omega) ?_) | simp (maxSteps := 1000000) (disch := omega) only [cA, cB, lk, lkH, Dst.onT, Dst.onX, Dst.slot, setF, setH, mapF, mapH, initF, binE, unE, cnt, boundE, newsE, freshE, freshT, opE, rmH, blkQ, frz_us, Nat.reduceEqDiff, Nat.reduceLT, Nat.reduceAdd, Nat.reduceMul, Nat.reduceMod, ↓reduceIte, reduceCtorEq, Nat.reduceLeDiff, cS, DV.rf_agg])
                  refine ⟨rfl, _, rfl, ?_⟩
                  refine RetMP (Q := recQ T d i R) ?_ rfl rfl (recD_rf R)
                  unfold recQ
                  rw [if_neg hfull, hrec, hrec2]
                  exact ⟨rfl, by omega, rfl, rfl⟩
                · have d32 : decide (((fs.length + 1 : Nat) : Int) = 32) = false := decide_eq_false (by omega)
                  rw [if_neg h32] at hrec2
                  repeat (first | (refine W_seq ?_) | (refine W_reg ?_) | (refine W_regd ?_) | (refine W_regs ?_) | (refine W_block ?_) | (refine And.intro (by omega) ?_) | simp (maxSteps := 1000000) (disch := omega) only [cA, cB, lk, lkH, Dst.onT, Dst.onX, Dst.slot, setF, setH, mapF, mapH, initF, binE, unE, cnt, boundE, newsE, freshE, freshT, opE, rmH, blkQ, frz_us, Nat.reduceEqDiff, Nat.reduceLT, Nat.reduceAdd, Nat.reduceMul, Nat.reduceMod, ↓reduceIte, reduceCtorEq, Nat.reduceLeDiff, d32])
                  refine W_cond rfl (fun h => by cases h) (fun _ => W_skip ?_)
                  have e1 : ((i + (k + l) : Nat) : Int) + 1 = ((i + (k + l + 1) : Nat) : Int) := by omega
                  have e3 : (fs.length : Int) + 1 = (((fs ++ [f]).length : Nat) : Int) := by simp
                  have e4 : fs.length + 1 = (fs ++ [f]).length := by simp
                  repeat (first | (refine W_seq ?_) | (refine W_reg ?_) | (refine W_regd ?_) | (refine W_regs ?_) | (refine W_block ?_) | (refine And.intro (by omega) ?_) | simp (maxSteps := 1000000) (disch := omega) only [cA, cB, lk, lkH, Dst.onT, Dst.onX, Dst.slot, setF, setH, mapF, mapH, initF, binE, unE, cnt, boundE, newsE, freshE, freshT, opE, rmH, blkQ, frz_us, Nat.reduceEqDiff, Nat.reduceLT, Nat.reduceAdd, Nat.reduceMul, Nat.reduceMod, ↓reduceIte, reduceCtorEq, Nat.reduceLeDiff, e1])
                  refine ⟨(k + l + 1, fs ++ [f]), ⟨by simp; omega, by simp; omega, ?_⟩, by simp; omega, by simp [subF, lk], rfl⟩
                  rw [hrec, hrec2, RS.mvs_mv]
                  rfl
              · rw [beq_eq_false_iff_ne.2 hcd] at hdc
                rw [if_pos hcd] at hrec2
                repeat (first | (refine W_seq ?_) | (refine W_reg ?_) | (refine W_regd ?_) | (refine W_regs ?_) | (refine W_block ?_) | (refine And.intro (by omega) ?_) | simp (maxSteps := 1000000) (disch := omega) only [cA, cB, lk, lkH, Dst.onT, Dst.onX, Dst.slot, setF, setH, mapF, mapH, initF, binE, unE, cnt, boundE, newsE, freshE, freshT, opE, rmH, blkQ, frz_us, Nat.reduceEqDiff, Nat.reduceLT, Nat.reduceAdd, Nat.reduceMul, Nat.reduceMod, ↓reduceIte, reduceCtorEq, Nat.reduceLeDiff, byteD, hdc])
                refine W_cond rfl (fun _ => ?_) (fun h => by cases h)
                refine W_pan [⟨.t 59, .build [(.int .i64 0)] [(0, 1, (.c (.int .i64 3)))], none⟩, ⟨.t 60, .mki 65 (.t 59), none⟩] .no (.t 60) rfl ?_
                repeat (first | (refine W_seq ?_) | (refine W_reg ?_) | (refine W_regd ?_) | (refine W_regs ?_) | (refine W_block ?_) | (refine And.intro (by omega) ?_) | simp (maxSteps := 1000000) (disch := omega) only [cA, cB, lk, lkH, Dst.onT, Dst.onX, Dst.slot, setF, setH, mapF, mapH, initF, binE, unE, cnt, boundE, newsE, freshE, freshT, opE, rmH, blkQ, frz_us, Nat.reduceEqDiff, Nat.reduceLT, Nat.reduceAdd, Nat.reduceMul, Nat.reduceMod, ↓reduceIte, reduceCtorEq, Nat.reduceLeDiff, cS, DV.rf_agg])
                refine ⟨rfl, _, rfl, ?_⟩
                refine RetMP (Q := recQ T d i R) ?_ rfl rfl (recD_rf R)
                unfold recQ
                rw [if_neg hfull, hrec, hrec2]
                exact ⟨rfl, by omega, rfl, rfl⟩
      · unfold fldQ at hQ
        cases hf : fieldS d (T.drop (i + k)) with
        | some p => rw [hf] at hQ; simp at hQ
        | none =>
          rw [hf] at hQ
          simp only [RX.pan.injEq] at hQ
          obtain ⟨rfl, rfl⟩ := hQ
          refine RetMP (Q := recQ T d i R) ?_ rfl rfl (recD_rf R)
          unfold recQ
          rw [if_neg hfull, hrec]
          obtain ⟨m, hm⟩ : ∃ m, 32 - fs.length = m + 1 := ⟨31 - fs.length, by omega⟩
          rw [hm]
          simp only [recS, hf, RS.mvs]
          refine ⟨trivial, ?_, trivial, trivial⟩
          rw [List.length_drop]; omega
end Go.Proofs.YtgonkeglcehkeaaDoor
namespace Go.Proofs.YtgonkeglcehkeaaDoor
open Go Go.Dat Go.Proofs Go.RowKit Go.Shelf Nat32
set_option maxHeartbeats 4000000 in
set_option maxRecDepth 100000 in
theorem catch_panicking (p : Addr) (x e : Int) (w : World) (hc : w.cell? p = some (.int .i64 x)) (hz : w.frozen? p = false) :
    CallsD Tryd.prog 30 #[.pointer (some p)] (.panicking [{ v := .iface 65 (.agg #[.int .i64 e]), recovered := false }]) w fun r u' w' =>
      r = .returned (.tuple #[]) ∧ u' = .panicking [{ v := .iface 65 (.agg #[.int .i64 e]), recovered := true }] ∧ ∃ w1, Ext (fun _ => False) w w1 ∧ w' = w1.setCell p (.int .i64 e) := by
  have hlt : p.block < w.heap.size := World.block_lt_of_cell? w p hc
  have hc2 : (w.alloc (.cells #[.int .i64 e] 65)).cell? p = some (.int .i64 x) := by rw [← hc]; exact World.cell?_of_block (Lib.alloc_old w _ p.block hlt)
  have hz2 : (w.alloc (.cells #[.int .i64 e] 65)).frozen? p = false := by rw [← hz]; exact World.frozen?_alloc_old w _ p (by omega)
  clear hc hz
  have hta : ∀ (v : Value) (w : World), (Instr.typeAssert (.iface 65 v) 20 65 true).run Tryd.prog w = .ok (.tuple #[v, .bool true]) w := fun v w => by
    simp [Instr.typeAssert, run_underlying Tryd.underlying65]
  refine callsD_of_wpS Tryd.func30 rfl fun c₀ cs hu => ?_
  apply wpS_seq
  apply wpS_region
  simp [wpOpsS, go_sem, recoverD, hu, Tryd.ntmps30, Exit.thenS]
  refine wpS_of_wp ?_
  go_wp2
  refine ⟨rfl, _, rfl, .tuple #[], ?_, rfl, rfl, _, Ext.alloc _ _ _, rfl⟩
  simp [results, Tryd.results30]
theorem catch_idle (p : Addr) (w : World) :
    CallsD Tryd.prog 30 #[.pointer (some p)] .returning w fun e u' w' => e = .returned (.tuple #[]) ∧ u' = .returning ∧ w' = w := by
  refine callsD_of_wpS Tryd.func30 rfl fun c₀ cs hu => ?_
  apply wpS_seq
  apply wpS_region
  simp [wpOpsS, go_sem, recoverD, hu, Tryd.ntmps30, Exit.thenS]
  refine wpS_of_wp ?_
  go_wp2
  refine ⟨rfl, .returning, ?_, .tuple #[], ?_, rfl, rfl, rfl⟩
  · cases c₀; simp_all
  · simp [results, Tryd.results30]
end Go.Proofs.YtgonkeglcehkeaaDoor
namespace Go.Proofs.YtgonkeglcehkeaaDoor
open Go Go.Dat Go.Proofs Go.RowKit Go.Shelf Nat32
def sndC : DC → DC
  | .seq _ c => c
  | c => c
theorem parS_ne {s : Bs} (h : s ≠ []) {d : UInt8} {m : Nat} : parS d (m + 1) s = match recS d 32 s with
    | .err e k => .err e k
    | .ok fs k => (parS d m (s.drop k)).mv k (some fs) := by rw [parS, if_neg h]; rfl
theorem parS_ne0 {s : Bs} (h : s ≠ []) {d : UInt8} : parS d 0 s = .err 2 0 := by rw [parS, if_neg h]
theorem leN_drop_le (s : Bs) : leN s ≤ s.length := by
  unfold leN Lib.hasPrefix
  match s with
  | [] => simp
  | [a] => simp; split <;> omega
  | a :: b :: r => simp only [List.length_cons]; split <;> (try split) <;> omega
theorem recS_le' (d : UInt8) : ∀ (m : Nat) (s : Bs) (fs : List Bs) (k : Nat), recS d m s = .ok fs k → k ≤ s.length
  | 0, s, fs, k, h => by simp [recS] at h
  | m + 1, s, fs, k, h => by
    simp only [recS] at h
    cases hf : fieldS d s with
    | none => rw [hf] at h; cases h
    | some p =>
      obtain ⟨f, l⟩ := p
      rw [hf] at h
      simp only at h
      have h1 := (fieldS_le hf).1
      have h2 := leN_drop_le (s.drop l)
      rw [List.length_drop] at h2
      split at h
      · cases h; omega
      · rename_i hn
        have hl : l < s.length := by
          apply Classical.byContradiction
          intro hc
          exact hn (.inl (List.drop_eq_nil_of_le (by omega)))
        split at h
        · cases h
        · split at h
          · cases h
          · cases hr : recS d m (s.drop (l + 1)) with
            | err e q => rw [hr] at h; cases h
            | ok gs q =>
              rw [hr] at h
              have := recS_le' d m _ _ _ hr
              rw [List.length_drop] at this
              simp only [RS.mv] at h
              cases h
              omega
theorem recS_le {d : UInt8} {m : Nat} {T : Bs} {fs : List Bs} {l k : Nat} (h : recS d m (T.drop k) = .ok fs l) (hk : k ≤ T.length) : k + l ≤ T.length := by
  have := recS_le' d m _ _ _ h
  rw [List.length_drop] at this
  omega
def allR : DC := sndC (sndC codedAll)
def allOut (T : Bs) (d : UInt8) (e : Ex) (fr : Fr) (H : Hp) : Prop :=
  ∃ (j : Nat) (R : List (List Bs)) (n : Nat), lk fr 2 = .ptr 2199810 0 ∧ lkH H 2199810 = some [.int .i64 0] ∧ lkH H 1048576 = some [.str T, .int .u8 d.toNat, .int .i64 j, .osl 1 1000000 0 R.length] ∧ lkH H 1000000 = some (recD R) ∧
    ((e = .ret ∧ parS d 1024 T = .ok R n) ∨ ∃ x, e = .pan (stopE x) ∧ parS d 1024 T = .err x j)
set_option maxHeartbeats 4000000 in
set_option maxRecDepth 10000 in
theorem all_body (T : Bs) (d : UInt8) (hT : T.length ≤ 65536) :
    W fndAll allR (allOut T d) [(0, .ptr 1048576 0), (2, .ptr 2199810 0)] [(1000000, recD []), (1048576, [.str T, .int .u8 d.toNat, .int .i64 (0 : Nat), .osl 1 1000000 0 ([] : List (List Bs)).length]), (2199810, [.int .i64 0])] := by
  have ce := fun j : Nat => end_calls T d.toNat j
  have hR0 : ∀ R : List (List Bs), (recD R).length = R.length := recD_len
  unfold allR codedAll
  simp only [sndC]
  refine W_seq ?_
  refine W_block ?_
  refine W_loop (σ := Nat × List (List Bs)) (fun s => [(0, .ptr 1048576 0), (2, .ptr 2199810 0)])
    (fun s => [(1000000, recD s.2), (1048576, [.str T, .int .u8 d.toNat, .int .i64 (s.1 : Nat), .osl 1 1000000 0 s.2.length]), (2199810, [.int .i64 0])])
    (fun s => s.1 ≤ T.length ∧ s.2.length ≤ 1024 ∧ parS d 1024 T = (parS d (1024 - s.2.length) (T.drop s.1)).mvs s.1 s.2) (fun s => 1024 - s.2.length + (T.length - s.1)) (0, []) ?_ ?_ rfl ?_
  · exact ⟨by omega, by decide, by rw [RS.mvs_0]; rfl⟩
  · simp [subF, lk]
  · rintro ⟨k, R⟩ ⟨hk, hRl, hpar⟩
    simp only at hk hRl hpar ⊢
    repeat (first | (refine W_seq ?_) | (refine W_reg ?_) | (refine W_regd ?_) | (refine W_regs ?_) | (refine W_block ?_) | (refine And.intro (by omega) ?_) | simp (maxSteps := 1000000) (disch := omega) only [cA, cB, lk, lkH, Dst.onT, Dst.onX, Dst.slot, setF, setH, mapF, mapH, initF, binE, unE, cnt, boundE, newsE, freshE, freshT, opE, rmH, blkQ, frz_us, Nat.reduceEqDiff, Nat.reduceLT, Nat.reduceAdd, Nat.reduceMul, Nat.reduceMod, ↓reduceIte, reduceCtorEq, Nat.reduceLeDiff])
    refine callC_read rfl 1048576 (ce k) rfl (by simp) (hrdm T d _ _) rfl ?_
    by_cases hend : k = T.length
    · rw [show decide (k = T.length) = true from decide_eq_true hend]
      repeat (first | (refine W_seq ?_) | (refine W_reg ?_) | (refine W_regd ?_) | (refine W_regs ?_) | (refine W_block ?_) | (refine And.intro (by omega) ?_) | simp (maxSteps := 1000000) (disch := omega) only [cA, cB, lk, lkH, Dst.onT, Dst.onX, Dst.slot, setF, setH, mapF, mapH, initF, binE, unE, cnt, boundE, newsE, freshE, freshT, opE, rmH, blkQ, frz_us, Nat.reduceEqDiff, Nat.reduceLT, Nat.reduceAdd, Nat.reduceMul, Nat.reduceMod, ↓reduceIte, reduceCtorEq, Nat.reduceLeDiff])
      refine W_cond rfl (fun h => by cases h) (fun _ => ?_)
      refine W_exit ?_
      repeat (first | (refine W_seq ?_) | (refine W_reg ?_) | (refine W_regd ?_) | (refine W_regs ?_) | (refine W_block ?_) | (refine And.intro (by omega) ?_) | simp (maxSteps := 1000000) (disch := omega) only [cA, cB, lk, lkH, Dst.onT, Dst.onX, Dst.slot, setF, setH, mapF, mapH, initF, binE, unE, cnt, boundE, newsE, freshE, freshT, opE, rmH, blkQ, frz_us, Nat.reduceEqDiff, Nat.reduceLT, Nat.reduceAdd, Nat.reduceMul, Nat.reduceMod, ↓reduceIte, reduceCtorEq, Nat.reduceLeDiff])
      refine W_ret ?_
      have hnil : T.drop k = [] := List.drop_eq_nil_of_le (by omega)
      have hp0 : parS d (1024 - R.length) (T.drop k) = .ok [] 0 := by
        rw [hnil]
        cases 1024 - R.length <;> simp [parS]
      rw [hp0] at hpar
      refine ⟨k, R, k + 0, rfl, rfl, rfl, rfl, .inl ⟨rfl, ?_⟩⟩
      rw [hpar]
      simp [RS.mvs]
    · rw [show decide (k = T.length) = false from decide_eq_false hend]
      repeat (first | (refine W_seq ?_) | (refine W_reg ?_) | (refine W_regd ?_) | (refine W_regs ?_) | (refine W_block ?_) | (refine And.intro (by omega) ?_) | simp (maxSteps := 1000000) (disch := omega) only [cA, cB, lk, lkH, Dst.onT, Dst.onX, Dst.slot, setF, setH, mapF, mapH, initF, binE, unE, cnt, boundE, newsE, freshE, freshT, opE, rmH, blkQ, frz_us, Nat.reduceEqDiff, Nat.reduceLT, Nat.reduceAdd, Nat.reduceMul, Nat.reduceMod, ↓reduceIte, reduceCtorEq, Nat.reduceLeDiff])
      refine W_cond rfl (fun _ => W_skip ?_) (fun h => by cases h)
      refine W_block ?_
      have hlt : k < T.length := by omega
      have hne : T.drop k ≠ [] := by
        intro h
        have := congrArg List.length h
        rw [List.length_drop] at this
        simp at this
        omega
      refine W_callX [⟨.t 7, .mv (.x 0), none⟩] [] (.t 8) 32 [.t 7] rfl ?_
      repeat (first | (refine W_seq ?_) | (refine W_reg ?_) | (refine W_regd ?_) | (refine W_regs ?_) | (refine W_block ?_) | (refine And.intro (by omega) ?_) | simp (maxSteps := 1000000) (disch := omega) only [cA, cB, lk, lkH, Dst.onT, Dst.onX, Dst.slot, setF, setH, mapF, mapH, initF, binE, unE, cnt, boundE, newsE, freshE, freshT, opE, rmH, blkQ, frz_us, Nat.reduceEqDiff, Nat.reduceLT, Nat.reduceAdd, Nat.reduceMul, Nat.reduceMod, ↓reduceIte, reduceCtorEq, Nat.reduceLeDiff])
      have hrs' : ∀ rx j rs' n', recQ T d k R rx j rs' n' → ∀ x ∈ rs', x.rf = true := fun rx j rs' n' hQ => by
        unfold recQ at hQ
        split at hQ
        · rw [hQ.2.2.1]; exact recD_rf R
        · split at hQ
          · rw [hQ.2.2.1]; exact recD_rf _
          · rw [hQ.2.2.1]; exact recD_rf R
      refine callX_rm (record_calls T d k R hlt hT hRl) rfl rfl (recD_rf R) rfl rfl ?_ hrs' (fun r j rs n hQ => ?_) (fun ch j rs n hQ => ?_)
      · intro p c h1 h2 hp x hx
        simp only [lkH] at hp
        rw [if_neg (Ne.symm h2), if_neg (Ne.symm h1)] at hp
        split at hp
        · cases hp; simp at hx; subst hx; rfl
        · cases hp
      · unfold recQ at hQ
        by_cases hfull : R.length = 1024
        · rw [if_pos hfull] at hQ
          cases hQ.1
        · rw [if_neg hfull] at hQ
          obtain ⟨m, hm⟩ : ∃ m, 1024 - R.length = m + 1 := ⟨1023 - R.length, by omega⟩
          rw [hm] at hpar
          rw [parS_ne hne] at hpar
          cases hr : recS d 32 (T.drop k) with
          | err e l => rw [hr] at hQ; cases hQ.1
          | ok fs l =>
            rw [hr] at hQ hpar
            obtain ⟨h1, h2, h3, h4⟩ := hQ
            cases h1
            subst h2 h3 h4
            refine ⟨rfl, ?_⟩
            refine ⟨(k + l, R ++ [fs]), ⟨recS_le hr hk, by simp; omega, ?_⟩, by simp; omega, by simp [subF, lk], by simp [setH]⟩
            rw [hpar, RS.mvs_mv, List.drop_drop, show 1024 - (R ++ [fs]).length = m by simp; omega]
      · unfold recQ at hQ
        by_cases hfull : R.length = 1024
        · rw [if_pos hfull] at hQ
          obtain ⟨h1, h2, h3, h4⟩ := hQ
          cases h1
          subst h2 h3 h4
          refine ⟨k, R, 0, rfl, rfl, rfl, rfl, .inr ⟨2, rfl, ?_⟩⟩
          rw [hpar, hfull, Nat.sub_self, parS_ne0 hne]
          rfl
        · rw [if_neg hfull] at hQ
          obtain ⟨m, hm⟩ : ∃ m, 1024 - R.length = m + 1 := ⟨1023 - R.length, by omega⟩
          rw [hm] at hpar
          rw [parS_ne hne] at hpar
          cases hr : recS d 32 (T.drop k) with
          | ok fs l => rw [hr] at hQ; cases hQ.1
          | err e l =>
            rw [hr] at hQ hpar
            obtain ⟨h1, h2, h3, h4⟩ := hQ
            cases h1
            subst h2 h3 h4
            exact ⟨k + l, R, 0, rfl, rfl, rfl, rfl, .inr ⟨e, rfl, hpar⟩⟩
theorem all_calls (T : Bs) (d : UInt8) (hT : T.length ≤ 65536) :
    MRel Tryd.prog 23 [.ptr 1048576 0] (RHm T d.toNat (0 : Nat) 0 []) fun r H' => ∃ (j : Nat) (R : List (List Bs)) (n : Nat), H' = RHm T d.toNat (j : Int) R.length (recD R) ∧
      ((r = .int .i64 (0 : Nat) ∧ parS d 1024 T = .ok R n) ∨ ∃ x : Nat, r = .int .i64 x ∧ parS d 1024 T = .err x j) := by
  intro S L w us hT0 hTb hH hA hs hv
  obtain ⟨u, hu⟩ : ∃ u, us = #[u] := by
    match us, hs with
    | ⟨[u]⟩, _ => exact ⟨u, rfl⟩
  subst hu
  refine calls_of_wp_defers Tryd.func23 rfl ?_
  simp only [Tryd.ntmps23]
  have hn : (fndAll.n : Nat) = 9 := rfl
  have hR : R ⟨S, w, fun x => ∃ o, L o = some x, 9, fun o => if 1048576 ≤ o then L o else none, []⟩ L (den fndAll.vs [] [(0, .ptr 1048576 0)]) (lkH (RHm T d.toNat (0 : Nat) 0 [])) { tmps := #[u] ++ Array.replicate (9 - #[u].size) undef, defers := [] } w := by
    refine ⟨by simp, rfl, fun s => ?_, hH, Ext.refl _ _, hA, fun o x ho => .inl ⟨o, ho⟩, fun o x ho => ?_, fun _ _ => rfl⟩
    · simp only [den, lk]
      by_cases h0 : s = 0
      · subst h0
        exact hv 0 _ u rfl rfl
      · rw [if_neg (Ne.symm h0)]
        exact .imm (by split <;> exact .undef _)
    · simp only at ho
      split at ho
      · rename_i h1; exact ⟨ho, h1⟩
      · cases ho
  have hok : Cx.ok ⟨S, w, fun x => ∃ o, L o = some x, 9, fun o => if 1048576 ≤ o then L o else none, []⟩ fndAll.P := ⟨hT0, fun x hx => (show ∃ o, L o = some x from hx).elim fun o ho => hTb o x ho⟩
  apply wp_seq
  have w0 : W fndAll (.reg [⟨.x 2, .allocT 25 [.int .i64 0], none⟩]) (fun e fr H => e = .norm ∧ fr = [(0, .ptr 1048576 0), (2, .ptr 2199810 0)] ∧ H = RHm T d.toNat (0 : Nat) 0 [] ++ [(2199810, [.int .i64 0])]) [(0, .ptr 1048576 0)] (RHm T d.toNat (0 : Nat) 0 []) := by
    unfold RHm
    repeat (first | (refine W_seq ?_) | (refine W_reg ?_) | (refine W_regd ?_) | (refine W_regs ?_) | (refine W_block ?_) | (refine And.intro (by omega) ?_) | simp (maxSteps := 1000000) (disch := omega) only [cA, cB, lk, lkH, Dst.onT, Dst.onX, Dst.slot, setF, setH, mapF, mapH, initF, binE, unE, cnt, boundE, newsE, freshE, freshT, opE, rmH, blkQ, frz_us, Nat.reduceEqDiff, Nat.reduceLT, Nat.reduceAdd, Nat.reduceMul, Nat.reduceMod, ↓reduceIte, reduceCtorEq, Nat.reduceLeDiff, Nat.reduceMul, Nat.reduceMod])
    rfl
  refine wp_mono (w0 _ (by kernel_rfl) _ _ _ _ ⟨rfl, hok⟩ hR) fun e a w1 => ?_
  rintro ⟨L1, fr, H1, de, hR1, he, rfl, rfl, rfl⟩
  cases e <;> simp only [er, Option.some.injEq, reduceCtorEq] at he
  obtain ⟨b, hb, ht2⟩ := (hR1.slots 2).inv_ptr
  simp only [Exit.then]
  have hsz : a.tmps.size = 9 := hR1.size
  have hsz3 : (a.tmps.setIfInBounds 3 (.func (.func 30) #[] #[a.tmps[2]?.getD undef]))[3]? = some (.func (.func 30) #[] #[a.tmps[2]?.getD undef]) := by simp [Array.getElem?_setIfInBounds, hsz]
  have hde : a.defers = [] := hR1.defers
  have ht2' : a.tmps[2]'(by omega) = Value.pointer (some { block := b, off := 0 }) := by rw [← ht2]; simp [Array.getD_eq_getD_getElem?, hsz]
  generalize hK : bodyPostD _ _ _ = K
  apply wp_seq
  apply wp_region
  simp [wpOps, go_sem, hsz, hsz3, hde, ht2']
  refine .inl (.inl ?_)
  have hLN : L 2199810 = none := by
    cases hc : L 2199810 with
    | none => rfl
    | some x =>
      obtain ⟨c, h1⟩ := hH.dom _ _ hc
      simp [RHm, lkH] at h1
  have hR2 : R ⟨S, w, fun x => ∃ o, L o = some x, 9, fun o => if o = 2199810 then some b else if 1048576 ≤ o then L o else none, [{ target := .fn (.func 30) #[.pointer (some { block := b, off := 0 })], args := #[] }]⟩ L1 (den fndAll.vs [] [(0, .ptr 1048576 0), (2, .ptr 2199810 0)]) (lkH (RHm T d.toNat (0 : Nat) 0 [] ++ [(2199810, [.int .i64 0])]))
      { tmps := a.tmps.setIfInBounds 3 (.func (.func 30) #[] #[.pointer (some { block := b, off := 0 })]), defers := [{ target := .fn (.func 30) #[.pointer (some { block := b, off := 0 })], args := #[] }] } w1 := by
    refine ⟨by simp [hsz], rfl, fun s => ?_, hR1.heap, hR1.ext, hR1.sLt, hR1.own, fun o x ho => ?_, hR1.shp⟩
    · by_cases h3 : s = 3
      · subst h3
        exact .imm (.undef _)
      · have := hR1.slots s
        rw [Array.getD_eq_getD_getElem?, Array.getElem?_setIfInBounds_ne (Ne.symm h3), ← Array.getD_eq_getD_getElem?]
        exact this
    · simp only at ho
      split at ho
      · rename_i h1; subst h1; cases ho; exact ⟨hb, by decide⟩
      · exact hR1.keep o x ho
  have hok2 : Cx.ok ⟨S, w, fun x => ∃ o, L o = some x, 9, fun o => if o = 2199810 then some b else if 1048576 ≤ o then L o else none, [{ target := .fn (.func 30) #[.pointer (some { block := b, off := 0 })], args := #[] }]⟩ fndAll.P := hok
  refine wp_mono (all_body T d hT _ (by kernel_rfl) _ _ _ _ ⟨rfl, hok2⟩ hR2) fun e a2 w2 => ?_
  rintro ⟨L2, fr, H2, de, hR3, he, j, R0, n, hf2, hN, hrd, hrc, hout⟩
  have hp2 := hR3.slots 2
  rw [show den fndAll.vs [] fr 2 = lk fr 2 from rfl, hf2] at hp2
  obtain ⟨b2, hb2, ht3⟩ := hp2.inv_ptr
  have hbb := (hR3.keep 2199810 b (by simp)).1
  rw [hb2] at hbb
  cases hbb
  have hdf : a2.defers = [{ target := .fn (.func 30) #[.pointer (some { block := b, off := 0 })], args := #[] }] := hR3.defers
  obtain ⟨cells, cs, TT, hcl, hcb, hcz, hcv⟩ := hR3.heap.at_ hb2
  rw [hN] at hcl
  cases hcl
  have hsz0 : 0 < cs.size := hcz
  have hc0 : cs[0]? = some (.int .i64 0) := by
    have h1 := hcv 0 _ _ rfl (Array.getElem?_eq_getElem hsz0)
    rw [Array.getElem?_eq_getElem hsz0, h1.inv_int]
  have hcell : w2.cell? ⟨b, 0, none⟩ = some (.int .i64 0) := by rw [cell_of_row w2 b 0 cs TT (0, 0) hcb]; exact hc0
  have hfrz : w2.frozen? ⟨b, 0, none⟩ = false := frozen_of_row w2 b 0 cs TT hcb
  have hend : ∀ (w3 : World) (x : Nat), R ⟨S, w, fun x => ∃ o, L o = some x, 9, fun o => if o = 2199810 then some b else if 1048576 ≤ o then L o else none, [{ target := .fn (.func 30) #[.pointer (some { block := b, off := 0 })], args := #[] }]⟩ L2 (den fndAll.vs [] fr) (lkH (setH H2 2199810 [.int .i64 x])) a2 w3 →
      w3.cell? ⟨b, 0, none⟩ = some (.int .i64 x) → ((x = 0 ∧ parS d 1024 T = .ok R0 n) ∨ parS d 1024 T = .err x j) → Leaves Tryd.prog Tryd.f23 a2.tmps (fun e w' => ∃ v L' r H', (∃ (j : Nat) (R : List (List Bs)) (n : Nat), H' = RHm T d.toNat (j : Int) R.length (recD R) ∧
      ((r = .int .i64 (0 : Nat) ∧ parS d 1024 T = .ok R n) ∨ ∃ x : Nat, r = .int .i64 x ∧ parS d 1024 T = .err x j)) ∧ e = .returned v ∧ HOK w' S L' (lkH H') ∧ V w' L' (Av S L') r v ∧ Ext (fun x => ∃ o, L o = some x) w w' ∧
      (∀ o b, L o = some b → 1048576 ≤ o → L' o = some b) ∧ (∀ o b, L' o = some b → (∃ p, L p = some b) ∨ w.heap.size ≤ b) ∧ (∀ b, b < w.heap.size → w'.shape? b = w.shape? b)) [] .returning w3 := by
    intro w3 x hR4 hc4 ho4
    obtain ⟨fn, code, hfn, hbd, hnt, hst, hrv, hrs⟩ := isdAll.ex
    have efn : fn = Tryd.f23 := by
      have := hfn.symm.trans Tryd.func23
      simpa using this
    subst efn
    have hds : resDs fr (setH H2 2199810 [.int .i64 x]) resdAll = some [.int .i64 x] := by
      simp [resdAll, resDs, resD1, hf2, lkH_setH]
    obtain ⟨v, hrun, hV⟩ := results_run (P := fndAll.P) Tryd.f23 hR4 hrv hds hrs
    obtain ⟨L', g1, g2, g3, g4, g5, g6⟩ := R_project hR4 (fun o b' ho h1 => by
      show (if o = 2199810 then some b else if 1048576 ≤ o then L o else none) = some b'
      rw [if_neg (fun e => by rw [e, hLN] at ho; cases ho), if_pos h1]; exact ho) hH (RHm T d.toNat (j : Int) R0.length (recD R0)) (fun o _ h => by
        unfold RHm at h ⊢
        rw [lkH_two] at h ⊢
        split
        · rfl
        · rename_i e
          rw [if_neg e] at h
          split
          · rfl
          · rename_i e2; rw [if_neg e2] at h; cases h) (fun o c h => by
        unfold RHm at h
        rw [lkH_two] at h
        split at h
        · rename_i e
          subst e
          cases h
          refine ⟨_, by rw [lkH_setH, if_neg (by decide)]; exact hrc, map_rf _ (recD_rf R0)⟩
        · split at h
          · rename_i e
            subst e
            cases h
            refine ⟨_, by rw [lkH_setH, if_neg (by decide)]; exact hrd, ?_⟩
            simp only [List.map_cons, List.map_nil]
            rw [rn_rf _ (.str T) rfl, rn_rf _ (.int .u8 d.toNat) rfl, rn_rf _ (.int .i64 j) rfl, rn]
            rfl
          · cases h)
    refine ⟨v, hrun, v, L', .int .i64 x, _, ⟨j, R0, n, rfl, ?_⟩, rfl, g1, g6 _ _ hV, g2, g3, g4, g5⟩
    rcases ho4 with ⟨rfl, h⟩ | h
    · exact .inl ⟨rfl, h⟩
    · exact .inr ⟨x, rfl, h⟩
  subst hK
  have hinv : ∀ w, (invoke (.fn (.func 30) #[.pointer (some { block := b, off := 0 })]) #[]).run Tryd.prog w = .ok (.enter 30 #[.pointer (some ⟨b, 0, none⟩)]) w := fun w => by simp [go_sem]
  rcases hout with ⟨rfl, hpar⟩ | ⟨x, rfl, hpar⟩
  · cases e <;> simp only [er, Option.some.injEq, reduceCtorEq] at he
    show Leaves _ _ _ _ _ _ _
    rw [hdf]
    refine leaves_cons (by simp) (hinv _) ((catch_idle ⟨b, 0, none⟩ w2).mono ?_)
    rintro e u' w' ⟨rfl, rfl, rfl⟩
    refine hend w' 0 ?_ hcell (.inl ⟨rfl, hpar⟩)
    rw [show lkH (setH H2 2199810 [.int .i64 (0 : Nat)]) = lkH H2 from funext fun p => by
      rw [lkH_setH]
      by_cases ep : p = 2199810
      · rw [if_pos ep, ep, hN]; rfl
      · rw [if_neg ep]]
    exact hR3
  · cases e <;> simp only [er, Option.some.injEq, reduceCtorEq] at he
    cases he
    show Leaves _ _ _ _ _ _ _
    rw [hdf]
    refine leaves_cons (by simp) (hinv _) ((catch_panicking ⟨b, 0, none⟩ 0 x w2 hcell hfrz).mono ?_)
    rintro e u' w' ⟨rfl, rfl, w4, hx, rfl⟩
    refine hend _ x ?_ ?_ (.inr hpar)
    · rw [show lkH (setH H2 2199810 [.int .i64 (x : Nat)]) = Heap.upd (lkH H2) 2199810 (some [.int .i64 (x : Nat)]) from funext fun p => by
        rw [lkH_setH]; rfl]
      have hcb4 : w4.heap[b]? = some (.cells cs TT (0, 0)) := by rw [hx.block b (Array.getElem?_eq_some_iff.1 hcb).1 (fun h => h)]; exact hcb
      refine (hR3.still hx).write (cs' := cs.setIfInBounds 0 (.int .i64 (x : Int))) hb2 hcb4 (by simp) (by rw [Array.size_setIfInBounds]; exact hsz0) ?_ ((setCell_eq_setRow w4 b 0 cs TT (0, 0) _ hcb4).trans (setRow_eq hcb4))
      intro k d v h1 h2
      match k, h1 with
      | 0, h1 =>
        cases h1
        rw [Array.getElem?_setIfInBounds] at h2
        simp [hsz0] at h2
        subst h2
        exact .imm (.int _ _)
      | k + 1, h1 => simp at h1
    · have h5 : w4.cell? ⟨b, 0, none⟩ = w2.cell? ⟨b, 0, none⟩ := World.cell?_of_block (hx.block b (Array.getElem?_eq_some_iff.1 hcb).1 (fun h => h))
      exact World.cell?_setCell_same w4 ⟨b, 0, none⟩ _ (h5.trans hcell)
end Go.Proofs.YtgonkeglcehkeaaDoor
namespace Go.Proofs.YtgonkeglcehkeaaDoor
open Go Go.Dat Go.Proofs Go.RowKit Go.Shelf Nat32
theorem countByte_eq : ∀ (l : Bs) (c : UInt8), Lib.countByte l c = (l.count c : Nat) := fun l c => by
  simp [Lib.countByte]
theorem count_calls (s : Bs) : PCalls Tryd.prog 24 [.str s, .str [10]] (.int .i64 (nl s)) := by
  intro A w us hT hA hs hv
  obtain ⟨v0, hv0⟩ := exists_aget (l := us) (k := 0) (by rw [hs]; exact Nat.zero_lt_succ _)
  obtain ⟨v1, hv1⟩ := exists_aget (l := us) (k := 1) (by rw [hs]; exact Nat.lt_succ_self _)
  have e0 := (V.imm (L := fun _ => none) (hv 0 _ v0 rfl hv0)).inv_str
  have e1 := (V.imm (L := fun _ => none) (hv 1 _ v1 rfl hv1)).inv_str
  subst e0
  subst e1
  obtain rfl : us = #[.string ⟨s.toArray⟩, .string ⟨#[10]⟩] := by
    have h1 : us.size = 2 := by simpa using hs
    apply Array.ext_getElem?
    intro i
    match i with
    | 0 => rw [hv0]; rfl
    | 1 => rw [hv1]; rfl
    | i + 2 => rw [Array.getElem?_eq_none (by omega), Array.getElem?_eq_none (by simp)]
  refine (Tryd.strings_Count_one ⟨s.toArray⟩ 10 w).mono ?_
  rintro e w' ⟨rfl, rfl⟩
  refine ⟨_, rfl, ?_, Ext.refl _ _⟩
  rw [countByte_eq]
  exact .int _ _
theorem dec_lit (c : UInt8) (k : Nat) (hk : k < 256) : decide ((c.toNat : Int) = (k : Int)) = (c == UInt8.ofNat k) := by
  by_cases h : c = UInt8.ofNat k
  · subst h
    rw [beq_self_eq_true]
    simp; omega
  · rw [beq_eq_false_iff_ne.2 h]
    refine decide_eq_false fun e => h ?_
    have e2 : c.toNat = k := by omega
    rw [← e2]; simp
theorem del_calls (d : UInt8) : PCalls Tryd.prog 15 [.int .u8 d.toNat] (.bool (delB d)) := by
  have e44 := dec_lit d 44 (by omega)
  have e59 := dec_lit d 59 (by omega)
  have e9 := dec_lit d 9 (by omega)
  have e124 := dec_lit d 124 (by omega)
  refine PCalls_of isdDelim (by simp [fndDelim]) ?_
  unfold codedDelim
  have e44 : decide ((d.toNat : Int) = 44) = (d == 44) := e44
  have e59 : decide ((d.toNat : Int) = 59) = (d == 59) := e59
  have e9 : decide ((d.toNat : Int) = 9) = (d == 9) := e9
  have e124 : decide ((d.toNat : Int) = 124) = (d == 124) := e124
  unfold delB
  cases h1 : (d == 44) <;> cases h2 : (d == 59) <;> cases h3 : (d == 9) <;> cases h4 : (d == 124) <;> rw [h1] at e44 <;> rw [h2] at e59 <;> rw [h3] at e9 <;> rw [h4] at e124
  all_goals
    repeat (first | (refine W_seq ?_) | (refine W_reg ?_) | (refine W_regd ?_) | (refine W_regs ?_) | (refine W_block ?_) | (refine And.intro (by omega) ?_) | simp (maxSteps := 1000000) (disch := omega) only [cA, cB, lk, lkH, Dst.onT, Dst.onX, Dst.slot, setF, setH, mapF, mapH, initF, binE, unE, cnt, boundE, newsE, freshE, freshT, opE, rmH, blkQ, frz_us, Nat.reduceEqDiff, Nat.reduceLT, Nat.reduceAdd, Nat.reduceMul, Nat.reduceMod, ↓reduceIte, reduceCtorEq, Nat.reduceLeDiff, e44, e59, e9, e124])
    exact W_ret (RetP_1 (.imm rfl))
theorem recS_err (d : UInt8) : ∀ (m : Nat) (s : Bs) (e k : Nat), recS d (m + 1) s = .err e k → (e = 2 ∨ e = 3) ∧ k ≤ s.length
  | m, s, e, k, h => by
    rw [recS] at h
    cases hf : fieldS d s with
    | none => rw [hf] at h; cases h; exact ⟨.inr rfl, Nat.le_refl _⟩
    | some p =>
      obtain ⟨f, l⟩ := p
      rw [hf] at h
      simp only at h
      have h1 := (fieldS_le hf).1
      split at h
      · cases h
      · rename_i hn
        have hl : l < s.length := by
          apply Classical.byContradiction
          intro hc
          exact hn (.inl (List.drop_eq_nil_of_le (by omega)))
        split at h
        · cases h; exact ⟨.inr rfl, by omega⟩
        · split at h
          · cases h; exact ⟨.inl rfl, by omega⟩
          · rename_i hm
            obtain ⟨m', rfl⟩ : ∃ m', m = m' + 1 := ⟨m - 1, by omega⟩
            cases hr : recS d (m' + 1) (s.drop (l + 1)) with
            | ok gs q => rw [hr] at h; cases h
            | err e' q =>
              rw [hr] at h
              obtain ⟨h2, h3⟩ := recS_err d m' _ _ _ hr
              rw [List.length_drop] at h3
              simp only [RS.mv] at h
              cases h
              exact ⟨h2, by omega⟩
theorem parS_err' (d : UInt8) : ∀ (m : Nat) (s : Bs) (e k : Nat), parS d m s = .err e k → (e = 2 ∨ e = 3) ∧ k ≤ s.length
  | 0, s, e, k, h => by
    rw [parS] at h
    split at h
    · cases h
    · cases h; exact ⟨.inl rfl, Nat.zero_le _⟩
  | m + 1, s, e, k, h => by
    rw [parS] at h
    split at h
    · cases h
    · cases hr : recS d 32 s with
      | err e' q => rw [hr] at h; cases h; exact recS_err d 31 _ _ _ hr
      | ok fs q =>
        rw [hr] at h
        simp only at h
        cases hp : parS d m (s.drop q) with
        | ok gs q => rw [hp] at h; cases h
        | err e' q' =>
          rw [hp] at h
          obtain ⟨h2, h3⟩ := parS_err' d m _ _ _ hp
          have := recS_le' d 32 _ _ _ hr
          rw [List.length_drop] at h3
          cases h
          exact ⟨h2, by omega⟩
theorem parS_err {d : UInt8} {m : Nat} (s : Bs) {e : Nat} (k : Nat) (h : parS d m s = .err e k) : (e = 2 ∨ e = 3) ∧ k ≤ s.length := parS_err' d m s e k h
set_option maxHeartbeats 8000000 in
set_option maxRecDepth 10000 in
theorem parse_calls (T : Bs) (d : UInt8) : PCalls Tryd.prog 11 [.str T, .int .u8 d.toNat] (dpD T d) := by
  have cd := del_calls d
  refine PCalls_of isdParse (by simp [fndParse]) ?_
  unfold codedParse dpD
  by_cases hd : delB d = false
  · rw [if_pos hd]
    rw [hd] at cd
    repeat (first | (refine W_seq ?_) | (refine W_reg ?_) | (refine W_regd ?_) | (refine W_regs ?_) | (refine W_block ?_) | (refine And.intro (by omega) ?_) | simp (maxSteps := 1000000) (disch := omega) only [cA, cB, lk, lkH, Dst.onT, Dst.onX, Dst.slot, setF, setH, mapF, mapH, initF, binE, unE, cnt, boundE, newsE, freshE, freshT, opE, rmH, blkQ, frz_us, Nat.reduceEqDiff, Nat.reduceLT, Nat.reduceAdd, Nat.reduceMul, Nat.reduceMod, ↓reduceIte, reduceCtorEq, Nat.reduceLeDiff] | (refine callC_pure (cd) rfl ?_) | exact W_ret (RetP_1 (.imm rfl)) | exact W_ret (RetP_c rfl rfl rfl (.imm rfl)))
    refine W_cond rfl (fun _ => ?_) (fun h => by cases h)
    repeat (first | (refine W_seq ?_) | (refine W_reg ?_) | (refine W_regd ?_) | (refine W_regs ?_) | (refine W_block ?_) | (refine And.intro (by omega) ?_) | simp (maxSteps := 1000000) (disch := omega) only [cA, cB, lk, lkH, Dst.onT, Dst.onX, Dst.slot, setF, setH, mapF, mapH, initF, binE, unE, cnt, boundE, newsE, freshE, freshT, opE, rmH, blkQ, frz_us, Nat.reduceEqDiff, Nat.reduceLT, Nat.reduceAdd, Nat.reduceMul, Nat.reduceMod, ↓reduceIte, reduceCtorEq, Nat.reduceLeDiff])
    exact W_ret (RetP_3 (.imm rfl) (.imm rfl) (.imm rfl))
  · rw [if_neg hd]
    have hd : delB d = true := by simpa using hd
    rw [hd] at cd
    repeat (first | (refine W_seq ?_) | (refine W_reg ?_) | (refine W_regd ?_) | (refine W_regs ?_) | (refine W_block ?_) | (refine And.intro (by omega) ?_) | simp (maxSteps := 1000000) (disch := omega) only [cA, cB, lk, lkH, Dst.onT, Dst.onX, Dst.slot, setF, setH, mapF, mapH, initF, binE, unE, cnt, boundE, newsE, freshE, freshT, opE, rmH, blkQ, frz_us, Nat.reduceEqDiff, Nat.reduceLT, Nat.reduceAdd, Nat.reduceMul, Nat.reduceMod, ↓reduceIte, reduceCtorEq, Nat.reduceLeDiff] | (refine callC_pure (cd) rfl ?_) | exact W_ret (RetP_1 (.imm rfl)) | exact W_ret (RetP_c rfl rfl rfl (.imm rfl)))
    refine W_cond rfl (fun h => by cases h) (fun _ => W_skip ?_)
    by_cases hl : 65536 < T.length
    · have dl : decide ((65536 : Int) < (T.length : Int)) = true := decide_eq_true (by omega)
      rw [if_pos hl]
      repeat (first | (refine W_seq ?_) | (refine W_reg ?_) | (refine W_regd ?_) | (refine W_regs ?_) | (refine W_block ?_) | (refine And.intro (by omega) ?_) | simp (maxSteps := 1000000) (disch := omega) only [cA, cB, lk, lkH, Dst.onT, Dst.onX, Dst.slot, setF, setH, mapF, mapH, initF, binE, unE, cnt, boundE, newsE, freshE, freshT, opE, rmH, blkQ, frz_us, Nat.reduceEqDiff, Nat.reduceLT, Nat.reduceAdd, Nat.reduceMul, Nat.reduceMod, ↓reduceIte, reduceCtorEq, Nat.reduceLeDiff, dl])
      refine W_cond rfl (fun _ => ?_) (fun h => by cases h)
      repeat (first | (refine W_seq ?_) | (refine W_reg ?_) | (refine W_regd ?_) | (refine W_regs ?_) | (refine W_block ?_) | (refine And.intro (by omega) ?_) | simp (maxSteps := 1000000) (disch := omega) only [cA, cB, lk, lkH, Dst.onT, Dst.onX, Dst.slot, setF, setH, mapF, mapH, initF, binE, unE, cnt, boundE, newsE, freshE, freshT, opE, rmH, blkQ, frz_us, Nat.reduceEqDiff, Nat.reduceLT, Nat.reduceAdd, Nat.reduceMul, Nat.reduceMod, ↓reduceIte, reduceCtorEq, Nat.reduceLeDiff])
      exact W_ret (RetP_3 (.imm rfl) (.imm rfl) (.imm rfl))
    · have dl : decide ((65536 : Int) < (T.length : Int)) = false := decide_eq_false (by omega)
      rw [if_neg hl]
      repeat (first | (refine W_seq ?_) | (refine W_reg ?_) | (refine W_regd ?_) | (refine W_regs ?_) | (refine W_block ?_) | (refine And.intro (by omega) ?_) | simp (maxSteps := 1000000) (disch := omega) only [cA, cB, lk, lkH, Dst.onT, Dst.onX, Dst.slot, setF, setH, mapF, mapH, initF, binE, unE, cnt, boundE, newsE, freshE, freshT, opE, rmH, blkQ, frz_us, Nat.reduceEqDiff, Nat.reduceLT, Nat.reduceAdd, Nat.reduceMul, Nat.reduceMod, ↓reduceIte, reduceCtorEq, Nat.reduceLeDiff, dl])
      refine W_cond rfl (fun h => by cases h) (fun _ => W_skip ?_)
      repeat (first | (refine W_seq ?_) | (refine W_reg ?_) | (refine W_regd ?_) | (refine W_regs ?_) | (refine W_block ?_) | (refine And.intro (by omega) ?_) | simp (maxSteps := 1000000) (disch := omega) only [cA, cB, lk, lkH, Dst.onT, Dst.onX, Dst.slot, setF, setH, mapF, mapH, initF, binE, unE, cnt, boundE, newsE, freshE, freshT, opE, rmH, blkQ, frz_us, Nat.reduceEqDiff, Nat.reduceLT, Nat.reduceAdd, Nat.reduceMul, Nat.reduceMod, ↓reduceIte, reduceCtorEq, Nat.reduceLeDiff])
      simp (maxSteps := 1000000) (disch := omega) only [cA, cB, lk, lkH, Dst.onT, Dst.onX, Dst.slot, setF, setH, mapF, mapH, initF, binE, unE, cnt, boundE, newsE, freshE, freshT, opE, rmH, blkQ, frz_us, Nat.reduceEqDiff, Nat.reduceLT, Nat.reduceAdd, Nat.reduceMul, Nat.reduceMod, ↓reduceIte, reduceCtorEq, Nat.reduceLeDiff, cS, nbdParse]
      refine W_ownc (cells := [.str T, .int .u8 d.toNat, .int .i64 0, .nils]) 18 3 1 48 rfl rfl rfl ?_
      simp (maxSteps := 1000000) (disch := omega) only [cA, cB, lk, lkH, Dst.onT, Dst.onX, Dst.slot, setF, setH, mapF, mapH, initF, binE, unE, cnt, boundE, newsE, freshE, freshT, opE, rmH, blkQ, frz_us, Nat.reduceEqDiff, Nat.reduceLT, Nat.reduceAdd, Nat.reduceMul, Nat.reduceMod, ↓reduceIte, reduceCtorEq, Nat.reduceLeDiff, setH]
      repeat (first | (refine W_seq ?_) | (refine W_reg ?_) | (refine W_regd ?_) | (refine W_regs ?_) | (refine W_block ?_) | (refine And.intro (by omega) ?_) | simp (maxSteps := 1000000) (disch := omega) only [cA, cB, lk, lkH, Dst.onT, Dst.onX, Dst.slot, setF, setH, mapF, mapH, initF, binE, unE, cnt, boundE, newsE, freshE, freshT, opE, rmH, blkQ, frz_us, Nat.reduceEqDiff, Nat.reduceLT, Nat.reduceAdd, Nat.reduceMul, Nat.reduceMod, ↓reduceIte, reduceCtorEq, Nat.reduceLeDiff])
      have hne : (18 : Nat) ≠ 48 := by decide
      have hne2 : (1048576 : Nat) ≠ 1000000 := by decide
      refine callC_rel rfl (fw2 18 1048576 48 1000000) (fw2 1048576 18 1000000 48) (fw2_fb hne hne2) (fun p q h hh => ?_) (fun p q h => ?_) (fun q => ?_) (all_calls T d (by omega)) ?_
      · unfold fw2 at h
        split at h
        · omega
        · split at h
          · omega
          · cases h
      · unfold fw2 at h
        split at h
        · rename_i e; cases h; rw [e]; exact tyNo.eq (.inl (by decide)) (.inr ⟨by decide, by decide⟩)
        · split at h
          · rename_i e; cases h; rw [e]; exact tyNo.eq (.inl (by decide)) (.inr ⟨by decide, by decide⟩)
          · cases h
      · simp only [RHm, lkH_two]
        by_cases e : q = 1000000
        · subst e; rfl
        · rw [if_neg (Ne.symm e)]
          by_cases e2 : q = 1048576
          · subst e2; rfl
          · rw [if_neg (Ne.symm e2)]
            have : fw2 1048576 18 1000000 48 q = none := by unfold fw2; rw [if_neg e2, if_neg e]
            rw [this]; rfl
      · rintro r Hc' ⟨j, R, n, rfl, hout⟩
        have hb : ∀ q, fw2 1048576 18 1000000 48 q = if q = 1048576 then some 18 else if q = 1000000 then some 48 else none := fun q => rfl
        refine ⟨[(18, [.str T, .int .u8 d.toNat, .int .i64 (j : Int), .osl 1 48 0 R.length]), (48, recD R)], fun p => ?_, ?_⟩
        · simp only [lkH_two]
          by_cases e : p = 18
          · subst e
            show _ = (lkH (RHm T d.toNat j R.length (recD R)) 1048576).map _
            simp only [RHm, lkH_two]
            rw [if_pos trivial, if_neg (by decide), if_pos trivial]
            simp only [Option.map_some, List.map_cons, List.map_nil]
            rw [rn_rf _ (.str T) rfl, rn_rf _ (.int .u8 d.toNat) rfl, rn_rf _ (.int .i64 j) rfl, rn]
            rfl
          · rw [if_neg (Ne.symm e)]
            by_cases e2 : p = 48
            · subst e2
              show _ = (lkH (RHm T d.toNat j R.length (recD R)) 1000000).map _
              simp only [RHm, lkH_two]
              rw [if_pos trivial, if_pos trivial, Option.map_some, map_rf _ (recD_rf R)]
            · rw [if_neg (Ne.symm e2)]
              have : fw2 18 1048576 48 1000000 p = none := by unfold fw2; rw [if_neg e, if_neg e2]
              rw [this, if_neg (Ne.symm e), if_neg (Ne.symm e2)]; rfl
        · have hpg : pgN [(18, [DV.str T, .int .u8 d.toNat, .int .i64 0, .osl 1 48 0 0]), (48, [])] (fw2 18 1048576 48 1000000) 18 = some 18 := rfl
          rcases hout with ⟨rfl, hpar⟩ | ⟨x, rfl, hpar⟩
          · rw [hpar]
            simp only [mapF, List.map_cons, List.map_nil, rn, hpg]
            repeat (first | (refine W_seq ?_) | (refine W_reg ?_) | (refine W_regd ?_) | (refine W_regs ?_) | (refine W_block ?_) | (refine And.intro (by omega) ?_) | simp (maxSteps := 1000000) (disch := omega) only [cA, cB, lk, lkH, Dst.onT, Dst.onX, Dst.slot, setF, setH, mapF, mapH, initF, binE, unE, cnt, boundE, newsE, freshE, freshT, opE, rmH, blkQ, frz_us, Nat.reduceEqDiff, Nat.reduceLT, Nat.reduceAdd, Nat.reduceMul, Nat.reduceMod, ↓reduceIte, reduceCtorEq, Nat.reduceLeDiff])
            refine W_cond rfl (fun h => by cases h) (fun _ => W_skip ?_)
            refine W_freeze 48 (cells := recD R) rfl (List.all_eq_true.2 (recD_rf _)) ?_
            have hfz : frz 48 (recD R) (.osl 1 48 0 R.length) = .sl 1 (recD R) := by
              have := recD_len R
              simp only [frz, if_true, Nat.zero_add, List.drop_zero, Nat.mul_one]
              rw [if_pos (by omega), List.take_of_length_le (Nat.le_of_eq this)]
            repeat (first | (refine W_seq ?_) | (refine W_reg ?_) | (refine W_regd ?_) | (refine W_regs ?_) | (refine W_block ?_) | (refine And.intro (by omega) ?_) | simp (maxSteps := 1000000) (disch := omega) only [cA, cB, lk, lkH, Dst.onT, Dst.onX, Dst.slot, setF, setH, mapF, mapH, initF, binE, unE, cnt, boundE, newsE, freshE, freshT, opE, rmH, blkQ, frz_us, Nat.reduceEqDiff, Nat.reduceLT, Nat.reduceAdd, Nat.reduceMul, Nat.reduceMod, ↓reduceIte, reduceCtorEq, Nat.reduceLeDiff, hfz, frz_ptr_ne])
            exact W_ret (RetP_3 (.imm rfl) (.imm rfl) (.imm rfl))
          · rw [hpar]
            obtain ⟨hx, hj⟩ := parS_err _ _ hpar
            have dx : decide (¬ (x : Int) = 0) = true := decide_eq_true (by omega)
            have cc := count_calls (T.take j)
            have hnl : nl (T.take j) ≤ 65536 := by
              have h1 : nl (T.take j) ≤ (T.take j).length := List.count_le_length
              rw [List.length_take] at h1
              omega
            have e1 : ((1 + nl (T.take j) : Nat) : Int) = 1 + (nl (T.take j) : Int) := by omega
            simp only [mapF, List.map_cons, List.map_nil, rn, hpg]
            repeat (first | (refine W_seq ?_) | (refine W_reg ?_) | (refine W_regd ?_) | (refine W_regs ?_) | (refine W_block ?_) | (refine And.intro (by omega) ?_) | simp (maxSteps := 1000000) (disch := omega) only [cA, cB, lk, lkH, Dst.onT, Dst.onX, Dst.slot, setF, setH, mapF, mapH, initF, binE, unE, cnt, boundE, newsE, freshE, freshT, opE, rmH, blkQ, frz_us, Nat.reduceEqDiff, Nat.reduceLT, Nat.reduceAdd, Nat.reduceMul, Nat.reduceMod, ↓reduceIte, reduceCtorEq, Nat.reduceLeDiff, dx] | (refine callC_pure (cc) rfl ?_) | exact W_ret (RetP_1 (.imm rfl)) | exact W_ret (RetP_c rfl rfl rfl (.imm rfl)))
            refine W_cond rfl (fun _ => ?_) (fun h => by cases h)
            repeat (first | (refine W_seq ?_) | (refine W_reg ?_) | (refine W_regd ?_) | (refine W_regs ?_) | (refine W_block ?_) | (refine And.intro (by omega) ?_) | simp (maxSteps := 1000000) (disch := omega) only [cA, cB, lk, lkH, Dst.onT, Dst.onX, Dst.slot, setF, setH, mapF, mapH, initF, binE, unE, cnt, boundE, newsE, freshE, freshT, opE, rmH, blkQ, frz_us, Nat.reduceEqDiff, Nat.reduceLT, Nat.reduceAdd, Nat.reduceMul, Nat.reduceMod, ↓reduceIte, reduceCtorEq, Nat.reduceLeDiff, dx, e1] | (refine callC_pure (cc) rfl ?_) | exact W_ret (RetP_1 (.imm rfl)) | exact W_ret (RetP_c rfl rfl rfl (.imm rfl)))
            exact W_ret (RetP_3 (.imm rfl) (.imm rfl) (.imm rfl))
end Go.Proofs.YtgonkeglcehkeaaDoor
namespace Go.Proofs.YtgonkeglcehkeaaDoor
open Go Go.Dat Go.Proofs Go.RowKit Go.Shelf Nat32
theorem strL_getD (r : List Bs) (i : Nat) (h : i < r.length) : (strL r).getD i .undef = .str (r.getD i []) := by
  unfold strL
  simp [List.getD_eq_getElem?_getD, List.getElem?_eq_getElem h]
theorem recD_getD (r : List (List Bs)) (i : Nat) (h : i < r.length) : (recD r).getD i .undef = .sl 1 (strL (r.getD i [])) := by
  unfold recD
  simp [List.getD_eq_getElem?_getD, List.getElem?_eq_getElem h]
set_option maxRecDepth 10000 in
theorem samel_calls (r : List Bs) (hr : r.length ≤ 65536) : PCalls Tryd.prog 14 [.sl 1 (strL r), .sl 1 (strL r)] (.bool true) := by
  have hl := strL_len r
  refine PCalls_of isfSameList (by simp [fnfSameList]) ?_
  unfold codefSameList
  have d0 : decide (¬ (r.length : Int) = (r.length : Int)) = false := by simp
  repeat (first | (refine W_seq ?_) | (refine W_reg ?_) | (refine W_regd ?_) | (refine W_regs ?_) | (refine W_block ?_) | (refine And.intro (by omega) ?_) | simp (maxSteps := 1000000) (disch := omega) only [cA, cB, lk, lkH, Dst.onT, Dst.onX, Dst.slot, setF, setH, mapF, mapH, initF, binE, unE, cnt, boundE, newsE, freshE, freshT, opE, rmH, blkQ, frz_us, Nat.reduceEqDiff, Nat.reduceLT, Nat.reduceAdd, Nat.reduceMul, Nat.reduceMod, ↓reduceIte, reduceCtorEq, Nat.reduceLeDiff, hl, d0])
  refine W_cond rfl (fun h => by cases h) (fun _ => W_skip ?_)
  repeat (first | (refine W_seq ?_) | (refine W_reg ?_) | (refine W_regd ?_) | (refine W_regs ?_) | (refine W_block ?_) | (refine And.intro (by omega) ?_) | simp (maxSteps := 1000000) (disch := omega) only [cA, cB, lk, lkH, Dst.onT, Dst.onX, Dst.slot, setF, setH, mapF, mapH, initF, binE, unE, cnt, boundE, newsE, freshE, freshT, opE, rmH, blkQ, frz_us, Nat.reduceEqDiff, Nat.reduceLT, Nat.reduceAdd, Nat.reduceMul, Nat.reduceMod, ↓reduceIte, reduceCtorEq, Nat.reduceLeDiff, hl])
  refine W_loop (σ := Nat) (fun i => [(0, .sl 1 (strL r)), (1, .sl 1 (strL r)), (4, .bool false), (5, .int .i64 i)]) (fun _ => []) (fun i => i ≤ r.length) (fun i => r.length - i) 0 (Nat.zero_le _) ?_ rfl ?_
  · simp [subF, lk]
  · intro i hi
    try simp only at hi ⊢
    by_cases hlt : i < r.length
    · have d1 : decide ((i : Int) < (r.length : Int)) = true := decide_eq_true (by omega)
      have hg := strL_getD r i hlt
      repeat (first | (refine W_seq ?_) | (refine W_reg ?_) | (refine W_regd ?_) | (refine W_regs ?_) | (refine W_block ?_) | (refine And.intro (by omega) ?_) | simp (maxSteps := 1000000) (disch := omega) only [cA, cB, lk, lkH, Dst.onT, Dst.onX, Dst.slot, setF, setH, mapF, mapH, initF, binE, unE, cnt, boundE, newsE, freshE, freshT, opE, rmH, blkQ, frz_us, Nat.reduceEqDiff, Nat.reduceLT, Nat.reduceAdd, Nat.reduceMul, Nat.reduceMod, ↓reduceIte, reduceCtorEq, Nat.reduceLeDiff, hl, d1])
      refine W_cond rfl (fun _ => W_skip ?_) (fun h => by cases h)
      repeat (first | (refine W_seq ?_) | (refine W_reg ?_) | (refine W_regd ?_) | (refine W_regs ?_) | (refine W_block ?_) | (refine And.intro (by omega) ?_) | simp (maxSteps := 1000000) (disch := omega) only [cA, cB, lk, lkH, Dst.onT, Dst.onX, Dst.slot, setF, setH, mapF, mapH, initF, binE, unE, cnt, boundE, newsE, freshE, freshT, opE, rmH, blkQ, frz_us, Nat.reduceEqDiff, Nat.reduceLT, Nat.reduceAdd, Nat.reduceMul, Nat.reduceMod, ↓reduceIte, reduceCtorEq, Nat.reduceLeDiff, hl, hg])
      refine W_cond (b := false) (by simp [ev, lk]) (fun h => by cases h) (fun _ => W_skip ?_)
      repeat (first | (refine W_seq ?_) | (refine W_reg ?_) | (refine W_regd ?_) | (refine W_regs ?_) | (refine W_block ?_) | (refine And.intro (by omega) ?_) | simp (maxSteps := 1000000) (disch := omega) only [cA, cB, lk, lkH, Dst.onT, Dst.onX, Dst.slot, setF, setH, mapF, mapH, initF, binE, unE, cnt, boundE, newsE, freshE, freshT, opE, rmH, blkQ, frz_us, Nat.reduceEqDiff, Nat.reduceLT, Nat.reduceAdd, Nat.reduceMul, Nat.reduceMod, ↓reduceIte, reduceCtorEq, Nat.reduceLeDiff])
      exact ⟨i + 1, by omega, by omega, by simp [subF, lk]⟩
    · have d1 : decide ((i : Int) < (r.length : Int)) = false := decide_eq_false (by omega)
      repeat (first | (refine W_seq ?_) | (refine W_reg ?_) | (refine W_regd ?_) | (refine W_regs ?_) | (refine W_block ?_) | (refine And.intro (by omega) ?_) | simp (maxSteps := 1000000) (disch := omega) only [cA, cB, lk, lkH, Dst.onT, Dst.onX, Dst.slot, setF, setH, mapF, mapH, initF, binE, unE, cnt, boundE, newsE, freshE, freshT, opE, rmH, blkQ, frz_us, Nat.reduceEqDiff, Nat.reduceLT, Nat.reduceAdd, Nat.reduceMul, Nat.reduceMod, ↓reduceIte, reduceCtorEq, Nat.reduceLeDiff, hl, d1])
      refine W_cond rfl (fun h => by cases h) (fun _ => ?_)
      refine W_exit ?_
      repeat (first | (refine W_seq ?_) | (refine W_reg ?_) | (refine W_regd ?_) | (refine W_regs ?_) | (refine W_block ?_) | (refine And.intro (by omega) ?_) | simp (maxSteps := 1000000) (disch := omega) only [cA, cB, lk, lkH, Dst.onT, Dst.onX, Dst.slot, setF, setH, mapF, mapH, initF, binE, unE, cnt, boundE, newsE, freshE, freshT, opE, rmH, blkQ, frz_us, Nat.reduceEqDiff, Nat.reduceLT, Nat.reduceAdd, Nat.reduceMul, Nat.reduceMod, ↓reduceIte, reduceCtorEq, Nat.reduceLeDiff])
      exact W_ret (RetP_1 (.imm rfl))
set_option maxRecDepth 10000 in
theorem same_calls (r : List (List Bs)) (hr : r.length ≤ 65536) (hr2 : ∀ x ∈ r, x.length ≤ 65536) : PCalls Tryd.prog 12 [.sl 1 (recD r), .sl 1 (recD r)] (.bool true) := by
  have hl := recD_len r
  refine PCalls_of isfSame (by simp [fnfSame]) ?_
  unfold codefSame
  have d0 : decide (¬ (r.length : Int) = (r.length : Int)) = false := by simp
  repeat (first | (refine W_seq ?_) | (refine W_reg ?_) | (refine W_regd ?_) | (refine W_regs ?_) | (refine W_block ?_) | (refine And.intro (by omega) ?_) | simp (maxSteps := 1000000) (disch := omega) only [cA, cB, lk, lkH, Dst.onT, Dst.onX, Dst.slot, setF, setH, mapF, mapH, initF, binE, unE, cnt, boundE, newsE, freshE, freshT, opE, rmH, blkQ, frz_us, Nat.reduceEqDiff, Nat.reduceLT, Nat.reduceAdd, Nat.reduceMul, Nat.reduceMod, ↓reduceIte, reduceCtorEq, Nat.reduceLeDiff, hl, d0])
  refine W_cond rfl (fun h => by cases h) (fun _ => W_skip ?_)
  repeat (first | (refine W_seq ?_) | (refine W_reg ?_) | (refine W_regd ?_) | (refine W_regs ?_) | (refine W_block ?_) | (refine And.intro (by omega) ?_) | simp (maxSteps := 1000000) (disch := omega) only [cA, cB, lk, lkH, Dst.onT, Dst.onX, Dst.slot, setF, setH, mapF, mapH, initF, binE, unE, cnt, boundE, newsE, freshE, freshT, opE, rmH, blkQ, frz_us, Nat.reduceEqDiff, Nat.reduceLT, Nat.reduceAdd, Nat.reduceMul, Nat.reduceMod, ↓reduceIte, reduceCtorEq, Nat.reduceLeDiff, hl])
  refine W_loop (σ := Nat) (fun i => [(0, .sl 1 (recD r)), (1, .sl 1 (recD r)), (4, .bool false), (5, .int .i64 i)]) (fun _ => []) (fun i => i ≤ r.length) (fun i => r.length - i) 0 (Nat.zero_le _) ?_ rfl ?_
  · simp [subF, lk]
  · intro i hi
    try simp only at hi ⊢
    by_cases hlt : i < r.length
    · have d1 : decide ((i : Int) < (r.length : Int)) = true := decide_eq_true (by omega)
      have hg := recD_getD r i hlt
      have hm : r.getD i [] ∈ r := by rw [List.getD_eq_getElem?_getD, List.getElem?_eq_getElem hlt]; exact List.getElem_mem hlt
      have cs := samel_calls (r.getD i []) (hr2 _ hm)
      repeat (first | (refine W_seq ?_) | (refine W_reg ?_) | (refine W_regd ?_) | (refine W_regs ?_) | (refine W_block ?_) | (refine And.intro (by omega) ?_) | simp (maxSteps := 1000000) (disch := omega) only [cA, cB, lk, lkH, Dst.onT, Dst.onX, Dst.slot, setF, setH, mapF, mapH, initF, binE, unE, cnt, boundE, newsE, freshE, freshT, opE, rmH, blkQ, frz_us, Nat.reduceEqDiff, Nat.reduceLT, Nat.reduceAdd, Nat.reduceMul, Nat.reduceMod, ↓reduceIte, reduceCtorEq, Nat.reduceLeDiff, hl, d1] | (refine callC_pure (cs) rfl ?_) | exact W_ret (RetP_1 (.imm rfl)) | exact W_ret (RetP_c rfl rfl rfl (.imm rfl)))
      refine W_cond rfl (fun _ => W_skip ?_) (fun h => by cases h)
      repeat (first | (refine W_seq ?_) | (refine W_reg ?_) | (refine W_regd ?_) | (refine W_regs ?_) | (refine W_block ?_) | (refine And.intro (by omega) ?_) | simp (maxSteps := 1000000) (disch := omega) only [cA, cB, lk, lkH, Dst.onT, Dst.onX, Dst.slot, setF, setH, mapF, mapH, initF, binE, unE, cnt, boundE, newsE, freshE, freshT, opE, rmH, blkQ, frz_us, Nat.reduceEqDiff, Nat.reduceLT, Nat.reduceAdd, Nat.reduceMul, Nat.reduceMod, ↓reduceIte, reduceCtorEq, Nat.reduceLeDiff, hl, hg] | (refine callC_pure (cs) rfl ?_) | exact W_ret (RetP_1 (.imm rfl)) | exact W_ret (RetP_c rfl rfl rfl (.imm rfl)))
      refine W_cond rfl (fun h => by cases h) (fun _ => W_skip ?_)
      repeat (first | (refine W_seq ?_) | (refine W_reg ?_) | (refine W_regd ?_) | (refine W_regs ?_) | (refine W_block ?_) | (refine And.intro (by omega) ?_) | simp (maxSteps := 1000000) (disch := omega) only [cA, cB, lk, lkH, Dst.onT, Dst.onX, Dst.slot, setF, setH, mapF, mapH, initF, binE, unE, cnt, boundE, newsE, freshE, freshT, opE, rmH, blkQ, frz_us, Nat.reduceEqDiff, Nat.reduceLT, Nat.reduceAdd, Nat.reduceMul, Nat.reduceMod, ↓reduceIte, reduceCtorEq, Nat.reduceLeDiff])
      exact ⟨i + 1, by omega, by omega, by simp [subF, lk]⟩
    · have d1 : decide ((i : Int) < (r.length : Int)) = false := decide_eq_false (by omega)
      repeat (first | (refine W_seq ?_) | (refine W_reg ?_) | (refine W_regd ?_) | (refine W_regs ?_) | (refine W_block ?_) | (refine And.intro (by omega) ?_) | simp (maxSteps := 1000000) (disch := omega) only [cA, cB, lk, lkH, Dst.onT, Dst.onX, Dst.slot, setF, setH, mapF, mapH, initF, binE, unE, cnt, boundE, newsE, freshE, freshT, opE, rmH, blkQ, frz_us, Nat.reduceEqDiff, Nat.reduceLT, Nat.reduceAdd, Nat.reduceMul, Nat.reduceMod, ↓reduceIte, reduceCtorEq, Nat.reduceLeDiff, hl, d1])
      refine W_cond rfl (fun h => by cases h) (fun _ => ?_)
      refine W_exit ?_
      repeat (first | (refine W_seq ?_) | (refine W_reg ?_) | (refine W_regd ?_) | (refine W_regs ?_) | (refine W_block ?_) | (refine And.intro (by omega) ?_) | simp (maxSteps := 1000000) (disch := omega) only [cA, cB, lk, lkH, Dst.onT, Dst.onX, Dst.slot, setF, setH, mapF, mapH, initF, binE, unE, cnt, boundE, newsE, freshE, freshT, opE, rmH, blkQ, frz_us, Nat.reduceEqDiff, Nat.reduceLT, Nat.reduceAdd, Nat.reduceMul, Nat.reduceMod, ↓reduceIte, reduceCtorEq, Nat.reduceLeDiff])
      exact W_ret (RetP_1 (.imm rfl))
theorem awk1 : dpD [97, 44, 34, 98, 32, 34, 34, 99, 34, 34, 10, 34, 44, 10] 44 = .tup [.sl 1 (recD [[[97], [98, 32, 34, 99, 34, 10], []]]), .int .i64 (0 : Nat), .int .i64 (0 : Nat)] := by rfl
theorem awk2 : dpD [97, 34, 98] 44 = .tup [.nils, .int .i64 (1 : Nat), .int .i64 (3 : Nat)] := by rfl
end Go.Proofs.YtgonkeglcehkeaaDoor
namespace Go.Proofs.YtgonkeglcehkeaaDoor
open Go Go.Dat Go.Proofs Go.RowKit Go.Shelf Nat32
set_option maxHeartbeats 4000000 in
set_option maxRecDepth 10000 in
theorem awake_calls : PCalls Tryd.prog 8 [] (.bool true) := by
  have c1 : PCalls Tryd.prog 11 [.str [97, 44, 34, 98, 32, 34, 34, 99, 34, 34, 10, 34, 44, 10], .int .u8 44] (.tup [.sl 1 [.sl 1 [.str [97], .str [98, 32, 34, 99, 34, 10], .str []]], .int .i64 0, .int .i64 0]) := awk1 ▸ parse_calls [97, 44, 34, 98, 32, 34, 34, 99, 34, 34, 10, 34, 44, 10] 44
  have c2 : PCalls Tryd.prog 11 [.str [97, 34, 98], .int .u8 44] (.tup [.nils, .int .i64 1, .int .i64 3]) := awk2 ▸ parse_calls [97, 34, 98] 44
  have c3 : PCalls Tryd.prog 14 [.sl 1 [.str [97], .str [98, 32, 34, 99, 34, 10], .str []], .sl 1 [.str [97], .str [98, 32, 34, 99, 34, 10], .str []]] (.bool true) := samel_calls [[97], [98, 32, 34, 99, 34, 10], []] (by decide)
  refine PCalls_of isldAwake (by simp [fnldAwake]) ?_
  unfold codeldAwake
  have d11 : decide (((1 : Nat) : Int) = 1) = true := rfl
  repeat (first | (refine W_seq ?_) | (refine W_reg ?_) | (refine W_regd ?_) | (refine W_regs ?_) | (refine W_block ?_) | (refine And.intro (by omega) ?_) | simp (maxSteps := 1000000) (disch := omega) only [cA, cB, lk, lkH, Dst.onT, Dst.onX, Dst.slot, setF, setH, mapF, mapH, initF, binE, unE, cnt, boundE, newsE, freshE, freshT, opE, rmH, blkQ, frz_us, Nat.reduceEqDiff, Nat.reduceLT, Nat.reduceAdd, Nat.reduceMul, Nat.reduceMod, ↓reduceIte, reduceCtorEq, Nat.reduceLeDiff, cS, true_and, DV.rf, decide_true, List.length_cons, List.length_nil, d11, List.getD_cons_zero, List.mem_cons, List.not_mem_nil, or_false, forall_eq_or_imp, forall_eq, and_self] | (refine callC_pure (c1) rfl ?_) | (refine callC_pure (c2) rfl ?_) | (refine callC_pure (c3) rfl ?_) | exact W_ret (RetP_1 (.imm rfl)) | exact W_ret (RetP_c rfl rfl rfl (.imm rfl)))
end Go.Proofs.YtgonkeglcehkeaaDoor
namespace Go.Proofs.YtgonkeglcehkeaaDoor
open Go Go.Dat Go.Proofs Go.RowKit Go.Shelf Nat32
theorem any_take {α : Type} (p : α → Bool) (R : List α) (z : α) {i : Nat} (hi : i < R.length) (h : p (R.getD i z) = true) : R.any p = true := by
  rw [List.any_eq_true]
  refine ⟨R.getD i z, ?_, h⟩
  rw [List.getD_eq_getElem?_getD, List.getElem?_eq_getElem hi]
  exact List.getElem_mem hi
end Go.Proofs.YtgonkeglcehkeaaDoor
namespace Go.Proofs.YtgonkeglcehkeaaDoor
open Go Go.Dat Go.Proofs Go.RowKit Go.Shelf Nat32
theorem needQ_set (d : UInt8) (s : Bs) : s.any (fun b => ([34, 13, 10, d] : Bs).contains b) = needQ d s := by
  unfold needQ
  congr 1
  funext b
  simp only [List.contains_cons, List.contains_nil, Bool.or_false, stp, qrn]
  cases b == 34 <;> cases b == 13 <;> cases b == 10 <;> cases b == d <;> rfl
theorem cany_calls (s : Bs) (d : UInt8) (hd : d.toNat < 128) (hs : s.length < 4294967281) : PCalls Tryd.prog 27 [.str s, .str [34, 13, 10, d]] (.bool (needQ d s)) := by
  intro A w us hT hA hsz hv
  obtain ⟨v0, hv0⟩ := exists_aget (l := us) (k := 0) (by rw [hsz]; exact Nat.zero_lt_succ _)
  obtain ⟨v1, hv1⟩ := exists_aget (l := us) (k := 1) (by rw [hsz]; exact Nat.lt_succ_self _)
  have e0 := (V.imm (L := fun _ => none) (hv 0 _ v0 rfl hv0)).inv_str
  have e1 := (V.imm (L := fun _ => none) (hv 1 _ v1 rfl hv1)).inv_str
  subst e0
  subst e1
  obtain rfl : us = #[.string ⟨s.toArray⟩, .string ⟨#[34, 13, 10, d]⟩] := by
    have h1 : us.size = 2 := by simpa using hsz
    apply Array.ext_getElem?
    intro i
    match i with
    | 0 => rw [hv0]; rfl
    | 1 => rw [hv1]; rfl
    | i + 2 => rw [Array.getElem?_eq_none (by omega), Array.getElem?_eq_none (by simp)]
  refine (CAc Tryd.lays150 (by kernel_rfl) ⟨s.toArray⟩ ⟨#[34, 13, 10, d]⟩ w (by show s.toArray.size < _; simpa using hs) (show 2 ≤ 4 by decide) (show 4 < 4294967281 by decide) (fun j hj => ?_)).mono ?_
  · have hj2 : j < 4 := hj
    match j, hj2 with
    | 0, _ => show (34 : UInt8).toNat < 128; decide
    | 1, _ => show (13 : UInt8).toNat < 128; decide
    | 2, _ => show (10 : UInt8).toNat < 128; decide
    | 3, _ => exact hd
  · rintro e w' ⟨rfl, hb⟩
    refine ⟨_, rfl, ?_, Ext_of_below hb⟩
    have : Lib.containsAny (⟨s.toArray⟩ : ByteArray).data.toList (⟨#[34, 13, 10, d]⟩ : ByteArray).data.toList = needQ d s := by
      rw [containsAny_any]; exact needQ_set d s
    rw [this]
    exact .bool _
theorem rall_calls (s : Bs) (hs : s.length < 4294967281) : PCalls Tryd.prog 28 [.str s, .str [34], .str [34, 34]] (.str (dbl s)) := by
  intro A w us hT hA hsz hv
  obtain ⟨v0, hv0⟩ := exists_aget (l := us) (k := 0) (by rw [hsz]; exact Nat.zero_lt_succ _)
  obtain ⟨v1, hv1⟩ := exists_aget (l := us) (k := 1) (by rw [hsz]; exact Nat.succ_lt_succ (Nat.zero_lt_succ _))
  obtain ⟨v2, hv2⟩ := exists_aget (l := us) (k := 2) (by rw [hsz]; exact Nat.lt_succ_self _)
  have e0 := (V.imm (L := fun _ => none) (hv 0 _ v0 rfl hv0)).inv_str
  have e1 := (V.imm (L := fun _ => none) (hv 1 _ v1 rfl hv1)).inv_str
  have e2 := (V.imm (L := fun _ => none) (hv 2 _ v2 rfl hv2)).inv_str
  subst e0
  subst e1
  subst e2
  obtain rfl : us = #[.string ⟨s.toArray⟩, .string ⟨#[34]⟩, .string ⟨#[34, 34]⟩] := by
    have h1 : us.size = 3 := by simpa using hsz
    apply Array.ext_getElem?
    intro i
    match i with
    | 0 => rw [hv0]; rfl
    | 1 => rw [hv1]; rfl
    | 2 => rw [hv2]; rfl
    | i + 3 => rw [Array.getElem?_eq_none (by omega), Array.getElem?_eq_none (by simp)]
  obtain ⟨_, m, hm⟩ := hT.2 0 (by kernel_rfl)
  have hsz : (⟨s.toArray⟩ : ByteArray).size = s.length := by show s.toArray.size = s.length; simp
  have hc := Lib.countB_le ⟨#[34]⟩ (by decide) _ (⟨s.toArray⟩ : ByteArray) (Nat.le_refl _)
  refine (Tryd.strings_ReplaceAll ⟨s.toArray⟩ ⟨#[34]⟩ ⟨#[34, 34]⟩ m w (by rw [hsz]; exact hs) hm (by decide) ?_).mono ?_
  · have h2 : (⟨#[34, 34]⟩ : ByteArray).size = 2 := rfl
    rw [h2]
    omega
  · rintro e w' ⟨rfl, hb⟩
    refine ⟨_, rfl, ?_, Ext_of_below hb⟩
    have : Lib.replaceAll (⟨s.toArray⟩ : ByteArray).data.toList (⟨#[34]⟩ : ByteArray).data.toList (⟨#[34, 34]⟩ : ByteArray).data.toList = dbl s := replAll_dbl s
    rw [this]
    exact .str _
theorem delB_lt {d : UInt8} (h : delB d = true) : d.toNat < 128 := by
  unfold delB at h
  simp only [Bool.or_eq_true, beq_iff_eq] at h
  rcases h with ((h | h) | h) | h <;> subst h <;> decide
set_option maxHeartbeats 2000000 in
set_option maxRecDepth 10000 in
theorem dquote_calls (s : Bs) (d : UInt8) (hd : d.toNat < 128) (hs : s.length < 4294967281) : PCalls Tryd.prog 18 [.str s, .int .u8 d.toNat] (.str (quoteS d s)) := by
  have c1 := cany_calls s d hd hs
  have c2 := rall_calls s hs
  have hdl := dbl_le s
  refine PCalls_of isdQuoted (by simp [fndQuoted]) ?_
  unfold codedQuoted
  have w1 : IntKind.i32.wrap (d.toNat : Int) = (d.toNat : Int) := by
    rw [IntKind.wrap_i32]; omega
  have e1 : UInt8.ofNat d.toNat = d := by simp
  have hcat : ([34, 13, 10] : Bs) ++ [d] = [34, 13, 10, d] := rfl
  have hb : (0 : Int) ≤ (d.toNat : Int) ∧ (d.toNat : Int) < 128 := ⟨by omega, by omega⟩
  unfold quoteS
  cases hn : needQ d s
  · rw [hn] at c1
    repeat (first | (refine W_seq ?_) | (refine W_reg ?_) | (refine W_regd ?_) | (refine W_regs ?_) | (refine W_block ?_) | (refine And.intro (by omega) ?_) | simp (maxSteps := 1000000) (disch := omega) only [cA, cB, lk, lkH, Dst.onT, Dst.onX, Dst.slot, setF, setH, mapF, mapH, initF, binE, unE, cnt, boundE, newsE, freshE, freshT, opE, rmH, blkQ, frz_us, Nat.reduceEqDiff, Nat.reduceLT, Nat.reduceAdd, Nat.reduceMul, Nat.reduceMod, ↓reduceIte, reduceCtorEq, Nat.reduceLeDiff, w1, e1, hcat] | (refine callC_pure (c1) rfl ?_) | (refine callC_pure (c2) rfl ?_) | exact W_ret (RetP_1 (.imm rfl)) | exact W_ret (RetP_c rfl rfl rfl (.imm rfl)))
    refine W_cond rfl (fun _ => ?_) (fun h => by cases h)
    repeat (first | (refine W_seq ?_) | (refine W_reg ?_) | (refine W_regd ?_) | (refine W_regs ?_) | (refine W_block ?_) | (refine And.intro (by omega) ?_) | simp (maxSteps := 1000000) (disch := omega) only [cA, cB, lk, lkH, Dst.onT, Dst.onX, Dst.slot, setF, setH, mapF, mapH, initF, binE, unE, cnt, boundE, newsE, freshE, freshT, opE, rmH, blkQ, frz_us, Nat.reduceEqDiff, Nat.reduceLT, Nat.reduceAdd, Nat.reduceMul, Nat.reduceMod, ↓reduceIte, reduceCtorEq, Nat.reduceLeDiff])
    exact W_ret (RetP_1 (.imm rfl))
  · rw [hn] at c1
    repeat (first | (refine W_seq ?_) | (refine W_reg ?_) | (refine W_regd ?_) | (refine W_regs ?_) | (refine W_block ?_) | (refine And.intro (by omega) ?_) | simp (maxSteps := 1000000) (disch := omega) only [cA, cB, lk, lkH, Dst.onT, Dst.onX, Dst.slot, setF, setH, mapF, mapH, initF, binE, unE, cnt, boundE, newsE, freshE, freshT, opE, rmH, blkQ, frz_us, Nat.reduceEqDiff, Nat.reduceLT, Nat.reduceAdd, Nat.reduceMul, Nat.reduceMod, ↓reduceIte, reduceCtorEq, Nat.reduceLeDiff, w1, e1, hcat] | (refine callC_pure (c1) rfl ?_) | (refine callC_pure (c2) rfl ?_) | exact W_ret (RetP_1 (.imm rfl)) | exact W_ret (RetP_c rfl rfl rfl (.imm rfl)))
    refine W_cond rfl (fun h => by cases h) (fun _ => W_skip ?_)
    have hq : [34] ++ dbl s ++ [34] = 34 :: (dbl s ++ [34]) := rfl
    repeat (first | (refine W_seq ?_) | (refine W_reg ?_) | (refine W_regd ?_) | (refine W_regs ?_) | (refine W_block ?_) | (refine And.intro (by omega) ?_) | simp (maxSteps := 1000000) (disch := omega) only [cA, cB, lk, lkH, Dst.onT, Dst.onX, Dst.slot, setF, setH, mapF, mapH, initF, binE, unE, cnt, boundE, newsE, freshE, freshT, opE, rmH, blkQ, frz_us, Nat.reduceEqDiff, Nat.reduceLT, Nat.reduceAdd, Nat.reduceMul, Nat.reduceMod, ↓reduceIte, reduceCtorEq, Nat.reduceLeDiff, hq, List.length_append, List.length_singleton] | (refine callC_pure (c1) rfl ?_) | (refine callC_pure (c2) rfl ?_) | exact W_ret (RetP_1 (.imm rfl)) | exact W_ret (RetP_c rfl rfl rfl (.imm rfl)))
end Go.Proofs.YtgonkeglcehkeaaDoor
namespace Go.Proofs.YtgonkeglcehkeaaDoor
open Go Go.Dat Go.Proofs Go.RowKit Go.Shelf Nat32
set_option maxHeartbeats 1000000 in
theorem blen_calls (k : Nat) (l : List UInt8) (c0 : DV) (h2 : c0 = .nilp ∨ c0 = .ptr (NB k) 0) : MRel Tryd.prog 19 [.ptr (NB k) 0] (BH (NB k) 786512 c0 l) fun r H' => r = .int .i64 l.length ∧ H' = BH (NB k) 786512 c0 l := by
  have hN : 2097152 ≤ NB k := by unfold NB; omega
  generalize NB k = N at *
  have q1 : (786512 = N) = False := eq_false (by omega)
  have q2 : (N = 786512) = False := eq_false (by omega)
  have q3 : (N < 786512) = False := eq_false (by omega)
  have q4 : (786512 < N) = True := eq_true (by omega)
  refine MRel_of isbLen (by simp [fnbLen]) ?_
  unfold codebLen BH
  repeat (first | (refine W_seq ?_) | (refine W_reg ?_) | (refine W_regd ?_) | (refine W_regs ?_) | (refine W_block ?_) | (refine And.intro (by omega) ?_) | simp (maxSteps := 1000000) (disch := omega) only [cA, cB, lk, lkH, Dst.onT, Dst.onX, Dst.slot, setF, setH, mapF, mapH, initF, binE, unE, cnt, boundE, newsE, freshE, freshT, opE, rmH, blkQ, frz_us, Nat.reduceEqDiff, Nat.reduceLT, Nat.reduceAdd, Nat.reduceMul, Nat.reduceMod, ↓reduceIte, reduceCtorEq, Nat.reduceLeDiff, q1, q2, q3, q4])
  refine W_ret (RetBl (Ne.symm (by omega)) h2 rfl rfl rfl (by simp [lkH, q1]) (by simp [lkH]))
theorem any_take_snoc {α : Type} (p : α → Bool) (R : List α) (z : α) {i : Nat} (hi : i < R.length) : (R.take (i + 1)).any p = ((R.take i).any p || p (R.getD i z)) := by
  rw [take_snoc' R z hi, List.any_append]; simp
def fmtB : DC := sndC (sndC (sndC (sndC (sndC codedFormat))))
def FH (c0 : DV) (l : Bs) : Hp := [(786512, bys l), (2265609, [c0, .osl 1 786512 0 l.length])]
def FRr (R : List (List Bs)) (d : UInt8) : Fr := [(0, .sl 1 (recD R)), (1, .int .u8 d.toNat), (4, .str []), (5, .int .i64 0)]
set_option maxHeartbeats 8000000 in
set_option maxRecDepth 10000 in
theorem fmt_build (R : List (List Bs)) (d : UInt8) (hd : delB d = true) (hR : R.length ≤ 65536) (hr : ∀ r ∈ R, r.length ≤ 65536 ∧ ∀ f ∈ r, f.length ≤ 65536) (hS : (fmtS d R).length ≤ 1099511627776) :
    W fndFormat fmtB (RetP resdFormat (if 65536 < (fmtS d R).length then .tup [.str [], .int .i64 (2 : Nat)] else .tup [.str (fmtS d R), .int .i64 (0 : Nat)])) (FRr R d) [] := by
  have hRl := recD_len R
  have hd8 := delB_lt hd
  have hmem : ∀ i, i < R.length → R.getD i [] ∈ R := fun i hi => by
    rw [List.getD_eq_getElem?_getD, List.getElem?_eq_getElem hi]; exact List.getElem_mem hi
  obtain ⟨F, hF⟩ : ∃ F, (if 65536 < (fmtS d R).length then DV.tup [.str [], .int .i64 (2 : Nat)] else .tup [.str (fmtS d R), .int .i64 (0 : Nat)]) = F := ⟨_, rfl⟩
  rw [hF]
  unfold fmtB codedFormat FRr
  simp only [sndC]
  refine W_seq ?_
  refine W_reg ?_
  simp (maxSteps := 1000000) (disch := omega) only [cA, cB, lk, lkH, Dst.onT, Dst.onX, Dst.slot, setF, setH, mapF, mapH, initF, binE, unE, cnt, boundE, newsE, freshE, freshT, opE, rmH, blkQ, frz_us, Nat.reduceEqDiff, Nat.reduceLT, Nat.reduceAdd, Nat.reduceMul, Nat.reduceMod, ↓reduceIte, reduceCtorEq, Nat.reduceLeDiff]
  refine W_ownc 2265609 1 1 786512 (cells := [.nilp, .nils]) rfl rfl rfl ?_
  simp (maxSteps := 1000000) (disch := omega) only [cA, cB, lk, lkH, Dst.onT, Dst.onX, Dst.slot, setF, setH, mapF, mapH, initF, binE, unE, cnt, boundE, newsE, freshE, freshT, opE, rmH, blkQ, frz_us, Nat.reduceEqDiff, Nat.reduceLT, Nat.reduceAdd, Nat.reduceMul, Nat.reduceMod, ↓reduceIte, reduceCtorEq, Nat.reduceLeDiff]
  refine W_seq ?_
  refine W_seq ?_
  refine W_reg ?_
  simp (maxSteps := 1000000) (disch := omega) only [cA, cB, lk, lkH, Dst.onT, Dst.onX, Dst.slot, setF, setH, mapF, mapH, initF, binE, unE, cnt, boundE, newsE, freshE, freshT, opE, rmH, blkQ, frz_us, Nat.reduceEqDiff, Nat.reduceLT, Nat.reduceAdd, Nat.reduceMul, Nat.reduceMod, ↓reduceIte, reduceCtorEq, Nat.reduceLeDiff]
  have hb1 : ∀ c0 : DV, (c0 = .nilp ∨ c0 = .ptr 2265609 0) → ∀ l : Bs, MRel Tryd.prog 19 [.ptr 2265609 0] (BH 2265609 786512 c0 l) fun r H' => r = .int .i64 l.length ∧ H' = BH 2265609 786512 c0 l := fun c0 h l => blen_calls 9 l c0 h
  refine W_block ?_
  refine W_loop (σ := Nat × DV) (fun s => [(0, .sl 1 (recD R)), (1, .int .u8 d.toNat), (4, .str []), (5, .int .i64 0), (9, .ptr 2265609 0), (37, .sl 1 (recD R)), (38, .int .i64 R.length), (39, .int .i64 s.1)])
    (fun s => FH s.2 (fmtS d (R.take s.1))) (fun s => s.1 ≤ R.length ∧ (s.2 = .nilp ∨ s.2 = .ptr 2265609 0)) (fun s => R.length - s.1) (0, .nilp) ⟨Nat.zero_le _, .inl rfl⟩ ?_ rfl ?_
  · simp [subF, lk, hRl]
  · rintro ⟨i, c0⟩ ⟨hi, hc0⟩
    try simp only at hi hc0 ⊢
    unfold FH
    have hle := fmtS_take_le d R i
    by_cases hlt : i < R.length
    · have d1 : decide ((i : Int) < (R.length : Int)) = true := decide_eq_true (by omega)
      have hg := recD_getD R i hlt
      have hsl := strL_len (R.getD i [])
      obtain ⟨hrl, hfl⟩ := hr _ (hmem i hlt)
      obtain ⟨r, hrr⟩ : ∃ r, R.getD i [] = r := ⟨_, rfl⟩
      have hts := take_snoc' R [] hlt
      rw [hrr] at hg hsl hrl hfl hts
      repeat (first | (refine W_seq ?_) | (refine W_reg ?_) | (refine W_regd ?_) | (refine W_regs ?_) | (refine W_block ?_) | (refine And.intro (by omega) ?_) | simp (maxSteps := 1000000) (disch := omega) only [cA, cB, lk, lkH, Dst.onT, Dst.onX, Dst.slot, setF, setH, mapF, mapH, initF, binE, unE, cnt, boundE, newsE, freshE, freshT, opE, rmH, blkQ, frz_us, Nat.reduceEqDiff, Nat.reduceLT, Nat.reduceAdd, Nat.reduceMul, Nat.reduceMod, ↓reduceIte, reduceCtorEq, Nat.reduceLeDiff, hRl, d1])
      refine W_cond rfl (fun _ => W_skip ?_) (fun h => by cases h)
      repeat (first | (refine W_seq ?_) | (refine W_reg ?_) | (refine W_regd ?_) | (refine W_regs ?_) | (refine W_block ?_) | (refine And.intro (by omega) ?_) | simp (maxSteps := 1000000) (disch := omega) only [cA, cB, lk, lkH, Dst.onT, Dst.onX, Dst.slot, setF, setH, mapF, mapH, initF, binE, unE, cnt, boundE, newsE, freshE, freshT, opE, rmH, blkQ, frz_us, Nat.reduceEqDiff, Nat.reduceLT, Nat.reduceAdd, Nat.reduceMul, Nat.reduceMod, ↓reduceIte, reduceCtorEq, Nat.reduceLeDiff, hRl, hg, hsl])
      refine W_loop (σ := Nat × DV) (fun s => [(0, .sl 1 (recD R)), (1, .int .u8 d.toNat), (4, .str []), (5, .int .i64 0), (9, .ptr 2265609 0), (37, .sl 1 (recD R)), (38, .int .i64 R.length), (39, .int .i64 i), (43, .sl 1 (strL r)), (44, .int .i64 r.length), (45, .int .i64 s.1)])
        (fun s => FH s.2 (fmtS d (R.take i) ++ fmtF d (r.take s.1))) (fun s => s.1 ≤ r.length ∧ (s.2 = .nilp ∨ s.2 = .ptr 2265609 0)) (fun s => r.length - s.1) (0, c0) ⟨Nat.zero_le _, hc0⟩ ?_ ?_ ?_
      · simp [subF, lk, hsl]
      · simp [FH, fmtF]
      · rintro ⟨j, c1⟩ ⟨hj, hc1⟩
        try simp only at hj hc1 ⊢
        unfold FH
        have hwl : (fmtF d (r.take j)).length ≤ 3 * (65537 * 65536) := by
          have h1 := fmtF_le d (r.take j)
          have h2 := wgt_le (B := 65536) (r.take j) fun f hf => hfl f (List.mem_of_mem_take hf)
          have h3 : (r.take j).length ≤ 65536 := by rw [List.length_take]; omega
          have h4 : (65536 + 1) * (r.take j).length ≤ 65537 * 65536 := Nat.mul_le_mul_left _ h3
          omega
        by_cases hjl : j < r.length
        · have dj : decide ((j : Int) < (r.length : Int)) = true := decide_eq_true (by omega)
          have ej : (j : Int) + 1 = ((j + 1 : Nat) : Int) := by omega
          have hgj := strL_getD r j hjl
          have hfm : r.getD j [] ∈ r := by rw [List.getD_eq_getElem?_getD, List.getElem?_eq_getElem hjl]; exact List.getElem_mem hjl
          have hfb := hfl _ hfm
          have cq := dquote_calls (r.getD j []) d hd8 (by omega)
          have hql := quoteS_le d (r.getD j [])
          have htj := take_snoc' r [] hjl
          have hsn := fmtF_snoc d (r.getD j []) (r.take j)
          rw [← htj] at hsn
          obtain ⟨q, hq⟩ : ∃ q, quoteS d (r.getD j []) = q := ⟨_, rfl⟩
          rw [hq] at cq hql hsn
          obtain ⟨X, hX⟩ : ∃ X, fmtS d (R.take i) ++ fmtF d (r.take j) = X := ⟨_, rfl⟩
          have hXl : X.length ≤ 1099511627776 + 3 * (65537 * 65536) := by rw [← hX, List.length_append]; omega
          rw [hX]
          repeat (first | (refine W_seq ?_) | (refine W_reg ?_) | (refine W_regd ?_) | (refine W_regs ?_) | (refine W_block ?_) | (refine And.intro (by omega) ?_) | simp (maxSteps := 1000000) (disch := omega) only [cA, cB, lk, lkH, Dst.onT, Dst.onX, Dst.slot, setF, setH, mapF, mapH, initF, binE, unE, cnt, boundE, newsE, freshE, freshT, opE, rmH, blkQ, frz_us, Nat.reduceEqDiff, Nat.reduceLT, Nat.reduceAdd, Nat.reduceMul, Nat.reduceMod, ↓reduceIte, reduceCtorEq, Nat.reduceLeDiff, hRl, hg, hgj, hsl, dj])
          refine W_cond rfl (fun _ => W_skip ?_) (fun h => by cases h)
          by_cases hj0 : 0 < j
          · have dz : decide ((0 : Int) < (j : Int)) = true := decide_eq_true (by omega)
            rw [if_neg (fun h => by have := congrArg List.length h; rw [List.length_take, Nat.min_eq_left (by omega), List.length_nil] at this; omega)] at hsn
            have hXe : fmtS d (R.take i) ++ fmtF d (r.take (j + 1)) = X ++ [d] ++ q := by rw [hsn, ← hX]; simp
            repeat (first | (refine W_seq ?_) | (refine W_reg ?_) | (refine W_regd ?_) | (refine W_regs ?_) | (refine W_block ?_) | (refine And.intro (by omega) ?_) | simp (maxSteps := 1000000) (disch := omega) only [cA, cB, lk, lkH, Dst.onT, Dst.onX, Dst.slot, setF, setH, mapF, mapH, initF, binE, unE, cnt, boundE, newsE, freshE, freshT, opE, rmH, blkQ, frz_us, Nat.reduceEqDiff, Nat.reduceLT, Nat.reduceAdd, Nat.reduceMul, Nat.reduceMod, ↓reduceIte, reduceCtorEq, Nat.reduceLeDiff, hRl, hg, hgj, hsl, dz])
            refine W_cond rfl (fun _ => ?_) (fun h => by cases h)
            repeat (first | (refine W_seq ?_) | (refine W_reg ?_) | (refine W_regd ?_) | (refine W_regs ?_) | (refine W_block ?_) | (refine And.intro (by omega) ?_) | simp (maxSteps := 1000000) (disch := omega) only [cA, cB, lk, lkH, Dst.onT, Dst.onX, Dst.slot, setF, setH, mapF, mapH, initF, binE, unE, cnt, boundE, newsE, freshE, freshT, opE, rmH, blkQ, frz_us, Nat.reduceEqDiff, Nat.reduceLT, Nat.reduceAdd, Nat.reduceMul, Nat.reduceMod, ↓reduceIte, reduceCtorEq, Nat.reduceLeDiff])
            have bw : BCalls Tryd.prog 2265609 786512 16 [.int .u8 d.toNat] X .nili (X ++ [d]) := bwb_calls 9 X d (by omega)
            refine callC_bld 2265609 786512 bw rfl rfl rfl hc1 (by decide) (by decide) (fun d h => by simp at h; subst h; rfl) rfl (by simp [DV.has]) (by simp [DV.has]) (fun p c h1 h2 h => by simp [lkH, Ne.symm h1, Ne.symm h2] at h) ?_
            simp (maxSteps := 1000000) (disch := omega) only [cA, cB, lk, lkH, Dst.onT, Dst.onX, Dst.slot, setF, setH, mapF, mapH, initF, binE, unE, cnt, boundE, newsE, freshE, freshT, opE, rmH, blkQ, frz_us, Nat.reduceEqDiff, Nat.reduceLT, Nat.reduceAdd, Nat.reduceMul, Nat.reduceMod, ↓reduceIte, reduceCtorEq, Nat.reduceLeDiff]
            repeat (first | (refine W_seq ?_) | (refine W_reg ?_) | (refine W_regd ?_) | (refine W_regs ?_) | (refine W_block ?_) | (refine And.intro (by omega) ?_) | simp (maxSteps := 1000000) (disch := omega) only [cA, cB, lk, lkH, Dst.onT, Dst.onX, Dst.slot, setF, setH, mapF, mapH, initF, binE, unE, cnt, boundE, newsE, freshE, freshT, opE, rmH, blkQ, frz_us, Nat.reduceEqDiff, Nat.reduceLT, Nat.reduceAdd, Nat.reduceMul, Nat.reduceMod, ↓reduceIte, reduceCtorEq, Nat.reduceLeDiff])
            refine callC_pure cq rfl ?_
            repeat (first | (refine W_seq ?_) | (refine W_reg ?_) | (refine W_regd ?_) | (refine W_regs ?_) | (refine W_block ?_) | (refine And.intro (by omega) ?_) | simp (maxSteps := 1000000) (disch := omega) only [cA, cB, lk, lkH, Dst.onT, Dst.onX, Dst.slot, setF, setH, mapF, mapH, initF, binE, unE, cnt, boundE, newsE, freshE, freshT, opE, rmH, blkQ, frz_us, Nat.reduceEqDiff, Nat.reduceLT, Nat.reduceAdd, Nat.reduceMul, Nat.reduceMod, ↓reduceIte, reduceCtorEq, Nat.reduceLeDiff])
            have bs : BCalls Tryd.prog 2265609 786512 17 [.str q] (X ++ [d]) (.tup [.int .i64 q.length, .nili]) (X ++ [d] ++ q) := bws_calls 9 (X ++ [d]) q (by simp; omega)
            refine callC_bld 2265609 786512 bs rfl rfl rfl (.inr rfl) (by decide) (by decide) (fun d h => by simp at h; subst h; rfl) rfl (by simp [DV.has]) (by simp [DV.has]) (fun p c h1 h2 h => by simp [lkH, Ne.symm h1, Ne.symm h2] at h) ?_
            simp (maxSteps := 1000000) (disch := omega) only [cA, cB, lk, lkH, Dst.onT, Dst.onX, Dst.slot, setF, setH, mapF, mapH, initF, binE, unE, cnt, boundE, newsE, freshE, freshT, opE, rmH, blkQ, frz_us, Nat.reduceEqDiff, Nat.reduceLT, Nat.reduceAdd, Nat.reduceMul, Nat.reduceMod, ↓reduceIte, reduceCtorEq, Nat.reduceLeDiff]
            repeat (first | (refine W_seq ?_) | (refine W_reg ?_) | (refine W_regd ?_) | (refine W_regs ?_) | (refine W_block ?_) | (refine And.intro (by omega) ?_) | simp (maxSteps := 1000000) (disch := omega) only [cA, cB, lk, lkH, Dst.onT, Dst.onX, Dst.slot, setF, setH, mapF, mapH, initF, binE, unE, cnt, boundE, newsE, freshE, freshT, opE, rmH, blkQ, frz_us, Nat.reduceEqDiff, Nat.reduceLT, Nat.reduceAdd, Nat.reduceMul, Nat.reduceMod, ↓reduceIte, reduceCtorEq, Nat.reduceLeDiff, ej])
            refine ⟨(j + 1, .ptr 2265609 0), ⟨by omega, .inr rfl⟩, by simp; omega, by simp [subF, lk], ?_⟩
            simp only [hXe]
          · have dz : decide ((0 : Int) < (j : Int)) = false := decide_eq_false (by omega)
            have hj0 : j = 0 := by omega
            subst hj0
            rw [if_pos (by simp)] at hsn
            have hXe : fmtS d (R.take i) ++ fmtF d (r.take (0 + 1)) = X ++ q := by rw [hsn, ← hX]; simp [fmtF]
            repeat (first | (refine W_seq ?_) | (refine W_reg ?_) | (refine W_regd ?_) | (refine W_regs ?_) | (refine W_block ?_) | (refine And.intro (by omega) ?_) | simp (maxSteps := 1000000) (disch := omega) only [cA, cB, lk, lkH, Dst.onT, Dst.onX, Dst.slot, setF, setH, mapF, mapH, initF, binE, unE, cnt, boundE, newsE, freshE, freshT, opE, rmH, blkQ, frz_us, Nat.reduceEqDiff, Nat.reduceLT, Nat.reduceAdd, Nat.reduceMul, Nat.reduceMod, ↓reduceIte, reduceCtorEq, Nat.reduceLeDiff, hRl, hg, hgj, hsl, dz])
            refine W_cond rfl (fun h => by cases h) (fun _ => W_skip ?_)
            repeat (first | (refine W_seq ?_) | (refine W_reg ?_) | (refine W_regd ?_) | (refine W_regs ?_) | (refine W_block ?_) | (refine And.intro (by omega) ?_) | simp (maxSteps := 1000000) (disch := omega) only [cA, cB, lk, lkH, Dst.onT, Dst.onX, Dst.slot, setF, setH, mapF, mapH, initF, binE, unE, cnt, boundE, newsE, freshE, freshT, opE, rmH, blkQ, frz_us, Nat.reduceEqDiff, Nat.reduceLT, Nat.reduceAdd, Nat.reduceMul, Nat.reduceMod, ↓reduceIte, reduceCtorEq, Nat.reduceLeDiff])
            refine callC_pure cq rfl ?_
            repeat (first | (refine W_seq ?_) | (refine W_reg ?_) | (refine W_regd ?_) | (refine W_regs ?_) | (refine W_block ?_) | (refine And.intro (by omega) ?_) | simp (maxSteps := 1000000) (disch := omega) only [cA, cB, lk, lkH, Dst.onT, Dst.onX, Dst.slot, setF, setH, mapF, mapH, initF, binE, unE, cnt, boundE, newsE, freshE, freshT, opE, rmH, blkQ, frz_us, Nat.reduceEqDiff, Nat.reduceLT, Nat.reduceAdd, Nat.reduceMul, Nat.reduceMod, ↓reduceIte, reduceCtorEq, Nat.reduceLeDiff])
            have bs : BCalls Tryd.prog 2265609 786512 17 [.str q] X (.tup [.int .i64 q.length, .nili]) (X ++ q) := bws_calls 9 X q (by omega)
            refine callC_bld 2265609 786512 bs rfl rfl rfl hc1 (by decide) (by decide) (fun d h => by simp at h; subst h; rfl) rfl (by simp [DV.has]) (by simp [DV.has]) (fun p c h1 h2 h => by simp [lkH, Ne.symm h1, Ne.symm h2] at h) ?_
            simp (maxSteps := 1000000) (disch := omega) only [cA, cB, lk, lkH, Dst.onT, Dst.onX, Dst.slot, setF, setH, mapF, mapH, initF, binE, unE, cnt, boundE, newsE, freshE, freshT, opE, rmH, blkQ, frz_us, Nat.reduceEqDiff, Nat.reduceLT, Nat.reduceAdd, Nat.reduceMul, Nat.reduceMod, ↓reduceIte, reduceCtorEq, Nat.reduceLeDiff]
            repeat (first | (refine W_seq ?_) | (refine W_reg ?_) | (refine W_regd ?_) | (refine W_regs ?_) | (refine W_block ?_) | (refine And.intro (by omega) ?_) | simp (maxSteps := 1000000) (disch := omega) only [cA, cB, lk, lkH, Dst.onT, Dst.onX, Dst.slot, setF, setH, mapF, mapH, initF, binE, unE, cnt, boundE, newsE, freshE, freshT, opE, rmH, blkQ, frz_us, Nat.reduceEqDiff, Nat.reduceLT, Nat.reduceAdd, Nat.reduceMul, Nat.reduceMod, ↓reduceIte, reduceCtorEq, Nat.reduceLeDiff, ej])
            refine ⟨(1, .ptr 2265609 0), ⟨by omega, .inr rfl⟩, by simp; omega, by simp [subF, lk], ?_⟩
            simp only [← hXe]
        · have dj : decide ((j : Int) < (r.length : Int)) = false := decide_eq_false (by omega)
          have hTr : r.take j = r := List.take_of_length_le (by omega)
          rw [hTr] at hwl ⊢
          obtain ⟨X, hX⟩ : ∃ X, fmtS d (R.take i) ++ fmtF d r = X := ⟨_, rfl⟩
          have hXl : X.length ≤ 1099511627776 + 3 * (65537 * 65536) := by rw [← hX, List.length_append]; omega
          have hXe : fmtS d (R.take (i + 1)) = X ++ [10] := by rw [hts, fmtS_snoc, fmtR, ← hX]; simp
          rw [hX]
          repeat (first | (refine W_seq ?_) | (refine W_reg ?_) | (refine W_regd ?_) | (refine W_regs ?_) | (refine W_block ?_) | (refine And.intro (by omega) ?_) | simp (maxSteps := 1000000) (disch := omega) only [cA, cB, lk, lkH, Dst.onT, Dst.onX, Dst.slot, setF, setH, mapF, mapH, initF, binE, unE, cnt, boundE, newsE, freshE, freshT, opE, rmH, blkQ, frz_us, Nat.reduceEqDiff, Nat.reduceLT, Nat.reduceAdd, Nat.reduceMul, Nat.reduceMod, ↓reduceIte, reduceCtorEq, Nat.reduceLeDiff, hRl, hg, hsl, dj])
          refine W_cond rfl (fun h => by cases h) (fun _ => ?_)
          refine W_exit ?_
          repeat (first | (refine W_seq ?_) | (refine W_reg ?_) | (refine W_regd ?_) | (refine W_regs ?_) | (refine W_block ?_) | (refine And.intro (by omega) ?_) | simp (maxSteps := 1000000) (disch := omega) only [cA, cB, lk, lkH, Dst.onT, Dst.onX, Dst.slot, setF, setH, mapF, mapH, initF, binE, unE, cnt, boundE, newsE, freshE, freshT, opE, rmH, blkQ, frz_us, Nat.reduceEqDiff, Nat.reduceLT, Nat.reduceAdd, Nat.reduceMul, Nat.reduceMod, ↓reduceIte, reduceCtorEq, Nat.reduceLeDiff])
          have bw : BCalls Tryd.prog 2265609 786512 16 [.int .u8 ((10 : UInt8).toNat : Int)] X .nili (X ++ [10]) := bwb_calls 9 X 10 (by omega)
          refine callC_bld 2265609 786512 bw rfl rfl rfl hc1 (by decide) (by decide) (fun d h => by simp at h; subst h; rfl) rfl (by simp [DV.has]) (by simp [DV.has]) (fun p c h1 h2 h => by simp [lkH, Ne.symm h1, Ne.symm h2] at h) ?_
          simp (maxSteps := 1000000) (disch := omega) only [cA, cB, lk, lkH, Dst.onT, Dst.onX, Dst.slot, setF, setH, mapF, mapH, initF, binE, unE, cnt, boundE, newsE, freshE, freshT, opE, rmH, blkQ, frz_us, Nat.reduceEqDiff, Nat.reduceLT, Nat.reduceAdd, Nat.reduceMul, Nat.reduceMod, ↓reduceIte, reduceCtorEq, Nat.reduceLeDiff]
          repeat (first | (refine W_seq ?_) | (refine W_reg ?_) | (refine W_regd ?_) | (refine W_regs ?_) | (refine W_block ?_) | (refine And.intro (by omega) ?_) | simp (maxSteps := 1000000) (disch := omega) only [cA, cB, lk, lkH, Dst.onT, Dst.onX, Dst.slot, setF, setH, mapF, mapH, initF, binE, unE, cnt, boundE, newsE, freshE, freshT, opE, rmH, blkQ, frz_us, Nat.reduceEqDiff, Nat.reduceLT, Nat.reduceAdd, Nat.reduceMul, Nat.reduceMod, ↓reduceIte, reduceCtorEq, Nat.reduceLeDiff])
          refine ⟨(i + 1, .ptr 2265609 0), ⟨by omega, .inr rfl⟩, by simp; omega, by simp [subF, lk], ?_⟩
          simp only [hXe]
    · have d1 : decide ((i : Int) < (R.length : Int)) = false := decide_eq_false (by omega)
      rw [List.take_of_length_le (by omega)]
      repeat (first | (refine W_seq ?_) | (refine W_reg ?_) | (refine W_regd ?_) | (refine W_regs ?_) | (refine W_block ?_) | (refine And.intro (by omega) ?_) | simp (maxSteps := 1000000) (disch := omega) only [cA, cB, lk, lkH, Dst.onT, Dst.onX, Dst.slot, setF, setH, mapF, mapH, initF, binE, unE, cnt, boundE, newsE, freshE, freshT, opE, rmH, blkQ, frz_us, Nat.reduceEqDiff, Nat.reduceLT, Nat.reduceAdd, Nat.reduceMul, Nat.reduceMod, ↓reduceIte, reduceCtorEq, Nat.reduceLeDiff, hRl, d1])
      refine W_cond rfl (fun h => by cases h) (fun _ => ?_)
      refine W_exit ?_
      repeat (first | (refine W_seq ?_) | (refine W_reg ?_) | (refine W_regd ?_) | (refine W_regs ?_) | (refine W_block ?_) | (refine And.intro (by omega) ?_) | simp (maxSteps := 1000000) (disch := omega) only [cA, cB, lk, lkH, Dst.onT, Dst.onX, Dst.slot, setF, setH, mapF, mapH, initF, binE, unE, cnt, boundE, newsE, freshE, freshT, opE, rmH, blkQ, frz_us, Nat.reduceEqDiff, Nat.reduceLT, Nat.reduceAdd, Nat.reduceMul, Nat.reduceMod, ↓reduceIte, reduceCtorEq, Nat.reduceLeDiff])
      refine callC_blen 2265609 786512 (hb1 c0 hc0 _) rfl rfl rfl hc0 (by decide) (by decide) rfl rfl (by simp [DV.has]) (fun p c h1 h2 h => by simp [lkH, Ne.symm h1, Ne.symm h2] at h) ?_
      by_cases hs : 65536 < (fmtS d R).length
      · have d4 : decide ((65536 : Int) < ((fmtS d R).length : Int)) = true := decide_eq_true (by omega)
        rw [if_pos hs] at hF
        subst hF
        repeat (first | (refine W_seq ?_) | (refine W_reg ?_) | (refine W_regd ?_) | (refine W_regs ?_) | (refine W_block ?_) | (refine And.intro (by omega) ?_) | simp (maxSteps := 1000000) (disch := omega) only [cA, cB, lk, lkH, Dst.onT, Dst.onX, Dst.slot, setF, setH, mapF, mapH, initF, binE, unE, cnt, boundE, newsE, freshE, freshT, opE, rmH, blkQ, frz_us, Nat.reduceEqDiff, Nat.reduceLT, Nat.reduceAdd, Nat.reduceMul, Nat.reduceMod, ↓reduceIte, reduceCtorEq, Nat.reduceLeDiff, d4])
        refine W_cond rfl (fun _ => ?_) (fun h => by cases h)
        repeat (first | (refine W_seq ?_) | (refine W_reg ?_) | (refine W_regd ?_) | (refine W_regs ?_) | (refine W_block ?_) | (refine And.intro (by omega) ?_) | simp (maxSteps := 1000000) (disch := omega) only [cA, cB, lk, lkH, Dst.onT, Dst.onX, Dst.slot, setF, setH, mapF, mapH, initF, binE, unE, cnt, boundE, newsE, freshE, freshT, opE, rmH, blkQ, frz_us, Nat.reduceEqDiff, Nat.reduceLT, Nat.reduceAdd, Nat.reduceMul, Nat.reduceMod, ↓reduceIte, reduceCtorEq, Nat.reduceLeDiff])
        exact W_ret (RetP_2 (.imm rfl) (.imm rfl))
      · have d4 : decide ((65536 : Int) < ((fmtS d R).length : Int)) = false := decide_eq_false (by omega)
        rw [if_neg hs] at hF
        subst hF
        repeat (first | (refine W_seq ?_) | (refine W_reg ?_) | (refine W_regd ?_) | (refine W_regs ?_) | (refine W_block ?_) | (refine And.intro (by omega) ?_) | simp (maxSteps := 1000000) (disch := omega) only [cA, cB, lk, lkH, Dst.onT, Dst.onX, Dst.slot, setF, setH, mapF, mapH, initF, binE, unE, cnt, boundE, newsE, freshE, freshT, opE, rmH, blkQ, frz_us, Nat.reduceEqDiff, Nat.reduceLT, Nat.reduceAdd, Nat.reduceMul, Nat.reduceMod, ↓reduceIte, reduceCtorEq, Nat.reduceLeDiff, d4])
        refine W_cond rfl (fun h => by cases h) (fun _ => W_skip ?_)
        repeat (first | (refine W_seq ?_) | (refine W_reg ?_) | (refine W_regd ?_) | (refine W_regs ?_) | (refine W_block ?_) | (refine And.intro (by omega) ?_) | simp (maxSteps := 1000000) (disch := omega) only [cA, cB, lk, lkH, Dst.onT, Dst.onX, Dst.slot, setF, setH, mapF, mapH, initF, binE, unE, cnt, boundE, newsE, freshE, freshT, opE, rmH, blkQ, frz_us, Nat.reduceEqDiff, Nat.reduceLT, Nat.reduceAdd, Nat.reduceMul, Nat.reduceMod, ↓reduceIte, reduceCtorEq, Nat.reduceLeDiff])
        have cs : MRel Tryd.prog 20 [.ptr 2265609 0] (BH 2265609 786512 c0 (fmtS d R)) fun r H' => r = .str (fmtS d R) ∧ H' = [(2265609, [.undef, .undef])] :=
          Str_calls Tryd.lays169 Tryd.Builder_Extra_169 2265609 786512 (by decide) (by decide) rfl (fmtS d R) (by omega) c0
        refine callC_bstr 2265609 786512 cs rfl rfl rfl hc0 (by decide) (by decide) rfl (by simp [DV.has]) (fun p c h1 h2 h => by simp [lkH, Ne.symm h1, Ne.symm h2] at h) ?_
        simp (maxSteps := 1000000) (disch := omega) only [cA, cB, lk, lkH, Dst.onT, Dst.onX, Dst.slot, setF, setH, mapF, mapH, initF, binE, unE, cnt, boundE, newsE, freshE, freshT, opE, rmH, blkQ, frz_us, Nat.reduceEqDiff, Nat.reduceLT, Nat.reduceAdd, Nat.reduceMul, Nat.reduceMod, ↓reduceIte, reduceCtorEq, Nat.reduceLeDiff, delH]
        repeat (first | (refine W_seq ?_) | (refine W_reg ?_) | (refine W_regd ?_) | (refine W_regs ?_) | (refine W_block ?_) | (refine And.intro (by omega) ?_) | simp (maxSteps := 1000000) (disch := omega) only [cA, cB, lk, lkH, Dst.onT, Dst.onX, Dst.slot, setF, setH, mapF, mapH, initF, binE, unE, cnt, boundE, newsE, freshE, freshT, opE, rmH, blkQ, frz_us, Nat.reduceEqDiff, Nat.reduceLT, Nat.reduceAdd, Nat.reduceMul, Nat.reduceMod, ↓reduceIte, reduceCtorEq, Nat.reduceLeDiff])
        exact W_ret (RetP_2 (.imm rfl) (.imm rfl))
end Go.Proofs.YtgonkeglcehkeaaDoor
namespace Go.Proofs.YtgonkeglcehkeaaDoor
open Go Go.Dat Go.Proofs Go.RowKit Go.Shelf Nat32
set_option maxHeartbeats 8000000 in
set_option maxRecDepth 10000 in
theorem dformat_calls (R : List (List Bs)) (d : UInt8) (hR : R.length ≤ 65536) (hr : ∀ r ∈ R, r.length ≤ 65536 ∧ ∀ f ∈ r, f.length ≤ 65536) (hS : (fmtS d R).length ≤ 1099511627776) :
    PCalls Tryd.prog 9 [.sl 1 (recD R), .int .u8 d.toNat] (fmtD R d) := by
  have cd := del_calls d
  have hRl := recD_len R
  have hmem : ∀ i, i < R.length → R.getD i [] ∈ R := fun i hi => by
    rw [List.getD_eq_getElem?_getD, List.getElem?_eq_getElem hi]; exact List.getElem_mem hi
  refine PCalls_of isdFormat (by simp [fndFormat]) ?_
  obtain ⟨F, hF⟩ : ∃ F, fmtD R d = F := ⟨_, rfl⟩
  rw [hF]
  unfold codedFormat
  unfold fmtD at hF
  by_cases hd : delB d = false
  · rw [if_pos hd] at hF
    rw [hd] at cd
    subst hF
    repeat (first | (refine W_seq ?_) | (refine W_reg ?_) | (refine W_regd ?_) | (refine W_regs ?_) | (refine W_block ?_) | (refine And.intro (by omega) ?_) | simp (maxSteps := 1000000) (disch := omega) only [cA, cB, lk, lkH, Dst.onT, Dst.onX, Dst.slot, setF, setH, mapF, mapH, initF, binE, unE, cnt, boundE, newsE, freshE, freshT, opE, rmH, blkQ, frz_us, Nat.reduceEqDiff, Nat.reduceLT, Nat.reduceAdd, Nat.reduceMul, Nat.reduceMod, ↓reduceIte, reduceCtorEq, Nat.reduceLeDiff] | (refine callC_pure (cd) rfl ?_) | exact W_ret (RetP_1 (.imm rfl)) | exact W_ret (RetP_c rfl rfl rfl (.imm rfl)))
    refine W_cond rfl (fun _ => ?_) (fun h => by cases h)
    repeat (first | (refine W_seq ?_) | (refine W_reg ?_) | (refine W_regd ?_) | (refine W_regs ?_) | (refine W_block ?_) | (refine And.intro (by omega) ?_) | simp (maxSteps := 1000000) (disch := omega) only [cA, cB, lk, lkH, Dst.onT, Dst.onX, Dst.slot, setF, setH, mapF, mapH, initF, binE, unE, cnt, boundE, newsE, freshE, freshT, opE, rmH, blkQ, frz_us, Nat.reduceEqDiff, Nat.reduceLT, Nat.reduceAdd, Nat.reduceMul, Nat.reduceMod, ↓reduceIte, reduceCtorEq, Nat.reduceLeDiff])
    exact W_ret (RetP_2 (.imm rfl) (.imm rfl))
  · rw [if_neg hd] at hF
    have hd : delB d = true := by simpa using hd
    rw [hd] at cd
    repeat (first | (refine W_seq ?_) | (refine W_reg ?_) | (refine W_regd ?_) | (refine W_regs ?_) | (refine W_block ?_) | (refine And.intro (by omega) ?_) | simp (maxSteps := 1000000) (disch := omega) only [cA, cB, lk, lkH, Dst.onT, Dst.onX, Dst.slot, setF, setH, mapF, mapH, initF, binE, unE, cnt, boundE, newsE, freshE, freshT, opE, rmH, blkQ, frz_us, Nat.reduceEqDiff, Nat.reduceLT, Nat.reduceAdd, Nat.reduceMul, Nat.reduceMod, ↓reduceIte, reduceCtorEq, Nat.reduceLeDiff] | (refine callC_pure (cd) rfl ?_) | exact W_ret (RetP_1 (.imm rfl)) | exact W_ret (RetP_c rfl rfl rfl (.imm rfl)))
    refine W_cond rfl (fun h => by cases h) (fun _ => W_skip ?_)
    have hL : decide ((1024 : Int) < (R.length : Int)) = decide (1024 < R.length) := by rw [decide_eq_decide]; omega
    repeat (first | (refine W_seq ?_) | (refine W_reg ?_) | (refine W_regd ?_) | (refine W_regs ?_) | (refine W_block ?_) | (refine And.intro (by omega) ?_) | simp (maxSteps := 1000000) (disch := omega) only [cA, cB, lk, lkH, Dst.onT, Dst.onX, Dst.slot, setF, setH, mapF, mapH, initF, binE, unE, cnt, boundE, newsE, freshE, freshT, opE, rmH, blkQ, frz_us, Nat.reduceEqDiff, Nat.reduceLT, Nat.reduceAdd, Nat.reduceMul, Nat.reduceMod, ↓reduceIte, reduceCtorEq, Nat.reduceLeDiff, hRl, hL])
    refine W_loop (σ := Nat) (fun i => [(0, .sl 1 (recD R)), (1, .int .u8 d.toNat), (4, .str []), (5, .int .i64 0), (6, .bool (decide (1024 < R.length) || (R.take i).any (fun r => decide (32 < r.length)))), (20, .sl 1 (recD R)), (21, .int .i64 R.length), (22, .int .i64 i)]) (fun _ => []) (fun i => i ≤ R.length ∧ (R.take i).any (fun r => r.isEmpty) = false) (fun i => R.length - i) 0 ⟨Nat.zero_le _, by simp⟩ ?_ rfl ?_
    · simp [subF, lk]
    · rintro i ⟨hi, hany⟩
      try simp only at hi hany ⊢
      by_cases hlt : i < R.length
      · have d1 : decide ((i : Int) < (R.length : Int)) = true := decide_eq_true (by omega)
        have hg := recD_getD R i hlt
        have hsl := strL_len (R.getD i [])
        obtain ⟨hrl, _⟩ := hr _ (hmem i hlt)
        have hts := any_take_snoc (fun r : List Bs => r.isEmpty) R [] hlt
        have ht2 := any_take_snoc (fun r : List Bs => decide (32 < r.length)) R [] hlt
        have hat := any_take (fun r : List Bs => r.isEmpty) R [] hlt
        obtain ⟨r, hrr⟩ : ∃ r, R.getD i [] = r := ⟨_, rfl⟩
        rw [hrr] at hg hsl hrl hts ht2 hat
        repeat (first | (refine W_seq ?_) | (refine W_reg ?_) | (refine W_regd ?_) | (refine W_regs ?_) | (refine W_block ?_) | (refine And.intro (by omega) ?_) | simp (maxSteps := 1000000) (disch := omega) only [cA, cB, lk, lkH, Dst.onT, Dst.onX, Dst.slot, setF, setH, mapF, mapH, initF, binE, unE, cnt, boundE, newsE, freshE, freshT, opE, rmH, blkQ, frz_us, Nat.reduceEqDiff, Nat.reduceLT, Nat.reduceAdd, Nat.reduceMul, Nat.reduceMod, ↓reduceIte, reduceCtorEq, Nat.reduceLeDiff, hRl, d1])
        refine W_cond rfl (fun _ => W_skip ?_) (fun h => by cases h)
        by_cases h0 : r.length = 0
        · have d2 : decide ((r.length : Int) = 0) = true := decide_eq_true (by omega)
          have ha : R.any (fun r => r.isEmpty) = true := hat (by rw [List.isEmpty_iff_length_eq_zero]; exact h0)
          rw [if_pos ha] at hF
          subst hF
          repeat (first | (refine W_seq ?_) | (refine W_reg ?_) | (refine W_regd ?_) | (refine W_regs ?_) | (refine W_block ?_) | (refine And.intro (by omega) ?_) | simp (maxSteps := 1000000) (disch := omega) only [cA, cB, lk, lkH, Dst.onT, Dst.onX, Dst.slot, setF, setH, mapF, mapH, initF, binE, unE, cnt, boundE, newsE, freshE, freshT, opE, rmH, blkQ, frz_us, Nat.reduceEqDiff, Nat.reduceLT, Nat.reduceAdd, Nat.reduceMul, Nat.reduceMod, ↓reduceIte, reduceCtorEq, Nat.reduceLeDiff, hRl, hg, hsl, d2])
          refine W_cond rfl (fun _ => ?_) (fun h => by cases h)
          repeat (first | (refine W_seq ?_) | (refine W_reg ?_) | (refine W_regd ?_) | (refine W_regs ?_) | (refine W_block ?_) | (refine And.intro (by omega) ?_) | simp (maxSteps := 1000000) (disch := omega) only [cA, cB, lk, lkH, Dst.onT, Dst.onX, Dst.slot, setF, setH, mapF, mapH, initF, binE, unE, cnt, boundE, newsE, freshE, freshT, opE, rmH, blkQ, frz_us, Nat.reduceEqDiff, Nat.reduceLT, Nat.reduceAdd, Nat.reduceMul, Nat.reduceMod, ↓reduceIte, reduceCtorEq, Nat.reduceLeDiff])
          exact W_ret (RetP_2 (.imm rfl) (.imm rfl))
        · have d2 : decide ((r.length : Int) = 0) = false := decide_eq_false (by omega)
          have d3 : decide ((32 : Int) < (r.length : Int)) = decide (32 < r.length) := by rw [decide_eq_decide]; omega
          have he : r.isEmpty = false := by cases r with
            | nil => exact absurd rfl h0
            | cons a b => rfl
          rw [hany, he] at hts
          have ej : (i : Int) + 1 = ((i + 1 : Nat) : Int) := by omega
          obtain ⟨B, hB⟩ : ∃ B, (decide (1024 < R.length) || (R.take i).any (fun r => decide (32 < r.length))) = B := ⟨_, rfl⟩
          rw [hB]
          cases B
          · repeat (first | (refine W_seq ?_) | (refine W_reg ?_) | (refine W_regd ?_) | (refine W_regs ?_) | (refine W_block ?_) | (refine And.intro (by omega) ?_) | simp (maxSteps := 1000000) (disch := omega) only [cA, cB, lk, lkH, Dst.onT, Dst.onX, Dst.slot, setF, setH, mapF, mapH, initF, binE, unE, cnt, boundE, newsE, freshE, freshT, opE, rmH, blkQ, frz_us, Nat.reduceEqDiff, Nat.reduceLT, Nat.reduceAdd, Nat.reduceMul, Nat.reduceMod, ↓reduceIte, reduceCtorEq, Nat.reduceLeDiff, hRl, hg, hsl, d2])
            refine W_cond rfl (fun h => by cases h) (fun _ => W_skip ?_)
            repeat (first | (refine W_seq ?_) | (refine W_reg ?_) | (refine W_regd ?_) | (refine W_regs ?_) | (refine W_block ?_) | (refine And.intro (by omega) ?_) | simp (maxSteps := 1000000) (disch := omega) only [cA, cB, lk, lkH, Dst.onT, Dst.onX, Dst.slot, setF, setH, mapF, mapH, initF, binE, unE, cnt, boundE, newsE, freshE, freshT, opE, rmH, blkQ, frz_us, Nat.reduceEqDiff, Nat.reduceLT, Nat.reduceAdd, Nat.reduceMul, Nat.reduceMod, ↓reduceIte, reduceCtorEq, Nat.reduceLeDiff, hRl, hg, hsl, d3, ej])
            refine ⟨i + 1, ⟨by omega, hts⟩, by omega, ?_⟩
            rw [ht2, ← Bool.or_assoc, hB]
            simp [subF, lk]
          · repeat (first | (refine W_seq ?_) | (refine W_reg ?_) | (refine W_regd ?_) | (refine W_regs ?_) | (refine W_block ?_) | (refine And.intro (by omega) ?_) | simp (maxSteps := 1000000) (disch := omega) only [cA, cB, lk, lkH, Dst.onT, Dst.onX, Dst.slot, setF, setH, mapF, mapH, initF, binE, unE, cnt, boundE, newsE, freshE, freshT, opE, rmH, blkQ, frz_us, Nat.reduceEqDiff, Nat.reduceLT, Nat.reduceAdd, Nat.reduceMul, Nat.reduceMod, ↓reduceIte, reduceCtorEq, Nat.reduceLeDiff, hRl, hg, hsl, d2])
            refine W_cond rfl (fun h => by cases h) (fun _ => W_skip ?_)
            repeat (first | (refine W_seq ?_) | (refine W_reg ?_) | (refine W_regd ?_) | (refine W_regs ?_) | (refine W_block ?_) | (refine And.intro (by omega) ?_) | simp (maxSteps := 1000000) (disch := omega) only [cA, cB, lk, lkH, Dst.onT, Dst.onX, Dst.slot, setF, setH, mapF, mapH, initF, binE, unE, cnt, boundE, newsE, freshE, freshT, opE, rmH, blkQ, frz_us, Nat.reduceEqDiff, Nat.reduceLT, Nat.reduceAdd, Nat.reduceMul, Nat.reduceMod, ↓reduceIte, reduceCtorEq, Nat.reduceLeDiff, hRl, hg, hsl, d3, ej])
            refine ⟨i + 1, ⟨by omega, hts⟩, by omega, ?_⟩
            rw [ht2, ← Bool.or_assoc, hB]
            simp [subF, lk]
      · have d1 : decide ((i : Int) < (R.length : Int)) = false := decide_eq_false (by omega)
        rw [List.take_of_length_le (by omega)] at hany ⊢
        rw [if_neg (by rw [hany]; decide)] at hF
        repeat (first | (refine W_seq ?_) | (refine W_reg ?_) | (refine W_regd ?_) | (refine W_regs ?_) | (refine W_block ?_) | (refine And.intro (by omega) ?_) | simp (maxSteps := 1000000) (disch := omega) only [cA, cB, lk, lkH, Dst.onT, Dst.onX, Dst.slot, setF, setH, mapF, mapH, initF, binE, unE, cnt, boundE, newsE, freshE, freshT, opE, rmH, blkQ, frz_us, Nat.reduceEqDiff, Nat.reduceLT, Nat.reduceAdd, Nat.reduceMul, Nat.reduceMod, ↓reduceIte, reduceCtorEq, Nat.reduceLeDiff, hRl, d1])
        refine W_cond rfl (fun h => by cases h) (fun _ => ?_)
        refine W_exit ?_
        by_cases hlim : 1024 < R.length ∨ (R.any fun r => decide (32 < r.length)) = true
        · have hb : (decide (1024 < R.length) || R.any (fun r => decide (32 < r.length))) = true := by
            rcases hlim with h | h
            · rw [decide_eq_true h]; rfl
            · rw [h, Bool.or_true]
          rw [if_pos (by rcases hlim with h | h; exact .inl h; exact .inr (.inl h))] at hF
          subst hF
          repeat (first | (refine W_seq ?_) | (refine W_reg ?_) | (refine W_regd ?_) | (refine W_regs ?_) | (refine W_block ?_) | (refine And.intro (by omega) ?_) | simp (maxSteps := 1000000) (disch := omega) only [cA, cB, lk, lkH, Dst.onT, Dst.onX, Dst.slot, setF, setH, mapF, mapH, initF, binE, unE, cnt, boundE, newsE, freshE, freshT, opE, rmH, blkQ, frz_us, Nat.reduceEqDiff, Nat.reduceLT, Nat.reduceAdd, Nat.reduceMul, Nat.reduceMod, ↓reduceIte, reduceCtorEq, Nat.reduceLeDiff, hb])
          refine W_cond rfl (fun _ => ?_) (fun h => by cases h)
          repeat (first | (refine W_seq ?_) | (refine W_reg ?_) | (refine W_regd ?_) | (refine W_regs ?_) | (refine W_block ?_) | (refine And.intro (by omega) ?_) | simp (maxSteps := 1000000) (disch := omega) only [cA, cB, lk, lkH, Dst.onT, Dst.onX, Dst.slot, setF, setH, mapF, mapH, initF, binE, unE, cnt, boundE, newsE, freshE, freshT, opE, rmH, blkQ, frz_us, Nat.reduceEqDiff, Nat.reduceLT, Nat.reduceAdd, Nat.reduceMul, Nat.reduceMod, ↓reduceIte, reduceCtorEq, Nat.reduceLeDiff])
          exact W_ret (RetP_2 (.imm rfl) (.imm rfl))
        · rw [not_or] at hlim
          obtain ⟨hl1, hl2⟩ := hlim
          have hl2 : (R.any fun r => decide (32 < r.length)) = false := Bool.eq_false_iff.2 hl2
          have hb : (decide (1024 < R.length) || R.any (fun r => decide (32 < r.length))) = false := by
            rw [decide_eq_false hl1, hl2]; rfl
          have hFe : F = (if 65536 < (fmtS d R).length then DV.tup [.str [], .int .i64 (2 : Nat)] else .tup [.str (fmtS d R), .int .i64 (0 : Nat)]) := by
            rw [← hF, hl2]
            by_cases hs : 65536 < (fmtS d R).length
            · rw [if_pos (.inr (.inr hs)), if_pos hs]
            · rw [if_neg (by rintro (h | h | h) <;> first | omega | cases h), if_neg hs]
          rw [hFe]
          repeat (first | (refine W_seq ?_) | (refine W_reg ?_) | (refine W_regd ?_) | (refine W_regs ?_) | (refine W_block ?_) | (refine And.intro (by omega) ?_) | simp (maxSteps := 1000000) (disch := omega) only [cA, cB, lk, lkH, Dst.onT, Dst.onX, Dst.slot, setF, setH, mapF, mapH, initF, binE, unE, cnt, boundE, newsE, freshE, freshT, opE, rmH, blkQ, frz_us, Nat.reduceEqDiff, Nat.reduceLT, Nat.reduceAdd, Nat.reduceMul, Nat.reduceMod, ↓reduceIte, reduceCtorEq, Nat.reduceLeDiff, hb])
          refine W_cond rfl (fun h => by cases h) (fun _ => W_skip ?_)
          exact W_sub (by simp [FRr, subF, lk]) (fmt_build R d hd hR hr hS)
end Go.Proofs.YtgonkeglcehkeaaDoor
namespace Go.Proofs.YtgonkeglcehkeaaDoor
open Go Go.Dat Go.Proofs Go.RowKit Go.Shelf Nat32
def dl (w : UInt8) : UInt8 := [44, 59, 9, 124].getD (w.toNat % 4) 0
end Go.Proofs.YtgonkeglcehkeaaDoor
namespace Go.Proofs.YtgonkeglcehkeaaDoor
open Go Go.Dat Go.Proofs Go.RowKit Go.Shelf Nat32
def cntR : DC := sndC (sndC (sndC (sndC codeldCounts)))
def rep (n k : Nat) (f : Bs) : List (List Bs) := List.replicate n (List.replicate k f)
theorem rep_fmt {f : Bs} (hf : f.length ≤ 3) (n k : Nat) (d : UInt8) : (fmtS d (rep n k f)).length ≤ 12 * k * n + n := by
  have h1 := fmtS_le d (rep n k f)
  have h2 : wgts (rep n k f) ≤ 4 * k * (rep n k f).length := wgts_le _ fun r hr => by
    obtain rfl := List.eq_of_mem_replicate hr
    have := wgt_le (B := 3) (List.replicate k f) fun g hg => by
      obtain rfl := List.eq_of_mem_replicate hg
      exact hf
    rwa [List.length_replicate] at this
  have h3 : (rep n k f).length = n := List.length_replicate ..
  rw [h3] at h1 h2
  have h4 : 12 * k * n = 3 * (4 * k * n) := by rw [← Nat.mul_assoc, ← Nat.mul_assoc]
  omega
theorem rep_mem {f : Bs} (hf : f.length ≤ 3) {n k : Nat} {r : List Bs} (hr : r ∈ rep n k f) : r = List.replicate k f := List.eq_of_mem_replicate hr
set_option maxHeartbeats 8000000 in
set_option maxRecDepth 10000 in
theorem cnt_rest (f : Bs) (hf : f.length ≤ 3) (n k : Nat) (hn : n ≤ 1043) (hk1 : 1 ≤ k) (hk : k ≤ 36) (hnk : n ≤ 60 ∨ k ≤ 2) :
    W fnldCounts cntR (RetP resldCounts (.bool true)) [(0, .str f), (6, .bool false), (7, .int .i64 n), (8, .int .i64 k)] [] := by
  have aw := awake_calls
  have hlenR : (rep n k f).length = n := List.length_replicate ..
  have hbig : (fmtS 59 (rep n k f)).length ≤ 1000000 := by
    have h1 := rep_fmt hf n k 59
    have h2 : 12 * k * n ≤ 12 * 36 * 1043 := Nat.mul_le_mul (Nat.mul_le_mul_left _ hk) hn
    omega
  have cf : PCalls Tryd.prog 9 [.sl 1 (recD (rep n k f)), .int .u8 59] (fmtD (rep n k f) 59) := dformat_calls (rep n k f) 59 (by omega) (fun r hr => by
    obtain rfl := rep_mem hf hr
    refine ⟨by rw [List.length_replicate]; omega, fun g hg => ?_⟩
    obtain rfl := List.eq_of_mem_replicate hg
    omega) (by omega)
  unfold cntR codeldCounts
  simp only [sndC]
  refine W_seq ?_
  refine W_reg ?_
  simp (maxSteps := 1000000) (disch := omega) only [cA, cB, lk, lkH, Dst.onT, Dst.onX, Dst.slot, setF, setH, mapF, mapH, initF, binE, unE, cnt, boundE, newsE, freshE, freshT, opE, rmH, blkQ, frz_us, Nat.reduceEqDiff, Nat.reduceLT, Nat.reduceAdd, Nat.reduceMul, Nat.reduceMod, ↓reduceIte, reduceCtorEq, Nat.reduceLeDiff]
  refine W_own 9 1 52 rfl rfl ?_
  simp (maxSteps := 1000000) (disch := omega) only [cA, cB, lk, lkH, Dst.onT, Dst.onX, Dst.slot, setF, setH, mapF, mapH, initF, binE, unE, cnt, boundE, newsE, freshE, freshT, opE, rmH, blkQ, frz_us, Nat.reduceEqDiff, Nat.reduceLT, Nat.reduceAdd, Nat.reduceMul, Nat.reduceMod, ↓reduceIte, reduceCtorEq, Nat.reduceLeDiff]
  refine W_seq ?_
  refine W_seq ?_
  refine W_reg ?_
  simp (maxSteps := 1000000) (disch := omega) only [cA, cB, lk, lkH, Dst.onT, Dst.onX, Dst.slot, setF, setH, mapF, mapH, initF, binE, unE, cnt, boundE, newsE, freshE, freshT, opE, rmH, blkQ, frz_us, Nat.reduceEqDiff, Nat.reduceLT, Nat.reduceAdd, Nat.reduceMul, Nat.reduceMod, ↓reduceIte, reduceCtorEq, Nat.reduceLeDiff]
  refine W_block ?_
  refine W_loop (σ := Nat) (fun i => [(0, .str f), (6, .bool false), (7, .int .i64 n), (8, .int .i64 k), (9, .osl 1 52 0 i), (10, .int .i64 i)]) (fun i => [(52, recD (rep i k f))]) (fun i => i ≤ n) (fun i => n - i) 0 (Nat.zero_le _) ?_ rfl ?_
  · simp [subF, lk]
  · intro i hi
    try simp only at hi ⊢
    have hRi := recD_len (rep i k f)
    have hri : (rep i k f).length = i := List.length_replicate ..
    rw [hri] at hRi
    by_cases hlt : i < n
    · have d1 : decide ((i : Int) < (n : Int)) = true := decide_eq_true (by omega)
      have ei : (i : Int) + 1 = ((i + 1 : Nat) : Int) := by omega
      repeat (first | (refine W_seq ?_) | (refine W_reg ?_) | (refine W_regd ?_) | (refine W_regs ?_) | (refine W_block ?_) | (refine And.intro (by omega) ?_) | simp (maxSteps := 1000000) (disch := omega) only [cA, cB, lk, lkH, Dst.onT, Dst.onX, Dst.slot, setF, setH, mapF, mapH, initF, binE, unE, cnt, boundE, newsE, freshE, freshT, opE, rmH, blkQ, frz_us, Nat.reduceEqDiff, Nat.reduceLT, Nat.reduceAdd, Nat.reduceMul, Nat.reduceMod, ↓reduceIte, reduceCtorEq, Nat.reduceLeDiff, d1])
      refine W_cond rfl (fun _ => W_skip ?_) (fun h => by cases h)
      refine W_seq ?_
      refine W_block ?_
      refine W_seq ?_
      refine W_reg ?_
      simp (maxSteps := 1000000) (disch := omega) only [cA, cB, lk, lkH, Dst.onT, Dst.onX, Dst.slot, setF, setH, mapF, mapH, initF, binE, unE, cnt, boundE, newsE, freshE, freshT, opE, rmH, blkQ, frz_us, Nat.reduceEqDiff, Nat.reduceLT, Nat.reduceAdd, Nat.reduceMul, Nat.reduceMod, ↓reduceIte, reduceCtorEq, Nat.reduceLeDiff]
      refine W_own 11 1 50 rfl rfl ?_
      simp (maxSteps := 1000000) (disch := omega) only [cA, cB, lk, lkH, Dst.onT, Dst.onX, Dst.slot, setF, setH, mapF, mapH, initF, binE, unE, cnt, boundE, newsE, freshE, freshT, opE, rmH, blkQ, frz_us, Nat.reduceEqDiff, Nat.reduceLT, Nat.reduceAdd, Nat.reduceMul, Nat.reduceMod, ↓reduceIte, reduceCtorEq, Nat.reduceLeDiff]
      refine W_seq ?_
      refine W_seq ?_
      refine W_reg ?_
      simp (maxSteps := 1000000) (disch := omega) only [cA, cB, lk, lkH, Dst.onT, Dst.onX, Dst.slot, setF, setH, mapF, mapH, initF, binE, unE, cnt, boundE, newsE, freshE, freshT, opE, rmH, blkQ, frz_us, Nat.reduceEqDiff, Nat.reduceLT, Nat.reduceAdd, Nat.reduceMul, Nat.reduceMod, ↓reduceIte, reduceCtorEq, Nat.reduceLeDiff]
      refine W_block ?_
      refine W_loop (σ := Nat) (fun j => [(0, .str f), (6, .bool false), (7, .int .i64 n), (8, .int .i64 k), (9, .osl 1 52 0 i), (10, .int .i64 i), (11, .osl 1 50 0 j), (12, .int .i64 j)])
        (fun j => [(50, strL (List.replicate j f)), (52, recD (rep i k f))]) (fun j => j ≤ k) (fun j => k - j) 0 (Nat.zero_le _) ?_ rfl ?_
      · simp [subF, lk]
      · intro j hj
        try simp only at hj ⊢
        have hsl := strL_len (List.replicate j f)
        rw [List.length_replicate] at hsl
        by_cases hjl : j < k
        · have dj : decide ((j : Int) < (k : Int)) = true := decide_eq_true (by omega)
          have ej : (j : Int) + 1 = ((j + 1 : Nat) : Int) := by omega
          have hpS : ∀ l, (strL l).map (purge 50) = strL l := fun l => map_purge 50 (strL_rf l)
          have hpC : ∀ R, (recD R).map (purge 50) = recD R := fun R => map_purge 50 (recD_rf R)
          have hrs : List.replicate j f ++ [f] = List.replicate (j + 1) f := List.replicate_succ'.symm
          repeat (first | (refine W_seq ?_) | (refine W_reg ?_) | (refine W_regd ?_) | (refine W_regs ?_) | (refine W_block ?_) | (refine And.intro (by omega) ?_) | simp (maxSteps := 1000000) (disch := omega) only [cA, cB, lk, lkH, Dst.onT, Dst.onX, Dst.slot, setF, setH, mapF, mapH, initF, binE, unE, cnt, boundE, newsE, freshE, freshT, opE, rmH, blkQ, frz_us, Nat.reduceEqDiff, Nat.reduceLT, Nat.reduceAdd, Nat.reduceMul, Nat.reduceMod, ↓reduceIte, reduceCtorEq, Nat.reduceLeDiff, dj])
          refine W_cond rfl (fun _ => W_skip ?_) (fun h => by cases h)
          repeat (first | (refine W_seq ?_) | (refine W_reg ?_) | (refine W_regd ?_) | (refine W_regs ?_) | (refine W_block ?_) | (refine And.intro (by omega) ?_) | simp (maxSteps := 1000000) (disch := omega) only [cA, cB, lk, lkH, Dst.onT, Dst.onX, Dst.slot, setF, setH, mapF, mapH, initF, binE, unE, cnt, boundE, newsE, freshE, freshT, opE, rmH, blkQ, frz_us, Nat.reduceEqDiff, Nat.reduceLT, Nat.reduceAdd, Nat.reduceMul, Nat.reduceMod, ↓reduceIte, reduceCtorEq, Nat.reduceLeDiff, cS, hpC, hpS, strL_snoc, hrs])
          refine And.intro (by simp [DV.rf]) (And.intro ⟨hsl, by omega, by omega, fun h => h, by simp [DV.one]⟩ ?_)
          repeat (first | (refine W_seq ?_) | (refine W_reg ?_) | (refine W_regd ?_) | (refine W_regs ?_) | (refine W_block ?_) | (refine And.intro (by omega) ?_) | simp (maxSteps := 1000000) (disch := omega) only [cA, cB, lk, lkH, Dst.onT, Dst.onX, Dst.slot, setF, setH, mapF, mapH, initF, binE, unE, cnt, boundE, newsE, freshE, freshT, opE, rmH, blkQ, frz_us, Nat.reduceEqDiff, Nat.reduceLT, Nat.reduceAdd, Nat.reduceMul, Nat.reduceMod, ↓reduceIte, reduceCtorEq, Nat.reduceLeDiff, cS, hpC, hpS, strL_snoc, hrs, ej])
          exact ⟨j + 1, by omega, by omega, by simp [subF, lk], rfl⟩
        · have dj : decide ((j : Int) < (k : Int)) = false := decide_eq_false (by omega)
          obtain rfl : j = k := by omega
          have hfz : frz 50 (strL (List.replicate j f)) (.osl 1 50 0 j) = .sl 1 (strL (List.replicate j f)) := by
            simp only [frz, if_true, Nat.zero_add, List.drop_zero, Nat.mul_one]
            rw [if_pos (by omega), List.take_of_length_le (Nat.le_of_eq hsl)]
          have hfC : (recD (rep i j f)).map (frz 50 (strL (List.replicate j f))) = recD (rep i j f) := map_frz 50 _ (recD_rf _)
          have hpR : ∀ X, (recD X).map (purge 52) = recD X := fun X => map_purge 52 (recD_rf X)
          have hrs : rep i j f ++ [List.replicate j f] = rep (i + 1) j f := List.replicate_succ'.symm
          repeat (first | (refine W_seq ?_) | (refine W_reg ?_) | (refine W_regd ?_) | (refine W_regs ?_) | (refine W_block ?_) | (refine And.intro (by omega) ?_) | simp (maxSteps := 1000000) (disch := omega) only [cA, cB, lk, lkH, Dst.onT, Dst.onX, Dst.slot, setF, setH, mapF, mapH, initF, binE, unE, cnt, boundE, newsE, freshE, freshT, opE, rmH, blkQ, frz_us, Nat.reduceEqDiff, Nat.reduceLT, Nat.reduceAdd, Nat.reduceMul, Nat.reduceMod, ↓reduceIte, reduceCtorEq, Nat.reduceLeDiff, dj])
          refine W_cond rfl (fun h => by cases h) (fun _ => ?_)
          refine W_exit ?_
          refine W_freeze 50 (cells := strL (List.replicate j f)) rfl (List.all_eq_true.2 (strL_rf _)) ?_
          repeat (first | (refine W_seq ?_) | (refine W_reg ?_) | (refine W_regd ?_) | (refine W_regs ?_) | (refine W_block ?_) | (refine And.intro (by omega) ?_) | simp (maxSteps := 1000000) (disch := omega) only [cA, cB, lk, lkH, Dst.onT, Dst.onX, Dst.slot, setF, setH, mapF, mapH, initF, binE, unE, cnt, boundE, newsE, freshE, freshT, opE, rmH, blkQ, frz_us, Nat.reduceEqDiff, Nat.reduceLT, Nat.reduceAdd, Nat.reduceMul, Nat.reduceMod, ↓reduceIte, reduceCtorEq, Nat.reduceLeDiff, cS, hfz, hfC, hpR, recD_snoc, hrs])
          refine And.intro (by simp [DV.rf]) (And.intro ⟨hRi, by omega, by omega, fun h => h, by simp [DV.one]⟩ ?_)
          repeat (first | (refine W_seq ?_) | (refine W_reg ?_) | (refine W_regd ?_) | (refine W_regs ?_) | (refine W_block ?_) | (refine And.intro (by omega) ?_) | simp (maxSteps := 1000000) (disch := omega) only [cA, cB, lk, lkH, Dst.onT, Dst.onX, Dst.slot, setF, setH, mapF, mapH, initF, binE, unE, cnt, boundE, newsE, freshE, freshT, opE, rmH, blkQ, frz_us, Nat.reduceEqDiff, Nat.reduceLT, Nat.reduceAdd, Nat.reduceMul, Nat.reduceMod, ↓reduceIte, reduceCtorEq, Nat.reduceLeDiff, cS, hfz, hfC, hpR, recD_snoc, hrs, ei])
          exact ⟨i + 1, by omega, by omega, by simp [subF, lk], rfl⟩
    · have d1 : decide ((i : Int) < (n : Int)) = false := decide_eq_false (by omega)
      obtain rfl : i = n := by omega
      have hfz : frz 52 (recD (rep i k f)) (.osl 1 52 0 i) = .sl 1 (recD (rep i k f)) := by
        simp only [frz, if_true, Nat.zero_add, List.drop_zero, Nat.mul_one]
        rw [if_pos (by omega), List.take_of_length_le (Nat.le_of_eq hRi)]
      repeat (first | (refine W_seq ?_) | (refine W_reg ?_) | (refine W_regd ?_) | (refine W_regs ?_) | (refine W_block ?_) | (refine And.intro (by omega) ?_) | simp (maxSteps := 1000000) (disch := omega) only [cA, cB, lk, lkH, Dst.onT, Dst.onX, Dst.slot, setF, setH, mapF, mapH, initF, binE, unE, cnt, boundE, newsE, freshE, freshT, opE, rmH, blkQ, frz_us, Nat.reduceEqDiff, Nat.reduceLT, Nat.reduceAdd, Nat.reduceMul, Nat.reduceMod, ↓reduceIte, reduceCtorEq, Nat.reduceLeDiff, d1])
      refine W_cond rfl (fun h => by cases h) (fun _ => ?_)
      refine W_exit ?_
      refine W_freeze 52 (cells := recD (rep i k f)) rfl (List.all_eq_true.2 (recD_rf _)) ?_
      repeat (first | (refine W_seq ?_) | (refine W_reg ?_) | (refine W_regd ?_) | (refine W_regs ?_) | (refine W_block ?_) | (refine And.intro (by omega) ?_) | simp (maxSteps := 1000000) (disch := omega) only [cA, cB, lk, lkH, Dst.onT, Dst.onX, Dst.slot, setF, setH, mapF, mapH, initF, binE, unE, cnt, boundE, newsE, freshE, freshT, opE, rmH, blkQ, frz_us, Nat.reduceEqDiff, Nat.reduceLT, Nat.reduceAdd, Nat.reduceMul, Nat.reduceMod, ↓reduceIte, reduceCtorEq, Nat.reduceLeDiff, hfz])
      obtain ⟨R, hR⟩ : ∃ R, rep i k f = R := ⟨_, rfl⟩
      have hmem : ∀ r ∈ R, r = List.replicate k f := fun r hr => List.eq_of_mem_replicate (hR ▸ hr)
      have hne : R.any (fun r => r.isEmpty) = false := List.any_eq_false.2 fun r hr => by
        obtain rfl := hmem r hr
        cases k with
        | zero => omega
        | succ k => simp [List.replicate_succ]
      have hdel : delB 59 = true := by decide
      rw [hR] at cf hlenR hbig ⊢
      unfold fmtD at cf
      rw [if_neg (by decide), if_neg (by rw [hne]; decide)] at cf
      by_cases hlim : 1024 < i ∨ (0 < i ∧ 32 < k)
      · have hany : 1024 < R.length ∨ R.any (fun r => decide (32 < r.length)) = true ∨ 65536 < (fmtS 59 R).length := by
          rcases hlim with h | ⟨h1, h2⟩
          · exact .inl (by omega)
          · refine .inr (.inl (List.any_eq_true.2 ⟨List.replicate k f, ?_, ?_⟩))
            · rw [← hR]
              exact List.mem_replicate.2 ⟨by omega, rfl⟩
            · rw [List.length_replicate]; exact decide_eq_true h2
        have n2 : ((2 : Nat) : Int) = 2 := rfl
        rw [if_pos hany, n2] at cf
        by_cases h1 : 1024 < i
        · have dn : decide ((1024 : Int) < (i : Int)) = true := decide_eq_true (by omega)
          repeat (first | (refine W_seq ?_) | (refine W_reg ?_) | (refine W_regd ?_) | (refine W_regs ?_) | (refine W_block ?_) | (refine And.intro (by omega) ?_) | simp (maxSteps := 1000000) (disch := omega) only [cA, cB, lk, lkH, Dst.onT, Dst.onX, Dst.slot, setF, setH, mapF, mapH, initF, binE, unE, cnt, boundE, newsE, freshE, freshT, opE, rmH, blkQ, frz_us, Nat.reduceEqDiff, Nat.reduceLT, Nat.reduceAdd, Nat.reduceMul, Nat.reduceMod, ↓reduceIte, reduceCtorEq, Nat.reduceLeDiff, dn, decide_true] | (refine callC_pure (cf) rfl ?_) | (refine callC_pure (aw) rfl ?_) | exact W_ret (RetP_1 (.imm rfl)) | exact W_ret (RetP_c rfl rfl rfl (.imm rfl)))
          refine W_cond rfl (fun _ => ?_) (fun h => by cases h)
          repeat (first | (refine W_seq ?_) | (refine W_reg ?_) | (refine W_regd ?_) | (refine W_regs ?_) | (refine W_block ?_) | (refine And.intro (by omega) ?_) | simp (maxSteps := 1000000) (disch := omega) only [cA, cB, lk, lkH, Dst.onT, Dst.onX, Dst.slot, setF, setH, mapF, mapH, initF, binE, unE, cnt, boundE, newsE, freshE, freshT, opE, rmH, blkQ, frz_us, Nat.reduceEqDiff, Nat.reduceLT, Nat.reduceAdd, Nat.reduceMul, Nat.reduceMod, ↓reduceIte, reduceCtorEq, Nat.reduceLeDiff, decide_true] | (refine callC_pure (cf) rfl ?_) | (refine callC_pure (aw) rfl ?_) | exact W_ret (RetP_1 (.imm rfl)) | exact W_ret (RetP_c rfl rfl rfl (.imm rfl)))
        · have dn : decide ((1024 : Int) < (i : Int)) = false := decide_eq_false (by omega)
          have d0 : decide ((0 : Int) < (i : Int)) = true := decide_eq_true (by omega)
          have dk : decide ((32 : Int) < (k : Int)) = true := decide_eq_true (by omega)
          repeat (first | (refine W_seq ?_) | (refine W_reg ?_) | (refine W_regd ?_) | (refine W_regs ?_) | (refine W_block ?_) | (refine And.intro (by omega) ?_) | simp (maxSteps := 1000000) (disch := omega) only [cA, cB, lk, lkH, Dst.onT, Dst.onX, Dst.slot, setF, setH, mapF, mapH, initF, binE, unE, cnt, boundE, newsE, freshE, freshT, opE, rmH, blkQ, frz_us, Nat.reduceEqDiff, Nat.reduceLT, Nat.reduceAdd, Nat.reduceMul, Nat.reduceMod, ↓reduceIte, reduceCtorEq, Nat.reduceLeDiff, dn, d0, dk, decide_true] | (refine callC_pure (cf) rfl ?_) | (refine callC_pure (aw) rfl ?_) | exact W_ret (RetP_1 (.imm rfl)) | exact W_ret (RetP_c rfl rfl rfl (.imm rfl)))
          refine W_cond rfl (fun _ => ?_) (fun h => by cases h)
          repeat (first | (refine W_seq ?_) | (refine W_reg ?_) | (refine W_regd ?_) | (refine W_regs ?_) | (refine W_block ?_) | (refine And.intro (by omega) ?_) | simp (maxSteps := 1000000) (disch := omega) only [cA, cB, lk, lkH, Dst.onT, Dst.onX, Dst.slot, setF, setH, mapF, mapH, initF, binE, unE, cnt, boundE, newsE, freshE, freshT, opE, rmH, blkQ, frz_us, Nat.reduceEqDiff, Nat.reduceLT, Nat.reduceAdd, Nat.reduceMul, Nat.reduceMod, ↓reduceIte, reduceCtorEq, Nat.reduceLeDiff, decide_true] | (refine callC_pure (cf) rfl ?_) | (refine callC_pure (aw) rfl ?_) | exact W_ret (RetP_1 (.imm rfl)) | exact W_ret (RetP_c rfl rfl rfl (.imm rfl)))
      · rw [not_or] at hlim
        obtain ⟨hl1, hl2⟩ := hlim
        have h32 : ∀ r ∈ R, r ≠ [] ∧ r.length ≤ 32 := fun r hr => by
          have hi0 : 0 < i := by
            cases R with
            | nil => cases hr
            | cons a b => simp at hlenR; omega
          obtain rfl := hmem r hr
          refine ⟨fun h => ?_, by rw [List.length_replicate]; omega⟩
          have := congrArg List.length h
          rw [List.length_replicate] at this
          simp at this; omega
        have hany : R.any (fun r => decide (32 < r.length)) = false := List.any_eq_false.2 fun r hr => by
          have := (h32 r hr).2
          simp; omega
        have hsz : (fmtS 59 R).length ≤ 65536 := by
          have h1 := rep_fmt hf i k 59
          rw [hR] at h1
          by_cases hi0 : i = 0
          · subst hi0; omega
          · rcases hnk with h | h
            · have : 12 * k * i ≤ 12 * 32 * 60 := Nat.mul_le_mul (Nat.mul_le_mul_left _ (by omega)) h
              omega
            · have : 12 * k * i ≤ 12 * 2 * 1024 := Nat.mul_le_mul (Nat.mul_le_mul_left _ h) (by omega)
              omega
        have n0 : ((0 : Nat) : Int) = 0 := rfl
        rw [if_neg (by rw [hany]; rintro (h | h | h) <;> first | omega | cases h), n0] at cf
        have hpb := parS_back hdel h32 (by omega)
        have cp : PCalls Tryd.prog 11 [.str (fmtS 59 R), .int .u8 59] (dpD (fmtS 59 R) 59) := parse_calls (fmtS 59 R) 59
        unfold dpD at cp
        rw [if_neg (by decide), if_neg (by omega), hpb] at cp
        simp only at cp
        rw [n0] at cp
        have cs := same_calls R (by omega) (fun x hx => by have := (h32 x hx).2; omega)
        have dn : decide ((1024 : Int) < (i : Int)) = false := decide_eq_false (by omega)
        obtain ⟨S, hS⟩ : ∃ S, fmtS 59 R = S := ⟨_, rfl⟩
        rw [hS] at cf cp
        by_cases hi0 : 0 < i
        · have d0 : decide ((0 : Int) < (i : Int)) = true := decide_eq_true (by omega)
          have dk : decide ((32 : Int) < (k : Int)) = false := decide_eq_false (by omega)
          repeat (first | (refine W_seq ?_) | (refine W_reg ?_) | (refine W_regd ?_) | (refine W_regs ?_) | (refine W_block ?_) | (refine And.intro (by omega) ?_) | simp (maxSteps := 1000000) (disch := omega) only [cA, cB, lk, lkH, Dst.onT, Dst.onX, Dst.slot, setF, setH, mapF, mapH, initF, binE, unE, cnt, boundE, newsE, freshE, freshT, opE, rmH, blkQ, frz_us, Nat.reduceEqDiff, Nat.reduceLT, Nat.reduceAdd, Nat.reduceMul, Nat.reduceMod, ↓reduceIte, reduceCtorEq, Nat.reduceLeDiff, dn, d0, dk, decide_true] | (refine callC_pure (cf) rfl ?_) | (refine callC_pure (aw) rfl ?_) | exact W_ret (RetP_1 (.imm rfl)) | exact W_ret (RetP_c rfl rfl rfl (.imm rfl)))
          refine W_cond rfl (fun h => by cases h) (fun _ => W_skip ?_)
          repeat (first | (refine W_seq ?_) | (refine W_reg ?_) | (refine W_regd ?_) | (refine W_regs ?_) | (refine W_block ?_) | (refine And.intro (by omega) ?_) | simp (maxSteps := 1000000) (disch := omega) only [cA, cB, lk, lkH, Dst.onT, Dst.onX, Dst.slot, setF, setH, mapF, mapH, initF, binE, unE, cnt, boundE, newsE, freshE, freshT, opE, rmH, blkQ, frz_us, Nat.reduceEqDiff, Nat.reduceLT, Nat.reduceAdd, Nat.reduceMul, Nat.reduceMod, ↓reduceIte, reduceCtorEq, Nat.reduceLeDiff, decide_true] | (refine callC_pure (cp) rfl ?_) | (refine callC_pure (aw) rfl ?_) | (refine callC_pure (cs) rfl ?_) | exact W_ret (RetP_1 (.imm rfl)) | exact W_ret (RetP_c rfl rfl rfl (.imm rfl)))
        · have d0 : decide ((0 : Int) < (i : Int)) = false := decide_eq_false (by omega)
          repeat (first | (refine W_seq ?_) | (refine W_reg ?_) | (refine W_regd ?_) | (refine W_regs ?_) | (refine W_block ?_) | (refine And.intro (by omega) ?_) | simp (maxSteps := 1000000) (disch := omega) only [cA, cB, lk, lkH, Dst.onT, Dst.onX, Dst.slot, setF, setH, mapF, mapH, initF, binE, unE, cnt, boundE, newsE, freshE, freshT, opE, rmH, blkQ, frz_us, Nat.reduceEqDiff, Nat.reduceLT, Nat.reduceAdd, Nat.reduceMul, Nat.reduceMod, ↓reduceIte, reduceCtorEq, Nat.reduceLeDiff, dn, d0, decide_true] | (refine callC_pure (cf) rfl ?_) | (refine callC_pure (aw) rfl ?_) | exact W_ret (RetP_1 (.imm rfl)) | exact W_ret (RetP_c rfl rfl rfl (.imm rfl)))
          refine W_cond rfl (fun h => by cases h) (fun _ => W_skip ?_)
          repeat (first | (refine W_seq ?_) | (refine W_reg ?_) | (refine W_regd ?_) | (refine W_regs ?_) | (refine W_block ?_) | (refine And.intro (by omega) ?_) | simp (maxSteps := 1000000) (disch := omega) only [cA, cB, lk, lkH, Dst.onT, Dst.onX, Dst.slot, setF, setH, mapF, mapH, initF, binE, unE, cnt, boundE, newsE, freshE, freshT, opE, rmH, blkQ, frz_us, Nat.reduceEqDiff, Nat.reduceLT, Nat.reduceAdd, Nat.reduceMul, Nat.reduceMod, ↓reduceIte, reduceCtorEq, Nat.reduceLeDiff, decide_true] | (refine callC_pure (cp) rfl ?_) | (refine callC_pure (aw) rfl ?_) | (refine callC_pure (cs) rfl ?_) | exact W_ret (RetP_1 (.imm rfl)) | exact W_ret (RetP_c rfl rfl rfl (.imm rfl)))
set_option maxHeartbeats 8000000 in
set_option maxRecDepth 10000 in
theorem ldCounts_calls (f : Bs) (a b : Nat) (ha : a ≤ 65535) (hb : b ≤ 65535) : PCalls Tryd.prog 4 [.str f, .int .u16 a, .int .u16 b] (.bool true) := by
  have aw := awake_calls
  refine PCalls_of isldCounts (by simp [fnldCounts]) ?_
  by_cases h3 : 3 < f.length
  · have d3 : decide ((3 : Int) < (f.length : Int)) = true := decide_eq_true (by omega)
    unfold codeldCounts
    repeat (first | (refine W_seq ?_) | (refine W_reg ?_) | (refine W_regd ?_) | (refine W_regs ?_) | (refine W_block ?_) | (refine And.intro (by omega) ?_) | simp (maxSteps := 1000000) (disch := omega) only [cA, cB, lk, lkH, Dst.onT, Dst.onX, Dst.slot, setF, setH, mapF, mapH, initF, binE, unE, cnt, boundE, newsE, freshE, freshT, opE, rmH, blkQ, frz_us, Nat.reduceEqDiff, Nat.reduceLT, Nat.reduceAdd, Nat.reduceMul, Nat.reduceMod, ↓reduceIte, reduceCtorEq, Nat.reduceLeDiff, d3])
    refine W_cond rfl (fun _ => ?_) (fun h => by cases h)
    repeat (first | (refine W_seq ?_) | (refine W_reg ?_) | (refine W_regd ?_) | (refine W_regs ?_) | (refine W_block ?_) | (refine And.intro (by omega) ?_) | simp (maxSteps := 1000000) (disch := omega) only [cA, cB, lk, lkH, Dst.onT, Dst.onX, Dst.slot, setF, setH, mapF, mapH, initF, binE, unE, cnt, boundE, newsE, freshE, freshT, opE, rmH, blkQ, frz_us, Nat.reduceEqDiff, Nat.reduceLT, Nat.reduceAdd, Nat.reduceMul, Nat.reduceMod, ↓reduceIte, reduceCtorEq, Nat.reduceLeDiff] | (refine callC_pure (aw) rfl ?_) | exact W_ret (RetP_1 (.imm rfl)) | exact W_ret (RetP_c rfl rfl rfl (.imm rfl)))
  · have d3 : decide ((3 : Int) < (f.length : Int)) = false := decide_eq_false (by omega)
    have hrest := fun n k h1 h2 h3' h4 => cnt_rest f (by omega) n k h1 h2 h3' h4
    unfold cntR at hrest
    unfold codeldCounts at hrest ⊢
    simp only [sndC] at hrest
    obtain ⟨n, hn, hn2⟩ : ∃ n : Nat, ((a : Nat) : Int).tmod 1044 = (n : Int) ∧ n < 1044 := ⟨a % 1044, by rw [Int.tmod_eq_emod_of_nonneg (by omega)]; omega, by omega⟩
    obtain ⟨q, hq, hq2⟩ : ∃ q : Nat, ((b : Nat) : Int).tmod 36 = (q : Int) ∧ q < 36 := ⟨b % 36, by rw [Int.tmod_eq_emod_of_nonneg (by omega)]; omega, by omega⟩
    have ek : (1 : Int) + (q : Int) = ((1 + q : Nat) : Int) := by omega
    repeat (first | (refine W_seq ?_) | (refine W_reg ?_) | (refine W_regd ?_) | (refine W_regs ?_) | (refine W_block ?_) | (refine And.intro (by omega) ?_) | simp (maxSteps := 1000000) (disch := omega) only [cA, cB, lk, lkH, Dst.onT, Dst.onX, Dst.slot, setF, setH, mapF, mapH, initF, binE, unE, cnt, boundE, newsE, freshE, freshT, opE, rmH, blkQ, frz_us, Nat.reduceEqDiff, Nat.reduceLT, Nat.reduceAdd, Nat.reduceMul, Nat.reduceMod, ↓reduceIte, reduceCtorEq, Nat.reduceLeDiff, d3])
    refine W_cond rfl (fun h => by cases h) (fun _ => W_skip ?_)
    by_cases h60 : 60 < n
    · have d60 : decide ((60 : Int) < (n : Int)) = true := decide_eq_true (by omega)
      by_cases hk2 : 2 < 1 + q
      · have dk : decide ((2 : Int) < ((1 + q : Nat) : Int)) = true := decide_eq_true (by omega)
        obtain ⟨m, hm, hm2⟩ : ∃ m : Nat, ((n : Nat) : Int).tmod 60 = (m : Int) ∧ m < 60 := ⟨n % 60, by rw [Int.tmod_eq_emod_of_nonneg (by omega)]; omega, by omega⟩
        repeat (first | (refine W_seq ?_) | (refine W_reg ?_) | (refine W_regd ?_) | (refine W_regs ?_) | (refine W_block ?_) | (refine And.intro (by omega) ?_) | simp (maxSteps := 1000000) (disch := omega) only [cA, cB, lk, lkH, Dst.onT, Dst.onX, Dst.slot, setF, setH, mapF, mapH, initF, binE, unE, cnt, boundE, newsE, freshE, freshT, opE, rmH, blkQ, frz_us, Nat.reduceEqDiff, Nat.reduceLT, Nat.reduceAdd, Nat.reduceMul, Nat.reduceMod, ↓reduceIte, reduceCtorEq, Nat.reduceLeDiff, hn, hq, ek, d60, dk])
        refine W_cond rfl (fun _ => ?_) (fun h => by cases h)
        refine W_reg ?_
        simp (maxSteps := 1000000) (disch := omega) only [cA, cB, lk, lkH, Dst.onT, Dst.onX, Dst.slot, setF, setH, mapF, mapH, initF, binE, unE, cnt, boundE, newsE, freshE, freshT, opE, rmH, blkQ, frz_us, Nat.reduceEqDiff, Nat.reduceLT, Nat.reduceAdd, Nat.reduceMul, Nat.reduceMod, ↓reduceIte, reduceCtorEq, Nat.reduceLeDiff, hm]
        refine And.intro (by decide) ?_
        exact W_sub (by simp [subF, lk]) (hrest m (1 + q) (by omega) (by omega) (by omega) (.inl (by omega)))
      · have dk : decide ((2 : Int) < ((1 + q : Nat) : Int)) = false := decide_eq_false (by omega)
        repeat (first | (refine W_seq ?_) | (refine W_reg ?_) | (refine W_regd ?_) | (refine W_regs ?_) | (refine W_block ?_) | (refine And.intro (by omega) ?_) | simp (maxSteps := 1000000) (disch := omega) only [cA, cB, lk, lkH, Dst.onT, Dst.onX, Dst.slot, setF, setH, mapF, mapH, initF, binE, unE, cnt, boundE, newsE, freshE, freshT, opE, rmH, blkQ, frz_us, Nat.reduceEqDiff, Nat.reduceLT, Nat.reduceAdd, Nat.reduceMul, Nat.reduceMod, ↓reduceIte, reduceCtorEq, Nat.reduceLeDiff, hn, hq, ek, d60, dk])
        refine W_cond rfl (fun h => by cases h) (fun _ => W_skip ?_)
        exact W_sub (by simp [subF, lk]) (hrest n (1 + q) (by omega) (by omega) (by omega) (.inr (by omega)))
    · have d60 : decide ((60 : Int) < (n : Int)) = false := decide_eq_false (by omega)
      repeat (first | (refine W_seq ?_) | (refine W_reg ?_) | (refine W_regd ?_) | (refine W_regs ?_) | (refine W_block ?_) | (refine And.intro (by omega) ?_) | simp (maxSteps := 1000000) (disch := omega) only [cA, cB, lk, lkH, Dst.onT, Dst.onX, Dst.slot, setF, setH, mapF, mapH, initF, binE, unE, cnt, boundE, newsE, freshE, freshT, opE, rmH, blkQ, frz_us, Nat.reduceEqDiff, Nat.reduceLT, Nat.reduceAdd, Nat.reduceMul, Nat.reduceMod, ↓reduceIte, reduceCtorEq, Nat.reduceLeDiff, hn, hq, ek, d60])
      refine W_cond rfl (fun h => by cases h) (fun _ => W_skip ?_)
      exact W_sub (by simp [subF, lk]) (hrest n (1 + q) (by omega) (by omega) (by omega) (.inl (by omega)))
end Go.Proofs.YtgonkeglcehkeaaDoor
namespace Go.Proofs.YtgonkeglcehkeaaDoor
open Go Go.Dat Go.Proofs Go.RowKit
theorem law_of {f : Nat} {ds : List DV} {vs : Array Value} {w : World} (hc : PCalls Tryd.prog f ds (.bool true)) (hT : Tab Tryd.prog w) (hs : vs.size = ds.length) (hv : ∀ (k : Nat) d v, ds[k]? = some d → vs[k]? = some v → VI w (fun _ => False) d v) :
    Calls Tryd.prog f vs w fun e w' => e = .returned (.bool true) ∧ Below w.heap.size w w' := by
  refine (hc (fun _ => False) w vs hT (fun b h => h.elim) hs hv).mono ?_
  rintro e w' ⟨v, rfl, hvi, hx⟩
  refine ⟨?_, hx.os, hx.tape, hx.output, hx.size, fun k hk => hx.block k hk id⟩
  cases hvi; rfl
theorem tab_shaped {w : World} (h : w.ShapedOpen Tryd.prog) : Tab Tryd.prog w := by
  refine ⟨fun g hg => ?_, fun g hg => ?_⟩
  · rw [show Tryd.prog.globalNamed tabName = none by kernel_rfl] at hg
    cases hg
  · rw [show Tryd.prog.globalNamed maxName = some 0 by kernel_rfl] at hg
    cases hg
    obtain ⟨m, hm⟩ := Tryd.laysM138.s1_3 w h
    exact ⟨World.block_lt_of_cell? w _ hm, m, hm⟩
end Go.Proofs.YtgonkeglcehkeaaDoor
