/- Lemmas of the walk; no conditions beyond those that each states. -/
import Derived.Shelf.Strings.Builder1
import Derived.Shelf.Strings.Builder2
import Derived.Shelf.Strings.OnBuilder
import Derived.Shelf.Strings.Trim
import Derived.Shelf.Small.Utf8
import Derived.Shelf.Small.Bits
import Derived.Shelf.Small.Strs
import Derived.Shelf.Small.Wraps
import Derived.Shelf.Strings.BuilderF
import Derived.Shelf.Strings.BuilderK
import Derived.Shelf.Strings.Builder2Cap
import Derived.Shelf.Strconv.Itoa0
import Derived.Shelf.Strconv.Itoa1
import Derived.Shelf.LaysM
import Derived.Shelf.Strconv.Itoa2
import Derived.Shelf.Strconv.Itoa3
import Derived.Shelf.Strings.Search1
import Derived.Shelf.Strings.Search2
import Derived.Shelf.Strings.Cut
import Derived.Shelf.Strings.Shaped
import Derived.Shelf.Strings.Prefix
import Derived.Shelf.Strings.Runes
import Derived.Shelf.Strings.IndexAny
import Derived.Shelf.Strings.AsciiSet
import Derived.Shelf.Strings.IndexAnyAll
import Derived.Shelf.Bits.Mul64
import Derived.Shelf.Strings.Repeat
import Derived.Shelf.Unicode.DecodeSlow
import Derived.Shelf.Strings.BuilderCap
import Derived.Ground.Names2Prog
import Derived.Shelf.Slices.ReverseS
import Derived.Shelf.Slices.Cells
import Derived.Test.YteiagmmfapbaiaaGreatDoorProg
import Derived.KernelRfl
import Derived.Test.YteiagmmfapbaiaaGreatDoorT2
import Derived.Test.YteiagmmfapbaiaaGreatDoorD2
import Derived.Test.YteiagmmfapbaiaaGreatDoorN1
import Derived.Test.YteiagmmfapbaiaaGreatDoorT1
import Derived.Test.YteiagmmfapbaiaaGreatDoorC1
set_option linter.unusedSimpArgs false
set_option linter.unusedVariables false
set_option linter.unnecessarySimpa false
namespace Go.Proofs
open Go.Shelf
def Tryz.lays156_ren : Go.Shelf.Ren := ⟨fun | 156 => 122 | 165 => 133 | 166 => 134 | 169 => 136 | 240 => 160 | 241 => 161 | 276 => 173 | 277 => 174 | n => n, fun | 31 => 101 | 9 => 9 | 3 => 3 | 4 => 4 | 0 => 0 | 20 => 20 | 72 => 118 | 76 => 122 | 70 => 116 | 37 => 108 | 75 => 121 | 127 => 144 | 164 => 152 | 5 => 5 | 80 => 125 | n => n, fun | n => n⟩
theorem Tryz.lays156 : Go.Proofs.Lays.n156 Tryz.prog Tryz.lays156_ren := {
  mixed := by kernel_rfl
  f156 := Tryz.func122.trans (congrArg some (by kernel_rfl))
  f165 := Tryz.func133.trans (congrArg some (by kernel_rfl))
  f166 := Tryz.func134.trans (congrArg some (by kernel_rfl))
  f169 := Tryz.func136.trans (congrArg some (by kernel_rfl))
  f240 := Tryz.func160.trans (congrArg some (by kernel_rfl))
  f241 := Tryz.func161.trans (congrArg some (by kernel_rfl))
  f276 := Tryz.func173.trans (congrArg some (by kernel_rfl))
  f277 := Tryz.func174.trans (congrArg some (by kernel_rfl))
  t0 := Tryz.underlying0
  a0 := Tryz.isAgg0
  z0 := Tryz.sizeOf0
  v0 := Tryz.zeroValue0
  t3 := Tryz.underlying3
  a3 := Tryz.isAgg3
  z3 := Tryz.sizeOf3
  v3 := Tryz.zeroValue3
  t4 := Tryz.underlying4
  a4 := Tryz.isAgg4
  z4 := Tryz.sizeOf4
  v4 := Tryz.zeroValue4
  t9 := Tryz.underlying9
  a9 := Tryz.isAgg9
  z9 := Tryz.sizeOf9
  v9 := Tryz.zeroValue9
  t20 := Tryz.underlying20
  a20 := Tryz.isAgg20
  z20 := Tryz.sizeOf20
  v20 := Tryz.zeroValue20
  t31 := Tryz.underlying101
  a31 := Tryz.isAgg101
  z31 := Tryz.sizeOf101
  v31 := Tryz.zeroValue101
  t37 := Tryz.underlying108
  a37 := Tryz.isAgg108
  z37 := Tryz.sizeOf108
  v37 := Tryz.zeroValue108
  t70 := Tryz.underlying116
  a70 := Tryz.isAgg116
  z70 := Tryz.sizeOf116
  v70 := Tryz.zeroValue116
  t72 := Tryz.underlying118
  a72 := Tryz.isAgg118
  z72 := Tryz.sizeOf118
  v72 := Tryz.zeroValue118
  t75 := Tryz.underlying121
  a75 := Tryz.isAgg121
  z75 := Tryz.sizeOf121
  v75 := Tryz.zeroValue121
  t76 := Tryz.underlying122
  a76 := Tryz.isAgg122
  z76 := Tryz.sizeOf122
  v76 := Tryz.zeroValue122
  t127 := Tryz.underlying144
  a127 := Tryz.isAgg144
  z127 := Tryz.sizeOf144
  v127 := Tryz.zeroValue144
  t164 := Tryz.underlying152
  a164 := Tryz.isAgg152
  z164 := Tryz.sizeOf152
  v164 := Tryz.zeroValue152 }
theorem Tryz.Builder_Extra_156 : Builder.Extra Tryz.prog Tryz.lays156_ren := {
  sizeBuilder := by kernel_rfl
  liesBuilder := by kernel_rfl
  t5 := Tryz.underlying5
  a5 := Tryz.isAgg5
  z5 := Tryz.sizeOf5
  v5 := Tryz.zeroValue5
  infoByte := by kernel_rfl
  cellsByte := by kernel_rfl
  sizeByte := by kernel_rfl
  neB5 := by decide }
open Go.RowKit in
theorem Tryz.strings_Join (bk o c : Nat) (xs : List ByteArray) (sep : ByteArray) (w : World) (hcells : ∀ (j : Nat) x, xs[j]? = some x → w.cell? ⟨bk, o + j, none⟩ = some (.string x)) (hbk : bk < w.heap.size) (hN : xs.length ≤ 140737488355328) (hcap : xs.length ≤ c) (hlen : (Lib.join (xs.map (·.data.toList)) sep.data.toList).length ≤ 140737488355328) :
    Calls Tryz.prog 122 #[.slice (some ⟨bk, o, none⟩) xs.length c, .string sep] w fun e w' => e = .returned (.string ⟨(Lib.join (xs.map (·.data.toList)) sep.data.toList).toArray⟩) ∧ Below w.heap.size w w' := Any.strings_Join Tryz.lays156 Tryz.Builder_Extra_156 bk o c xs sep w hcells hbk hN hcap hlen
def Tryz.lays161_ren : Go.Shelf.Ren := ⟨fun | 161 => 147 | 231 => 168 | 227 => 145 | 233 => 169 | 235 => 170 | 228 => 146 | 197 => 177 | 151 => 178 | 260 => 185 | 152 => 143 | 137 => 164 | 119 => 165 | 224 => 166 | 225 => 167 | 217 => 175 | 266 => 183 | n => n, fun | 9 => 9 | 4 => 4 | 3 => 3 | 5 => 5 | 117 => 131 | 116 => 130 | 0 => 0 | 124 => 148 | 105 => 155 | 21 => 21 | 119 => 168 | 46 => 100 | 139 => 171 | 138 => 170 | n => n, fun | 3 => 3 | 4 => 4 | n => n⟩
theorem Tryz.lays161 : Go.Proofs.Lays.n161 Tryz.prog Tryz.lays161_ren := {
  mixed := by kernel_rfl
  f119 := Tryz.func165.trans (congrArg some (by kernel_rfl))
  f137 := Tryz.func164.trans (congrArg some (by kernel_rfl))
  f151 := Tryz.func178.trans (congrArg some (by kernel_rfl))
  f152 := Tryz.func143.trans (congrArg some (by kernel_rfl))
  f161 := Tryz.func147.trans (congrArg some (by kernel_rfl))
  f197 := Tryz.func177.trans (congrArg some (by kernel_rfl))
  f217 := Tryz.func175.trans (congrArg some (by kernel_rfl))
  f224 := Tryz.func166.trans (congrArg some (by kernel_rfl))
  f225 := Tryz.func167.trans (congrArg some (by kernel_rfl))
  f227 := Tryz.func145.trans (congrArg some (by kernel_rfl))
  f228 := Tryz.func146.trans (congrArg some (by kernel_rfl))
  f231 := Tryz.func168.trans (congrArg some (by kernel_rfl))
  f233 := Tryz.func169.trans (congrArg some (by kernel_rfl))
  f235 := Tryz.func170.trans (congrArg some (by kernel_rfl))
  f260 := Tryz.func185.trans (congrArg some (by kernel_rfl))
  f266 := Tryz.func183.trans (congrArg some (by kernel_rfl))
  t0 := Tryz.underlying0
  a0 := Tryz.isAgg0
  z0 := Tryz.sizeOf0
  v0 := Tryz.zeroValue0
  t3 := Tryz.underlying3
  a3 := Tryz.isAgg3
  z3 := Tryz.sizeOf3
  v3 := Tryz.zeroValue3
  t4 := Tryz.underlying4
  a4 := Tryz.isAgg4
  z4 := Tryz.sizeOf4
  v4 := Tryz.zeroValue4
  t5 := Tryz.underlying5
  a5 := Tryz.isAgg5
  z5 := Tryz.sizeOf5
  v5 := Tryz.zeroValue5
  t9 := Tryz.underlying9
  a9 := Tryz.isAgg9
  z9 := Tryz.sizeOf9
  v9 := Tryz.zeroValue9
  t21 := Tryz.underlying21
  a21 := Tryz.isAgg21
  z21 := Tryz.sizeOf21
  v21 := Tryz.zeroValue21
  t46 := Tryz.underlying100
  a46 := Tryz.isAgg100
  z46 := Tryz.sizeOf100
  v46 := Tryz.zeroValue100
  t105 := Tryz.underlying155
  a105 := Tryz.isAgg155
  z105 := Tryz.sizeOf155
  v105 := Tryz.zeroValue155
  t116 := Tryz.underlying130
  a116 := Tryz.isAgg130
  z116 := Tryz.sizeOf130
  t117 := Tryz.underlying131
  a117 := Tryz.isAgg131
  z117 := Tryz.sizeOf131
  v117 := Tryz.zeroValue131
  t119 := Tryz.underlying168
  a119 := Tryz.isAgg168
  z119 := Tryz.sizeOf168
  t124 := Tryz.underlying148
  a124 := Tryz.isAgg148
  z124 := Tryz.sizeOf148
  v124 := Tryz.zeroValue148
  t138 := Tryz.underlying170
  a138 := Tryz.isAgg170
  z138 := Tryz.sizeOf170
  v138 := Tryz.zeroValue170
  t139 := Tryz.underlying171
  a139 := Tryz.isAgg171
  z139 := Tryz.sizeOf171
  v139 := Tryz.zeroValue171
  g3 := by kernel_rfl
  g4 := by kernel_rfl }
open Go.RowKit in
theorem Tryz.strings_TrimLeft_one (s : ByteArray) (c : UInt8) (hc : c.toNat < 128) (w : World) :
    Calls Tryz.prog 147 #[.string s, .string ⟨#[c]⟩] w fun e w' => e = .returned (.string ⟨(Lib.trimLeftB s.data.toList c).toArray⟩) ∧ w' = w := Any.strings_TrimLeft_one Tryz.lays161 s c hc w
def Tryz.lays119_ren : Go.Shelf.Ren := ⟨fun | 119 => 165 | n => n, fun | 21 => 21 | 4 => 4 | n => n, fun | n => n⟩
theorem Tryz.lays119 : Go.Proofs.Lays.n119 Tryz.prog Tryz.lays119_ren := {
  mixed := by kernel_rfl
  f119 := Tryz.func165.trans (congrArg some (by kernel_rfl))
  t4 := Tryz.underlying4
  a4 := Tryz.isAgg4
  z4 := Tryz.sizeOf4
  v4 := Tryz.zeroValue4
  t21 := Tryz.underlying21
  a21 := Tryz.isAgg21
  z21 := Tryz.sizeOf21
  v21 := Tryz.zeroValue21 }
theorem Tryz.utf8_ValidRune (r : Int) (w : World) :
    Calls Tryz.prog 165 #[.int .i32 r] w fun e w' => e = .returned (.bool (Lib.validRune r)) ∧ w' = w := Any.utf8_ValidRune Tryz.lays119 r w
def Tryz.lays137_ren : Go.Shelf.Ren := ⟨fun | 137 => 164 | 217 => 175 | 266 => 183 | n => n, fun | 9 => 9 | 5 => 5 | 3 => 3 | n => n, fun | n => n⟩
theorem Tryz.lays137 : Go.Proofs.Lays.n137 Tryz.prog Tryz.lays137_ren := {
  mixed := by kernel_rfl
  f137 := Tryz.func164.trans (congrArg some (by kernel_rfl))
  f217 := Tryz.func175.trans (congrArg some (by kernel_rfl))
  f266 := Tryz.func183.trans (congrArg some (by kernel_rfl))
  t3 := Tryz.underlying3
  a3 := Tryz.isAgg3
  z3 := Tryz.sizeOf3
  v3 := Tryz.zeroValue3
  t5 := Tryz.underlying5
  a5 := Tryz.isAgg5
  z5 := Tryz.sizeOf5
  v5 := Tryz.zeroValue5
  t9 := Tryz.underlying9
  a9 := Tryz.isAgg9
  z9 := Tryz.sizeOf9
  v9 := Tryz.zeroValue9 }
open Go.RowKit in
theorem Tryz.strings_IndexByte (s : ByteArray) (c : Int) (w : World) :
    Calls Tryz.prog 164 #[.string s, .int .u8 c] w fun e w' => e = .returned (.int .i64 (Lib.indexByte s.data.toList c.toNat.toUInt8)) ∧ w' = w := Any.strings_IndexByte Tryz.lays137 s c w
def Tryz.lays103_ren : Go.Shelf.Ren := ⟨fun | 103 => 60 | 210 => 106 | 206 => 141 | n => n, fun | 9 => 9 | 4 => 4 | 24 => 59 | 3 => 3 | n => n, fun | n => n⟩
theorem Tryz.lays103 : Go.Proofs.Lays.n103 Tryz.prog Tryz.lays103_ren := {
  mixed := by kernel_rfl
  f103 := Tryz.func60.trans (congrArg some (by kernel_rfl))
  f206 := Tryz.func141.trans (congrArg some (by kernel_rfl))
  f210 := Tryz.func106.trans (congrArg some (by kernel_rfl))
  t3 := Tryz.underlying3
  a3 := Tryz.isAgg3
  z3 := Tryz.sizeOf3
  v3 := Tryz.zeroValue3
  t4 := Tryz.underlying4
  a4 := Tryz.isAgg4
  z4 := Tryz.sizeOf4
  v4 := Tryz.zeroValue4
  t9 := Tryz.underlying9
  a9 := Tryz.isAgg9
  z9 := Tryz.sizeOf9
  v9 := Tryz.zeroValue9
  t24 := Tryz.underlying59
  a24 := Tryz.isAgg59
  z24 := Tryz.sizeOf59
  v24 := Tryz.zeroValue59 }
open Go.RowKit in
theorem Tryz.strings_CutPrefix (s p : ByteArray) (w : World) :
    Calls Tryz.prog 60 #[.string s, .string p] w fun e w' => e = .returned (.tuple #[.string ⟨(Lib.trimPrefix s.data.toList p.data.toList).toArray⟩, .bool (Lib.hasPrefix s.data.toList p.data.toList)]) ∧ w' = w := Any.strings_CutPrefix Tryz.lays103 s p w
def Tryz.laysM171_ren : Go.Shelf.Ren := ⟨fun | 171 => 120 | 243 => 150 | 246 => 171 | 283 => 179 | 284 => 180 | 285 => 181 | 286 => 182 | 129 => 187 | 317 => 186 | 318 => 188 | 319 => 189 | 320 => 190 | 337 => 191 | 338 => 192 | n => n, fun | 3 => 3 | 9 => 9 | 2 => 2 | 4 => 4 | 171 => 158 | 0 => 0 | 53 => 67 | 37 => 108 | 5 => 5 | 173 => 161 | 212 => 165 | 51 => 51 | 20 => 20 | 213 => 166 | 46 => 100 | 232 => 172 | 233 => 173 | n => n, fun | 17 => 2 | 18 => 5 | 19 => 6 | n => n⟩
theorem Tryz.laysM171 : Go.Proofs.LaysM.n171 Tryz.prog Tryz.laysM171_ren := {
  mixed := by kernel_rfl
  f129 := Tryz.func187.trans (congrArg some (by kernel_rfl))
  f171 := Tryz.func120.trans (congrArg some (by kernel_rfl))
  f243 := Tryz.func150.trans (congrArg some (by kernel_rfl))
  f246 := Tryz.func171.trans (congrArg some (by kernel_rfl))
  f283 := Tryz.func179.trans (congrArg some (by kernel_rfl))
  f284 := Tryz.func180.trans (congrArg some (by kernel_rfl))
  f285 := Tryz.func181.trans (congrArg some (by kernel_rfl))
  f286 := Tryz.func182.trans (congrArg some (by kernel_rfl))
  f317 := Tryz.func186.trans (congrArg some (by kernel_rfl))
  f318 := Tryz.func188.trans (congrArg some (by kernel_rfl))
  f319 := Tryz.func189.trans (congrArg some (by kernel_rfl))
  f320 := Tryz.func190.trans (congrArg some (by kernel_rfl))
  f337 := Tryz.func191.trans (congrArg some (by kernel_rfl))
  f338 := Tryz.func192.trans (congrArg some (by kernel_rfl))
  t0 := Tryz.underlying0
  a0 := Tryz.isAgg0
  z0 := Tryz.sizeOf0
  v0 := Tryz.zeroValue0
  t2 := Tryz.underlying2
  a2 := Tryz.isAgg2
  z2 := Tryz.sizeOf2
  v2 := Tryz.zeroValue2
  t3 := Tryz.underlying3
  a3 := Tryz.isAgg3
  z3 := Tryz.sizeOf3
  v3 := Tryz.zeroValue3
  t4 := Tryz.underlying4
  a4 := Tryz.isAgg4
  z4 := Tryz.sizeOf4
  v4 := Tryz.zeroValue4
  t5 := Tryz.underlying5
  a5 := Tryz.isAgg5
  z5 := Tryz.sizeOf5
  v5 := Tryz.zeroValue5
  t9 := Tryz.underlying9
  a9 := Tryz.isAgg9
  z9 := Tryz.sizeOf9
  v9 := Tryz.zeroValue9
  t20 := Tryz.underlying20
  a20 := Tryz.isAgg20
  z20 := Tryz.sizeOf20
  v20 := Tryz.zeroValue20
  t37 := Tryz.underlying108
  a37 := Tryz.isAgg108
  z37 := Tryz.sizeOf108
  v37 := Tryz.zeroValue108
  t46 := Tryz.underlying100
  a46 := Tryz.isAgg100
  z46 := Tryz.sizeOf100
  v46 := Tryz.zeroValue100
  t51 := Tryz.underlying51
  a51 := Tryz.isAgg51
  z51 := Tryz.sizeOf51
  v51 := Tryz.zeroValue51
  t53 := Tryz.underlying67
  a53 := Tryz.isAgg67
  z53 := Tryz.sizeOf67
  v53 := Tryz.zeroValue67
  t171 := Tryz.underlying158
  a171 := Tryz.isAgg158
  z171 := Tryz.sizeOf158
  v171 := Tryz.zeroValue158
  t173 := Tryz.underlying161
  a173 := Tryz.isAgg161
  z173 := Tryz.sizeOf161
  v173 := Tryz.zeroValue161
  t212 := Tryz.underlying165
  a212 := Tryz.isAgg165
  z212 := Tryz.sizeOf165
  v212 := Tryz.zeroValue165
  t213 := Tryz.underlying166
  a213 := Tryz.isAgg166
  z213 := Tryz.sizeOf166
  t232 := Tryz.underlying172
  a232 := Tryz.isAgg172
  z232 := Tryz.sizeOf172
  v232 := Tryz.zeroValue172
  t233 := Tryz.underlying173
  a233 := Tryz.isAgg173
  z233 := Tryz.sizeOf173
  v233 := Tryz.zeroValue173
  g17 := by kernel_rfl
  g18 := by kernel_rfl
  g19 := by kernel_rfl
  i0 := by kernel_rfl
  i2 := by kernel_rfl
  i3 := by kernel_rfl
  i4 := by kernel_rfl
  i5 := by kernel_rfl
  i9 := by kernel_rfl
  i20 := by kernel_rfl
  i37 := by kernel_rfl
  i46 := by kernel_rfl
  i51 := by kernel_rfl
  i53 := by kernel_rfl
  i171 := by kernel_rfl
  i173 := by kernel_rfl
  i212 := by kernel_rfl
  i232 := by kernel_rfl
  i233 := by kernel_rfl
  m17 := by kernel_rfl
  m18 := by kernel_rfl
  m19 := by kernel_rfl }
open Go.RowKit Go.Sort Go.Lib in
theorem Tryz.strconv_Itoa (n : Int) (h0 : -9223372036854775808 ≤ n) (h1 : n ≤ 9223372036854775807) (w : World) (htab : Lib.TabIs Tryz.prog w "internal/strconv.uint64pow10" .u64 Lib.pow10Tab) :
    Calls Tryz.prog 120 #[.int .i64 n] w fun e w' => e = .returned (.string ⟨(Lib.itoa n).toArray⟩) ∧ ∃ k os, w' = grow (w.drewN k) os := Any.strconv_Itoa Tryz.laysM171 n h0 h1 w htab
def Tryz.lays219_ren : Go.Shelf.Ren := ⟨fun | 219 => 163 | 217 => 175 | 225 => 167 | 224 => 166 | 267 => 176 | 266 => 183 | 314 => 184 | n => n, fun | 9 => 9 | 3 => 3 | 4 => 4 | 5 => 5 | 46 => 100 | 146 => 111 | 51 => 51 | n => n, fun | 1 => 1 | n => n⟩
theorem Tryz.lays219 : Go.Proofs.Lays.n219 Tryz.prog Tryz.lays219_ren := {
  mixed := by kernel_rfl
  f217 := Tryz.func175.trans (congrArg some (by kernel_rfl))
  f219 := Tryz.func163.trans (congrArg some (by kernel_rfl))
  f224 := Tryz.func166.trans (congrArg some (by kernel_rfl))
  f225 := Tryz.func167.trans (congrArg some (by kernel_rfl))
  f266 := Tryz.func183.trans (congrArg some (by kernel_rfl))
  f267 := Tryz.func176.trans (congrArg some (by kernel_rfl))
  f314 := Tryz.func184.trans (congrArg some (by kernel_rfl))
  t3 := Tryz.underlying3
  a3 := Tryz.isAgg3
  z3 := Tryz.sizeOf3
  v3 := Tryz.zeroValue3
  t4 := Tryz.underlying4
  a4 := Tryz.isAgg4
  z4 := Tryz.sizeOf4
  v4 := Tryz.zeroValue4
  t5 := Tryz.underlying5
  a5 := Tryz.isAgg5
  z5 := Tryz.sizeOf5
  v5 := Tryz.zeroValue5
  t9 := Tryz.underlying9
  a9 := Tryz.isAgg9
  z9 := Tryz.sizeOf9
  v9 := Tryz.zeroValue9
  t46 := Tryz.underlying100
  a46 := Tryz.isAgg100
  z46 := Tryz.sizeOf100
  v46 := Tryz.zeroValue100
  t51 := Tryz.underlying51
  a51 := Tryz.isAgg51
  z51 := Tryz.sizeOf51
  v51 := Tryz.zeroValue51
  t146 := Tryz.underlying111
  a146 := Tryz.isAgg111
  z146 := Tryz.sizeOf111
  v146 := Tryz.zeroValue111
  g1 := by kernel_rfl }
open Go.RowKit Go.Lib in
theorem Tryz.stringslite_Index_one (s : ByteArray) (c : UInt8) (w : World) :
    Calls Tryz.prog 163 #[.string s, .string ⟨#[c]⟩] w fun e w' => e = .returned (.int .i64 (Lib.indexByte s.data.toList c)) ∧ w' = w := Any.stringslite_Index_one Tryz.lays219 s c w
def Tryz.lays152_ren : Go.Shelf.Ren := ⟨fun | 152 => 143 | 137 => 164 | 119 => 165 | 224 => 166 | 225 => 167 | 217 => 175 | 266 => 183 | n => n, fun | 9 => 9 | 21 => 21 | 3 => 3 | 4 => 4 | 5 => 5 | 0 => 0 | 46 => 100 | n => n, fun | n => n⟩
theorem Tryz.lays152 : Go.Proofs.Lays.n152 Tryz.prog Tryz.lays152_ren := {
  mixed := by kernel_rfl
  f119 := Tryz.func165.trans (congrArg some (by kernel_rfl))
  f137 := Tryz.func164.trans (congrArg some (by kernel_rfl))
  f152 := Tryz.func143.trans (congrArg some (by kernel_rfl))
  f217 := Tryz.func175.trans (congrArg some (by kernel_rfl))
  f224 := Tryz.func166.trans (congrArg some (by kernel_rfl))
  f225 := Tryz.func167.trans (congrArg some (by kernel_rfl))
  f266 := Tryz.func183.trans (congrArg some (by kernel_rfl))
  t0 := Tryz.underlying0
  a0 := Tryz.isAgg0
  z0 := Tryz.sizeOf0
  v0 := Tryz.zeroValue0
  t3 := Tryz.underlying3
  a3 := Tryz.isAgg3
  z3 := Tryz.sizeOf3
  v3 := Tryz.zeroValue3
  t4 := Tryz.underlying4
  a4 := Tryz.isAgg4
  z4 := Tryz.sizeOf4
  v4 := Tryz.zeroValue4
  t5 := Tryz.underlying5
  a5 := Tryz.isAgg5
  z5 := Tryz.sizeOf5
  v5 := Tryz.zeroValue5
  t9 := Tryz.underlying9
  a9 := Tryz.isAgg9
  z9 := Tryz.sizeOf9
  v9 := Tryz.zeroValue9
  t21 := Tryz.underlying21
  a21 := Tryz.isAgg21
  z21 := Tryz.sizeOf21
  v21 := Tryz.zeroValue21
  t46 := Tryz.underlying100
  a46 := Tryz.isAgg100
  z46 := Tryz.sizeOf100
  v46 := Tryz.zeroValue100 }
open Go.RowKit Go.Lib in
theorem Tryz.strings_IndexRune_ascii (s : ByteArray) (r : Int) (w : World) (h0 : 0 ≤ r) (h1 : r < 128) :
    Calls Tryz.prog 143 #[.string s, .int .i32 r] w fun e w' => e = .returned (.int .i64 (Lib.indexByte s.data.toList r.toNat.toUInt8)) ∧ w' = w := Any.strings_IndexRune_ascii Tryz.lays152 s r w h0 h1
def Tryz.lays226_ren : Go.Shelf.Ren := ⟨fun | 226 => 144 | n => n, fun | 3 => 3 | 4 => 4 | n => n, fun | n => n⟩
theorem Tryz.lays226 : Go.Proofs.Lays.n226 Tryz.prog Tryz.lays226_ren := {
  mixed := by kernel_rfl
  f226 := Tryz.func144.trans (congrArg some (by kernel_rfl))
  t3 := Tryz.underlying3
  a3 := Tryz.isAgg3
  z3 := Tryz.sizeOf3
  v3 := Tryz.zeroValue3
  t4 := Tryz.underlying4
  a4 := Tryz.isAgg4
  z4 := Tryz.sizeOf4
  v4 := Tryz.zeroValue4 }
open Go.RowKit Go.Lib in
theorem Tryz.strings_shouldUseASCIISet (n : Int) (w : World) :
    Calls Tryz.prog 144 #[.int .i64 n] w fun e w' => e = .returned (.bool (decide (8 < n))) ∧ w' = w := Any.strings_shouldUseASCIISet Tryz.lays226 n w
def Tryz.lays153_ren : Go.Shelf.Ren := ⟨fun | 153 => 109 | 152 => 143 | 226 => 144 | 227 => 145 | 228 => 146 | 137 => 164 | 119 => 165 | 224 => 166 | 225 => 167 | 217 => 175 | 266 => 183 | n => n, fun | 9 => 9 | 3 => 3 | 4 => 4 | 5 => 5 | 21 => 21 | 117 => 131 | 116 => 130 | 0 => 0 | 46 => 100 | 124 => 148 | n => n, fun | n => n⟩
theorem Tryz.lays153 : Go.Proofs.Lays.n153 Tryz.prog Tryz.lays153_ren := {
  mixed := by kernel_rfl
  f119 := Tryz.func165.trans (congrArg some (by kernel_rfl))
  f137 := Tryz.func164.trans (congrArg some (by kernel_rfl))
  f152 := Tryz.func143.trans (congrArg some (by kernel_rfl))
  f153 := Tryz.func109.trans (congrArg some (by kernel_rfl))
  f217 := Tryz.func175.trans (congrArg some (by kernel_rfl))
  f224 := Tryz.func166.trans (congrArg some (by kernel_rfl))
  f225 := Tryz.func167.trans (congrArg some (by kernel_rfl))
  f226 := Tryz.func144.trans (congrArg some (by kernel_rfl))
  f227 := Tryz.func145.trans (congrArg some (by kernel_rfl))
  f228 := Tryz.func146.trans (congrArg some (by kernel_rfl))
  f266 := Tryz.func183.trans (congrArg some (by kernel_rfl))
  t0 := Tryz.underlying0
  a0 := Tryz.isAgg0
  z0 := Tryz.sizeOf0
  v0 := Tryz.zeroValue0
  t3 := Tryz.underlying3
  a3 := Tryz.isAgg3
  z3 := Tryz.sizeOf3
  v3 := Tryz.zeroValue3
  t4 := Tryz.underlying4
  a4 := Tryz.isAgg4
  z4 := Tryz.sizeOf4
  v4 := Tryz.zeroValue4
  t5 := Tryz.underlying5
  a5 := Tryz.isAgg5
  z5 := Tryz.sizeOf5
  v5 := Tryz.zeroValue5
  t9 := Tryz.underlying9
  a9 := Tryz.isAgg9
  z9 := Tryz.sizeOf9
  v9 := Tryz.zeroValue9
  t21 := Tryz.underlying21
  a21 := Tryz.isAgg21
  z21 := Tryz.sizeOf21
  v21 := Tryz.zeroValue21
  t46 := Tryz.underlying100
  a46 := Tryz.isAgg100
  z46 := Tryz.sizeOf100
  v46 := Tryz.zeroValue100
  t116 := Tryz.underlying130
  a116 := Tryz.isAgg130
  z116 := Tryz.sizeOf130
  t117 := Tryz.underlying131
  a117 := Tryz.isAgg131
  z117 := Tryz.sizeOf131
  v117 := Tryz.zeroValue131
  t124 := Tryz.underlying148
  a124 := Tryz.isAgg148
  z124 := Tryz.sizeOf148
  v124 := Tryz.zeroValue148 }
open Go.RowKit Go.Lib in
theorem Tryz.strings_IndexAny_long (hv116 : ∀ w, (zeroValue 130).run Tryz.prog w = .ok (.agg (Array.replicate 256 (.bool false))) w) (s chars : ByteArray) (w : World) (h2 : 2 ≤ chars.size) (h8 : 8 < s.size) (hs : s.size < 4294967281) (hcs : chars.size < 4294967281) (hascii : ∀ (j : Nat) b, chars.data.toList[j]? = some b → b.toNat < 128) :
    Calls Tryz.prog 109 #[.string s, .string chars] w fun e w' => e = .returned (.int .i64 (Lib.indexAny s.data.toList chars.data.toList)) ∧ w' = ((w.alloc (.cells (Lib.setCells chars.data.toList) 130)).alloc (.cells (Lib.setCells chars.data.toList) 130)) := Any.strings_IndexAny_long Tryz.lays153 hv116 (by kernel_rfl) s chars w h2 h8 hs hcs hascii
open Go.RowKit Go.Lib in
theorem Tryz.strings_IndexAny_laid (s chars : ByteArray) (w : World) (hs : s.size < 4294967281) (hcs : chars.size < 4294967281) (has : ∀ (j : Nat) b, s.data.toList[j]? = some b → b.toNat < 128) (hac : ∀ (j : Nat) b, chars.data.toList[j]? = some b → b.toNat < 128) :
    Calls Tryz.prog 109 #[.string s, .string chars] w fun e w' => e = .returned (.int .i64 (Lib.indexAny s.data.toList chars.data.toList)) ∧ Below w.heap.size w w' := Any.strings_IndexAny_laid Tryz.lays153 (by kernel_rfl) s chars w hs hcs has hac
def Tryz.lays105_ren : Go.Shelf.Ren := ⟨fun | 105 => 80 | 212 => 131 | 99 => 132 | 165 => 133 | 166 => 134 | 170 => 135 | 169 => 136 | 263 => 158 | 264 => 159 | 206 => 141 | 240 => 160 | 241 => 161 | 276 => 173 | 277 => 174 | n => n, fun | 9 => 9 | 3 => 3 | 4 => 4 | 20 => 20 | 0 => 0 | 46 => 100 | 109 => 113 | 5 => 5 | 72 => 118 | 76 => 122 | 51 => 51 | 146 => 111 | 53 => 67 | 148 => 142 | 70 => 116 | 37 => 108 | 75 => 121 | 127 => 144 | 164 => 152 | 80 => 125 | n => n, fun | n => n⟩
theorem Tryz.lays105 : Go.Proofs.Lays.n105 Tryz.prog Tryz.lays105_ren := {
  mixed := by kernel_rfl
  f99 := Tryz.func132.trans (congrArg some (by kernel_rfl))
  f105 := Tryz.func80.trans (congrArg some (by kernel_rfl))
  f165 := Tryz.func133.trans (congrArg some (by kernel_rfl))
  f166 := Tryz.func134.trans (congrArg some (by kernel_rfl))
  f169 := Tryz.func136.trans (congrArg some (by kernel_rfl))
  f170 := Tryz.func135.trans (congrArg some (by kernel_rfl))
  f206 := Tryz.func141.trans (congrArg some (by kernel_rfl))
  f212 := Tryz.func131.trans (congrArg some (by kernel_rfl))
  f240 := Tryz.func160.trans (congrArg some (by kernel_rfl))
  f241 := Tryz.func161.trans (congrArg some (by kernel_rfl))
  f263 := Tryz.func158.trans (congrArg some (by kernel_rfl))
  f264 := Tryz.func159.trans (congrArg some (by kernel_rfl))
  f276 := Tryz.func173.trans (congrArg some (by kernel_rfl))
  f277 := Tryz.func174.trans (congrArg some (by kernel_rfl))
  t0 := Tryz.underlying0
  a0 := Tryz.isAgg0
  z0 := Tryz.sizeOf0
  v0 := Tryz.zeroValue0
  t3 := Tryz.underlying3
  a3 := Tryz.isAgg3
  z3 := Tryz.sizeOf3
  v3 := Tryz.zeroValue3
  t4 := Tryz.underlying4
  a4 := Tryz.isAgg4
  z4 := Tryz.sizeOf4
  v4 := Tryz.zeroValue4
  t5 := Tryz.underlying5
  a5 := Tryz.isAgg5
  z5 := Tryz.sizeOf5
  v5 := Tryz.zeroValue5
  t9 := Tryz.underlying9
  a9 := Tryz.isAgg9
  z9 := Tryz.sizeOf9
  v9 := Tryz.zeroValue9
  t20 := Tryz.underlying20
  a20 := Tryz.isAgg20
  z20 := Tryz.sizeOf20
  v20 := Tryz.zeroValue20
  t37 := Tryz.underlying108
  a37 := Tryz.isAgg108
  z37 := Tryz.sizeOf108
  v37 := Tryz.zeroValue108
  t46 := Tryz.underlying100
  a46 := Tryz.isAgg100
  z46 := Tryz.sizeOf100
  v46 := Tryz.zeroValue100
  t51 := Tryz.underlying51
  a51 := Tryz.isAgg51
  z51 := Tryz.sizeOf51
  v51 := Tryz.zeroValue51
  t53 := Tryz.underlying67
  a53 := Tryz.isAgg67
  z53 := Tryz.sizeOf67
  v53 := Tryz.zeroValue67
  t70 := Tryz.underlying116
  a70 := Tryz.isAgg116
  z70 := Tryz.sizeOf116
  v70 := Tryz.zeroValue116
  t72 := Tryz.underlying118
  a72 := Tryz.isAgg118
  z72 := Tryz.sizeOf118
  v72 := Tryz.zeroValue118
  t75 := Tryz.underlying121
  a75 := Tryz.isAgg121
  z75 := Tryz.sizeOf121
  v75 := Tryz.zeroValue121
  t76 := Tryz.underlying122
  a76 := Tryz.isAgg122
  z76 := Tryz.sizeOf122
  v76 := Tryz.zeroValue122
  t109 := Tryz.underlying113
  a109 := Tryz.isAgg113
  z109 := Tryz.sizeOf113
  v109 := Tryz.zeroValue113
  t127 := Tryz.underlying144
  a127 := Tryz.isAgg144
  z127 := Tryz.sizeOf144
  v127 := Tryz.zeroValue144
  t146 := Tryz.underlying111
  a146 := Tryz.isAgg111
  z146 := Tryz.sizeOf111
  v146 := Tryz.zeroValue111
  t148 := Tryz.underlying142
  a148 := Tryz.isAgg142
  z148 := Tryz.sizeOf142
  v148 := Tryz.zeroValue142
  t164 := Tryz.underlying152
  a164 := Tryz.isAgg152
  z164 := Tryz.sizeOf152
  v164 := Tryz.zeroValue152 }
theorem Tryz.Builder_Extra_105 : Builder.Extra Tryz.prog Tryz.lays105_ren := {
  sizeBuilder := by kernel_rfl
  liesBuilder := by kernel_rfl
  t5 := Tryz.underlying5
  a5 := Tryz.isAgg5
  z5 := Tryz.sizeOf5
  v5 := Tryz.zeroValue5
  infoByte := by kernel_rfl
  cellsByte := by kernel_rfl
  sizeByte := by kernel_rfl
  neB5 := by decide }
open Go.RowKit Go.Lib in
theorem Tryz.strings_Repeat (s : ByteArray) (c : Nat) (w : World) (hc : c ≤ 9223372036854775807) (hlen : s.size * c ≤ 140737488355328) :
    Calls Tryz.prog 80 #[.string s, .int .i64 c] w fun e w' => e = .returned (.string ⟨(Lib.repeatL s.data.toList c).toArray⟩) ∧ Below w.heap.size w w' := Any.strings_Repeat Tryz.lays105 Tryz.Builder_Extra_105 s c w hc hlen
def Tryz.laysNm217_ren : Go.Shelf.Ren := ⟨fun | 17 => 121 | n => n, fun | 24 => 101 | 9 => 9 | 3 => 3 | 4 => 4 | 0 => 0 | n => n, fun | n => n⟩
theorem Tryz.laysNm217 : Go.Proofs.Lays2.n17 Tryz.prog Tryz.laysNm217_ren := {
  mixed := by kernel_rfl
  f17 := Tryz.func121.trans (congrArg some (by kernel_rfl))
  t0 := Tryz.underlying0
  a0 := Tryz.isAgg0
  z0 := Tryz.sizeOf0
  v0 := Tryz.zeroValue0
  t3 := Tryz.underlying3
  a3 := Tryz.isAgg3
  z3 := Tryz.sizeOf3
  v3 := Tryz.zeroValue3
  t4 := Tryz.underlying4
  a4 := Tryz.isAgg4
  z4 := Tryz.sizeOf4
  v4 := Tryz.zeroValue4
  t9 := Tryz.underlying9
  a9 := Tryz.isAgg9
  z9 := Tryz.sizeOf9
  v9 := Tryz.zeroValue9
  t24 := Tryz.underlying101
  a24 := Tryz.isAgg101
  z24 := Tryz.sizeOf101
  v24 := Tryz.zeroValue101 }
open Go.RowKit Go.Lib Go.Sort in
theorem Tryz.slices_Reverse_string (blk off cap : Nat) (zs : List (List UInt8)) (w : World) (hH : Holds encStr w blk off zs.toArray) (hsz : zs.length ≤ 9223372036854775807) :
    Calls Tryz.prog 121 #[.slice (some ⟨blk, off, none⟩) zs.length cap] w fun e w' => e = .returned (.tuple #[]) ∧ ∃ n, w' = putRow encStr (Sort.ahead w n) blk off zs.reverse.toArray := Any.slices_Reverse_string Tryz.laysNm217 blk off cap zs w hH hsz
end Go.Proofs
namespace Go.Proofs.YteiagmmfapbaiaaGreatDoor
open Go Go.Dat Go.Proofs Nat32
open Go.Lib (decDigits repeatL)
theorem scItoaD (n : Nat) (hn : n ≤ 4294967295) : PCalls Tryz.prog 120 [.int .i64 n] (.str (decDigits n)) := by
  obtain ⟨g, hg⟩ := Option.isSome_iff_exists.1 (show (Tryz.prog.globalNamed tabName).isSome = true by kernel_rfl)
  refine PCalls_itoa hg fun w ht => ?_
  have h := Tryz.strconv_Itoa (n : Int) (by omega) (by omega) w ht
  have e : Go.Lib.itoa (n : Int) = decDigits n := by unfold Go.Lib.itoa; rw [if_neg (by omega), Int.toNat_natCast]
  rwa [e] at h
theorem repeatD (l : List UInt8) (n : Nat) (hl : l.length ≤ 10000) (hn : n ≤ 10000) : PCalls Tryz.prog 80 [.str l, .int .i64 n] (.str (repeatL l n)) := by
  refine PCalls_strint fun w => ?_
  have hs : (⟨l.toArray⟩ : ByteArray).size = l.length := by simp [ByteArray.size]
  have h := Tryz.strings_Repeat ⟨l.toArray⟩ n w (by omega) (by rw [hs]; exact Nat.le_trans (Nat.mul_le_mul hl hn) (by decide))
  exact h
theorem joinD (ls : List (List UInt8)) (sep : List UInt8) (h0 : 0 < ls.length) (hl : ls.length ≤ 100000) (hj : (Go.Lib.join ls sep).length ≤ 1000000) :
    WCalls Tryz.prog 122 [.osl 1 1048576 0 ls.length, .str sep] (strs ls) (.str (Go.Lib.join ls sep)) (strs ls) := by
  refine WCalls_join h0 fun bk c w hc hb hcap => ?_
  have e1 : (ls.map fun l => (⟨l.toArray⟩ : ByteArray)).map (·.data.toList) = ls := by
    rw [List.map_map]; exact (List.map_congr_left fun l _ => by simp).trans (List.map_id _)
  have h := Tryz.strings_Join bk 0 c (ls.map fun l => (⟨l.toArray⟩ : ByteArray)) ⟨sep.toArray⟩ w hc hb (by simp; omega) (by simpa using hcap) (by rw [e1]; simp only; omega)
  rw [e1, List.length_map] at h
  exact h
theorem reverseD (ls : List (List UInt8)) (h0 : 0 < ls.length) (hl : ls.length ≤ 100000) : WCalls Tryz.prog 121 [.osl 1 1048576 0 ls.length] (strs ls) (.tup []) (strs ls.reverse) :=
  WCalls_reverse h0 fun blk cap w hH => Tryz.slices_Reverse_string blk 0 cap ls w hH (by omega)
theorem rFormat_calls (a : List Nat) (ha : a.length ≤ 900) (la : lim a) : PCalls Tryz.prog 72 [.sl 1 (us a)] (.str (decDigits (vn a))) := by
  have c1 := rTake_calls a (by omega) la
  have h1 := vn_len la
  refine PCalls_of isrFormat (by simp [fnrFormat]) ?_
  unfold coderFormat
  generalize vn a = N at *
  repeat (first | refine W_seq ?_ | refine W_reg ?_ | refine W_regd ?_ | refine W_block ?_ | refine And.intro (by omega) ?_ | simp (maxSteps := 1000000) (disch := omega) only [cA, cB, cC, frz_us, binE, unE, boundE, newsE, blkQ, Nat.reduceEqDiff, Nat.reduceLT, Nat.reduceAdd, ↓reduceIte, reduceCtorEq, Nat.reduceLeDiff] | refine callC_pure (c1) rfl ?_ | exact W_ret (RetP_1 (.imm rfl)) | exact W_ret (RetP_c rfl rfl rfl (.imm rfl)))
  refine W_loop (σ := Nat × List UInt8) (fun s => [(0, .sl 1 (us (limbs s.1))), (3, .str s.2)]) (fun _ => []) (fun s => decDigits s.1 ++ s.2 = decDigits N ∧ (limbs s.1).length ≤ 900) (fun s => s.1) (N, []) ⟨by simp, Nat.le_trans h1 ha⟩ ?_ rfl ?_
  · simp [subF, lk]
  · rintro ⟨n, s⟩ ⟨hs, hl⟩
    simp only at hs hl ⊢
    have l10 : [DV.int .u32 10] = us (limbs 10) := by rw [limbs_one (by decide) (by decide)]; rfl
    have c2 := rDivL n 10 (by omega) (by rw [limbs_one (by decide) (by decide)]; simp)
    have em : dmod n 10 = n % 10 := by unfold dmod; rw [if_neg (by decide)]
    rw [em, decide_eq_true (show 0 < 10 by decide)] at c2
    have hd : n % 10 < 10 := Nat.mod_lt _ (by decide)
    have c3 := rLimb_calls (limbs (n % 10)) 0 (by have := limbs_len.2 (show n % 10 < 4294967296 ^ 1 by omega); omega) (lim_limbs _)
    have eg : (limbs (n % 10)).getD 0 0 = n % 10 := by
      by_cases h0 : n % 10 = 0
      · rw [h0, limbs_zero]; rfl
      · rw [limbs_one (by omega) (by omega)]; rfl
    rw [eg] at c3
    have e8 : ((48 : Int) + ((n % 10 : Nat) : Int)) = ((48 + n % 10 : Nat) : Int) := by omega
    have eb : bytesOf [DV.int .u8 ((48 + n % 10 : Nat) : Int)] = some [UInt8.ofNat (48 + n % 10)] := by
      show some [UInt8.ofNat (((48 + n % 10 : Nat) : Int)).toNat] = _
      rw [Int.toNat_natCast]
    have hn2 := dd_limbs (Nat.le_trans h1 ha)
    have hsl := congrArg List.length hs
    rw [List.length_append] at hsl
    have e1 : ∀ l : List UInt8, [UInt8.ofNat (48 + n % 10)] ++ l = UInt8.ofNat (48 + n % 10) :: l := fun _ => rfl
    by_cases hq : n < 10
    · have h0 : (limbs (n / 10)).length = 0 := by rw [Nat.div_eq_of_lt hq, limbs_zero]; rfl
      have hf : UInt8.ofNat (48 + n % 10) :: s = decDigits N := by rw [← hs, dd_lt hq, Nat.mod_eq_of_lt hq]; rfl
      repeat (first | refine W_seq ?_ | refine W_reg ?_ | refine W_regd ?_ | refine W_block ?_ | refine And.intro (by omega) ?_ | simp (maxSteps := 1000000) (disch := omega) only [cA, cB, cC, frz_us, binE, unE, boundE, newsE, blkQ, Nat.reduceEqDiff, Nat.reduceLT, Nat.reduceAdd, ↓reduceIte, reduceCtorEq, Nat.reduceLeDiff, l10, us_rfd, e8, eb, List.mem_singleton, forall_eq, DV.rf, us_length, h0, e1, hf] | refine callC_pure (c2) rfl ?_ | refine callC_pure (c3) rfl ?_ | exact W_ret (RetP_1 (.imm rfl)) | exact W_ret (RetP_c rfl rfl rfl (.imm rfl)))
      refine W_cond rfl (fun _ => ?_) (fun h => by simp at h)
      repeat (first | refine W_seq ?_ | refine W_reg ?_ | refine W_regd ?_ | refine W_block ?_ | refine And.intro (by omega) ?_ | simp (maxSteps := 1000000) (disch := omega) only [cA, cB, cC, frz_us, binE, unE, boundE, newsE, blkQ, Nat.reduceEqDiff, Nat.reduceLT, Nat.reduceAdd, ↓reduceIte, reduceCtorEq, Nat.reduceLeDiff])
      exact W_ret (RetP_1 (.imm rfl))
    · have hl2 : (limbs (n / 10)).length ≤ 900 := Nat.le_trans (len_mono (Nat.div_le_self n 10)) hl
      have h0 : decide (((limbs (n / 10)).length : Int) = 0) = false := decide_eq_false fun h => by
        have := (limbs_len (n := n / 10) (k := 0)).1 (by omega)
        rw [Nat.pow_zero] at this
        omega
      have hf : decDigits (n / 10) ++ (UInt8.ofNat (48 + n % 10) :: s) = decDigits N := by rw [← hs, dd_ge hq, List.append_assoc]; rfl
      repeat (first | refine W_seq ?_ | refine W_reg ?_ | refine W_regd ?_ | refine W_block ?_ | refine And.intro (by omega) ?_ | simp (maxSteps := 1000000) (disch := omega) only [cA, cB, cC, frz_us, binE, unE, boundE, newsE, blkQ, Nat.reduceEqDiff, Nat.reduceLT, Nat.reduceAdd, ↓reduceIte, reduceCtorEq, Nat.reduceLeDiff, l10, us_rfd, e8, eb, List.mem_singleton, forall_eq, DV.rf, us_length, h0, e1] | refine callC_pure (c2) rfl ?_ | refine callC_pure (c3) rfl ?_ | exact W_ret (RetP_1 (.imm rfl)) | exact W_ret (RetP_c rfl rfl rfl (.imm rfl)))
      refine W_cond rfl (fun h => by cases h) (fun _ => W_skip ?_)
      repeat (first | refine W_seq ?_ | refine W_reg ?_ | refine W_regd ?_ | refine W_block ?_ | refine And.intro (by omega) ?_ | simp (maxSteps := 1000000) (disch := omega) only [cA, cB, cC, frz_us, binE, unE, boundE, newsE, blkQ, Nat.reduceEqDiff, Nat.reduceLT, Nat.reduceAdd, ↓reduceIte, reduceCtorEq, Nat.reduceLeDiff])
      exact ⟨(n / 10, UInt8.ofNat (48 + n % 10) :: s), And.intro hf hl2, Nat.div_lt_self (by omega) (by decide), by simp [subF, lk]⟩
theorem join_flat (ls : List (List UInt8)) : Go.Lib.join ls [] = ls.flatten := by
  unfold Go.Lib.join List.intercalate
  induction ls with
  | nil => rfl
  | cons a l ih =>
    cases l with
    | nil => rfl
    | cons b l => rw [List.intersperse_cons_cons, List.flatten_cons, List.flatten_cons, ih]; rfl
def gsD (gs : List (List UInt8)) : DV := if gs = [] then .nils else .osl 1 35 0 gs.length
def gsH (gs : List (List UInt8)) : Hp := if gs = [] then [] else [(35, strs gs)]
theorem gsD_snoc (gs : List (List UInt8)) (g : List UInt8) : gsD (gs ++ [g]) = .osl 1 35 0 (gs.length + 1) := by unfold gsD; rw [if_neg (by simp)]; simp
theorem gsH_snoc (gs : List (List UInt8)) (g : List UInt8) : gsH (gs ++ [g]) = [(35, strs (gs ++ [g]))] := by unfold gsH; rw [if_neg (by simp)]
theorem grp_ne (n : Nat) : 0 < (grp n).length := by
  unfold grp
  have := List.length_pos_iff.2 (dd_ne (n % 1000000000))
  split
  · exact this
  · rw [List.length_append]; omega
set_option maxHeartbeats 1000000 in
theorem nFormat_calls (a : List Nat) (ha : a.length ≤ 900) (la : lim a) : PCalls Tryz.prog 69 [.sl 1 (us a)] (.str (decDigits (vn a))) := by
  have c1 := nValue_calls a (by omega) la
  have h1 := vn_len la
  refine PCalls_of isnFormat (by simp [fnnFormat]) ?_
  unfold codenFormat
  generalize vn a = N at *
  by_cases hN : N = 0
  · subst hN
    have h0 : (limbs 0).length = 0 := by rw [limbs_zero]; rfl
    repeat (first | refine W_seq ?_ | refine W_reg ?_ | refine W_regd ?_ | refine W_block ?_ | refine And.intro (by omega) ?_ | simp (maxSteps := 1000000) (disch := omega) only [cA, cB, cC, frz_us, binE, unE, boundE, newsE, blkQ, Nat.reduceEqDiff, Nat.reduceLT, Nat.reduceAdd, ↓reduceIte, reduceCtorEq, Nat.reduceLeDiff, us_length, h0] | refine callC_pure (c1) rfl ?_ | exact W_ret (RetP_1 (.imm rfl)) | exact W_ret (RetP_c rfl rfl rfl (.imm rfl)))
    refine W_cond rfl (fun _ => ?_) (fun h => by simp at h)
    have e0 : decDigits 0 = [48] := by rw [dd_lt (by decide)]; rfl
    rw [e0]
    repeat (first | refine W_seq ?_ | refine W_reg ?_ | refine W_regd ?_ | refine W_block ?_ | refine And.intro (by omega) ?_ | simp (maxSteps := 1000000) (disch := omega) only [cA, cB, cC, frz_us, binE, unE, boundE, newsE, blkQ, Nat.reduceEqDiff, Nat.reduceLT, Nat.reduceAdd, ↓reduceIte, reduceCtorEq, Nat.reduceLeDiff])
    exact W_ret (RetP_1 (.imm rfl))
  · have h0 : decide (((limbs N).length : Int) = 0) = false := decide_eq_false fun h => by
      have := (limbs_len (n := N) (k := 0)).1 (by omega)
      rw [Nat.pow_zero] at this
      omega
    repeat (first | refine W_seq ?_ | refine W_reg ?_ | refine W_regd ?_ | refine W_block ?_ | refine And.intro (by omega) ?_ | simp (maxSteps := 1000000) (disch := omega) only [cA, cB, cC, frz_us, binE, unE, boundE, newsE, blkQ, Nat.reduceEqDiff, Nat.reduceLT, Nat.reduceAdd, ↓reduceIte, reduceCtorEq, Nat.reduceLeDiff, us_length, h0] | refine callC_pure (c1) rfl ?_ | exact W_ret (RetP_1 (.imm rfl)) | exact W_ret (RetP_c rfl rfl rfl (.imm rfl)))
    refine W_cond rfl (fun h => by cases h) (fun _ => W_skip ?_)
    repeat (first | refine W_seq ?_ | refine W_reg ?_ | refine W_regd ?_ | refine W_block ?_ | refine And.intro (by omega) ?_ | simp (maxSteps := 1000000) (disch := omega) only [cA, cB, cC, frz_us, binE, unE, boundE, newsE, blkQ, Nat.reduceEqDiff, Nat.reduceLT, Nat.reduceAdd, ↓reduceIte, reduceCtorEq, Nat.reduceLeDiff])
    have hdl := dd_limbs (Nat.le_trans h1 ha)
    have hE : ddE N = decDigits N := by unfold ddE; rw [if_neg hN]
    refine W_loop (σ := Nat × List (List UInt8)) (fun s => [(0, .sl 1 (us (limbs s.1))), (3, gsD s.2)]) (fun s => gsH s.2) (fun s => ddE s.1 ++ s.2.reverse.flatten = ddE N ∧ (limbs s.1).length ≤ 900 ∧ s.2.length ≤ s.2.reverse.flatten.length) (fun s => s.1) (N, []) ⟨by simp, Nat.le_trans h1 ha, by simp⟩ ?_ rfl ?_
    · simp [subF, lk, gsD]
    · rintro ⟨n, gs⟩ ⟨hs, hl, hg⟩
      simp only at hs hl hg ⊢
      have hsl := congrArg List.length hs
      rw [List.length_append, hE] at hsl
      by_cases hn : n = 0
      · subst hn
        have h00 : (limbs 0).length = 0 := by rw [limbs_zero]; rfl
        have hgs : gs ≠ [] := by
          rintro rfl
          rw [hE] at hs
          exact dd_ne N (by rw [← hs]; simp [ddE])
        have hgl : 0 < gs.length := List.length_pos_iff.2 hgs
        have hres : Go.Lib.join gs.reverse [] = decDigits N := by rw [join_flat, ← hE, ← hs]; simp [ddE]
        have c2 := reverseD gs hgl (by omega)
        have c3 := joinD gs.reverse [] (by simpa using hgl) (by simp; omega) (by rw [hres]; omega)
        rw [hres, List.length_reverse] at c3
        have ed : gsD gs = .osl 1 35 0 gs.length := by unfold gsD; rw [if_neg hgs]
        have eh : gsH gs = [(35, strs gs)] := by unfold gsH; rw [if_neg hgs]
        have hrf : (strs gs).all DV.rf = true := by simp [strs, DV.rf]
        have hrf2 : (strs gs.reverse).all DV.rf = true := by simp [strs, DV.rf]
        have hne : strs gs ≠ [] := by simpa [strs] using hgs
        have hne2 : strs gs.reverse ≠ [] := by simpa [strs] using hgs
        rw [ed, eh]
        repeat (first | refine W_seq ?_ | refine W_reg ?_ | refine W_regd ?_ | refine W_block ?_ | refine And.intro (by omega) ?_ | simp (maxSteps := 1000000) (disch := omega) only [cA, cB, cC, frz_us, binE, unE, boundE, newsE, blkQ, Nat.reduceEqDiff, Nat.reduceLT, Nat.reduceAdd, ↓reduceIte, reduceCtorEq, Nat.reduceLeDiff, us_length, h00])
        refine W_cond rfl (fun h => by simp at h) (fun _ => W_exit ?_)
        repeat (first | refine W_seq ?_ | refine W_reg ?_ | refine W_regd ?_ | refine W_block ?_ | refine And.intro (by omega) ?_ | simp (maxSteps := 1000000) (disch := omega) only [cA, cB, cC, frz_us, binE, unE, boundE, newsE, blkQ, Nat.reduceEqDiff, Nat.reduceLT, Nat.reduceAdd, ↓reduceIte, reduceCtorEq, Nat.reduceLeDiff])
        refine callC_lend rfl 35 (cells := strs gs) (by simp [lkH]) hrf hne c2 ?_
        repeat (first | refine W_seq ?_ | refine W_reg ?_ | refine W_regd ?_ | refine W_block ?_ | refine And.intro (by omega) ?_ | simp (maxSteps := 1000000) (disch := omega) only [cA, cB, cC, frz_us, binE, unE, boundE, newsE, blkQ, Nat.reduceEqDiff, Nat.reduceLT, Nat.reduceAdd, ↓reduceIte, reduceCtorEq, Nat.reduceLeDiff])
        refine callC_lend rfl 35 (cells := strs gs.reverse) (by simp [lkH, setH]) hrf2 hne2 c3 ?_
        repeat (first | refine W_seq ?_ | refine W_reg ?_ | refine W_regd ?_ | refine W_block ?_ | refine And.intro (by omega) ?_ | simp (maxSteps := 1000000) (disch := omega) only [cA, cB, cC, frz_us, binE, unE, boundE, newsE, blkQ, Nat.reduceEqDiff, Nat.reduceLT, Nat.reduceAdd, ↓reduceIte, reduceCtorEq, Nat.reduceLeDiff])
        exact W_ret (RetP_1 (.imm rfl))
      · have hlp : decide ((0 : Int) < (limbs n).length) = true := decide_eq_true (by
          have := (limbs_len (n := n) (k := 0))
          rw [Nat.pow_zero] at this
          omega)
        have hr : n % 1000000000 < 1000000000 := Nat.mod_lt _ (by decide)
        have c2 := nShort_calls n 1000000000 (by omega) (by decide) (by decide)
        have c3 := scItoaD (n % 1000000000) (by omega)
        have hs2 : ddE (n / 1000000000) ++ (gs ++ [grp n]).reverse.flatten = ddE N := by
          rw [← hs, ddE_step (by omega : 0 < n)]; simp
        have hl2 : (limbs (n / 1000000000)).length ≤ 900 := Nat.le_trans (len_mono (Nat.div_le_self _ _)) hl
        have hg2 : (gs ++ [grp n]).length ≤ (gs ++ [grp n]).reverse.flatten.length := by
          have := grp_ne n
          simp only [List.length_append, List.length_singleton, List.reverse_append, List.reverse_singleton, List.singleton_append, List.flatten_cons]
          omega
        have hmu : n / 1000000000 < n := Nat.div_lt_self (by omega) (by decide)
        have hgl : gs.length ≤ 10000 := by omega
        have hrl : (decDigits (n % 1000000000)).length ≤ 9 := dd_len (k := 8) hr
        by_cases hq : n / 1000000000 = 0
        · have h00 : (limbs (n / 1000000000)).length = 0 := by rw [hq, limbs_zero]; rfl
          have hgr : grp n = decDigits (n % 1000000000) := by unfold grp; rw [if_pos hq]
          rw [← hgr] at c3
          have hcat : True = True := rfl
          by_cases he : gs = []
          · subst he
            clear hs hg hsl c1 hdl hE
            (replace hs2 := Hid.mk hs2; replace hg2 := Hid.mk hg2; replace hl2 := Hid.mk hl2; replace hmu := Hid.mk hmu)
            repeat (first | refine W_seq ?_ | refine W_reg ?_ | refine W_regd ?_ | refine W_block ?_ | refine And.intro (by omega) ?_ | simp (maxSteps := 1000000) (disch := omega) only [cA, cB, cC, frz_us, binE, unE, boundE, newsE, blkQ, Nat.reduceEqDiff, Nat.reduceLT, Nat.reduceAdd, ↓reduceIte, reduceCtorEq, Nat.reduceLeDiff, us_length, hlp, gsD, gsH])
            refine W_cond rfl (fun _ => W_skip ?_) (fun h => by cases h)
            repeat (first | refine W_seq ?_ | refine W_reg ?_ | refine W_regd ?_ | refine W_block ?_ | refine And.intro (by omega) ?_ | simp (maxSteps := 1000000) (disch := omega) only [cA, cB, cC, frz_us, binE, unE, boundE, newsE, blkQ, Nat.reduceEqDiff, Nat.reduceLT, Nat.reduceAdd, ↓reduceIte, reduceCtorEq, Nat.reduceLeDiff] | refine callC_pure (c2) rfl ?_ | refine callC_pure (c3) rfl ?_ | exact W_ret (RetP_1 (.imm rfl)) | exact W_ret (RetP_c rfl rfl rfl (.imm rfl)))
            repeat (first | refine W_seq ?_ | refine W_reg ?_ | refine W_regd ?_ | refine W_block ?_ | refine And.intro (by omega) ?_ | simp (maxSteps := 1000000) (disch := omega) only [cA, cB, cC, frz_us, binE, unE, boundE, newsE, blkQ, Nat.reduceEqDiff, Nat.reduceLT, Nat.reduceAdd, ↓reduceIte, reduceCtorEq, Nat.reduceLeDiff, us_length, h00])
            refine W_cond rfl (fun h => by simp at h) (fun _ => W_skip ?_)
            repeat (first | refine W_seq ?_ | refine W_reg ?_ | refine W_regd ?_ | refine W_block ?_ | refine And.intro (by omega) ?_ | simp (maxSteps := 1000000) (disch := omega) only [cA, cB, cC, frz_us, binE, unE, boundE, newsE, blkQ, Nat.reduceEqDiff, Nat.reduceLT, Nat.reduceAdd, ↓reduceIte, reduceCtorEq, Nat.reduceLeDiff, laid_str, newsE, cS, DV.rf, List.mem_singleton, forall_eq, nbnFormat, hcat])
            exact ⟨(n / 1000000000, [] ++ [grp n]), And.intro hs2.out (And.intro hl2.out hg2.out), hmu.out, by simp [subF, lk], by simp [strs]⟩
          · have ed : gsD gs = .osl 1 35 0 gs.length := by unfold gsD; rw [if_neg he]
            have eh : gsH gs = [(35, strs gs)] := by unfold gsH; rw [if_neg he]
            have hsn : (strs gs).length = gs.length := by simp [strs]
            have hpu : (strs gs ++ [DV.str (grp n)]).map (purge 35) = strs (gs ++ [grp n]) := by
              simp only [strs, List.map_append, List.map_map, List.map_singleton]
              rfl
            rw [ed, eh]
            clear hs hg hsl c1 hdl hE
            (replace hs2 := Hid.mk hs2; replace hg2 := Hid.mk hg2; replace hl2 := Hid.mk hl2; replace hmu := Hid.mk hmu)
            repeat (first | refine W_seq ?_ | refine W_reg ?_ | refine W_regd ?_ | refine W_block ?_ | refine And.intro (by omega) ?_ | simp (maxSteps := 1000000) (disch := omega) only [cA, cB, cC, frz_us, binE, unE, boundE, newsE, blkQ, Nat.reduceEqDiff, Nat.reduceLT, Nat.reduceAdd, ↓reduceIte, reduceCtorEq, Nat.reduceLeDiff, us_length, hlp])
            refine W_cond rfl (fun _ => W_skip ?_) (fun h => by cases h)
            repeat (first | refine W_seq ?_ | refine W_reg ?_ | refine W_regd ?_ | refine W_block ?_ | refine And.intro (by omega) ?_ | simp (maxSteps := 1000000) (disch := omega) only [cA, cB, cC, frz_us, binE, unE, boundE, newsE, blkQ, Nat.reduceEqDiff, Nat.reduceLT, Nat.reduceAdd, ↓reduceIte, reduceCtorEq, Nat.reduceLeDiff] | refine callC_pure (c2) rfl ?_ | refine callC_pure (c3) rfl ?_ | exact W_ret (RetP_1 (.imm rfl)) | exact W_ret (RetP_c rfl rfl rfl (.imm rfl)))
            repeat (first | refine W_seq ?_ | refine W_reg ?_ | refine W_regd ?_ | refine W_block ?_ | refine And.intro (by omega) ?_ | simp (maxSteps := 1000000) (disch := omega) only [cA, cB, cC, frz_us, binE, unE, boundE, newsE, blkQ, Nat.reduceEqDiff, Nat.reduceLT, Nat.reduceAdd, ↓reduceIte, reduceCtorEq, Nat.reduceLeDiff, us_length, h00])
            refine W_cond rfl (fun h => by simp at h) (fun _ => W_skip ?_)
            repeat (first | refine W_seq ?_ | refine W_reg ?_ | refine W_regd ?_ | refine W_block ?_ | refine And.intro (by omega) ?_ | simp (maxSteps := 1000000) (disch := omega) only [cA, cB, cC, frz_us, binE, unE, boundE, newsE, blkQ, Nat.reduceEqDiff, Nat.reduceLT, Nat.reduceAdd, ↓reduceIte, reduceCtorEq, Nat.reduceLeDiff, laid_str, newsE, cS, DV.rf, List.mem_singleton, forall_eq, nbnFormat, hcat, hsn, hpu, List.length_singleton])
            exact ⟨(n / 1000000000, gs ++ [grp n]), And.intro hs2.out (And.intro hl2.out hg2.out), hmu.out, by simp [subF, lk, gsD_snoc], by rw [gsH_snoc]⟩
        · have h00 : decide ((0 : Int) < ((limbs (n / 1000000000)).length : Int)) = true := decide_eq_true (by
            have := (limbs_len (n := n / 1000000000) (k := 0))
            rw [Nat.pow_zero] at this
            omega)
          have hcat : repeatL [48] (9 - (decDigits (n % 1000000000)).length) ++ decDigits (n % 1000000000) = grp n := by unfold grp; rw [if_neg hq]
          have c4 := repeatD [48] (9 - (decDigits (n % 1000000000)).length) (by decide) (by omega)
          have hrp : (repeatL [48] (9 - (decDigits (n % 1000000000)).length)).length = 9 - (decDigits (n % 1000000000)).length := by rw [rep_len]; simp
          have e9 : (9 : Int) - ((decDigits (n % 1000000000)).length : Int) = ((9 - (decDigits (n % 1000000000)).length : Nat) : Int) := by omega
          by_cases he : gs = []
          · subst he
            clear hs hg hsl c1 hdl hE
            (replace hs2 := Hid.mk hs2; replace hg2 := Hid.mk hg2; replace hl2 := Hid.mk hl2; replace hmu := Hid.mk hmu)
            repeat (first | refine W_seq ?_ | refine W_reg ?_ | refine W_regd ?_ | refine W_block ?_ | refine And.intro (by omega) ?_ | simp (maxSteps := 1000000) (disch := omega) only [cA, cB, cC, frz_us, binE, unE, boundE, newsE, blkQ, Nat.reduceEqDiff, Nat.reduceLT, Nat.reduceAdd, ↓reduceIte, reduceCtorEq, Nat.reduceLeDiff, us_length, hlp, gsD, gsH])
            refine W_cond rfl (fun _ => W_skip ?_) (fun h => by cases h)
            repeat (first | refine W_seq ?_ | refine W_reg ?_ | refine W_regd ?_ | refine W_block ?_ | refine And.intro (by omega) ?_ | simp (maxSteps := 1000000) (disch := omega) only [cA, cB, cC, frz_us, binE, unE, boundE, newsE, blkQ, Nat.reduceEqDiff, Nat.reduceLT, Nat.reduceAdd, ↓reduceIte, reduceCtorEq, Nat.reduceLeDiff] | refine callC_pure (c2) rfl ?_ | refine callC_pure (c3) rfl ?_ | exact W_ret (RetP_1 (.imm rfl)) | exact W_ret (RetP_c rfl rfl rfl (.imm rfl)))
            repeat (first | refine W_seq ?_ | refine W_reg ?_ | refine W_regd ?_ | refine W_block ?_ | refine And.intro (by omega) ?_ | simp (maxSteps := 1000000) (disch := omega) only [cA, cB, cC, frz_us, binE, unE, boundE, newsE, blkQ, Nat.reduceEqDiff, Nat.reduceLT, Nat.reduceAdd, ↓reduceIte, reduceCtorEq, Nat.reduceLeDiff, us_length, h00])
            refine W_cond rfl (fun _ => ?_) (fun h => by cases h)
            repeat (first | refine W_seq ?_ | refine W_reg ?_ | refine W_regd ?_ | refine W_block ?_ | refine And.intro (by omega) ?_ | simp (maxSteps := 1000000) (disch := omega) only [cA, cB, cC, frz_us, binE, unE, boundE, newsE, blkQ, Nat.reduceEqDiff, Nat.reduceLT, Nat.reduceAdd, ↓reduceIte, reduceCtorEq, Nat.reduceLeDiff, e9] | refine callC_pure (c4) rfl ?_ | exact W_ret (RetP_1 (.imm rfl)) | exact W_ret (RetP_c rfl rfl rfl (.imm rfl)))
            repeat (first | refine W_seq ?_ | refine W_reg ?_ | refine W_regd ?_ | refine W_block ?_ | refine And.intro (by omega) ?_ | simp (maxSteps := 1000000) (disch := omega) only [cA, cB, cC, frz_us, binE, unE, boundE, newsE, blkQ, Nat.reduceEqDiff, Nat.reduceLT, Nat.reduceAdd, ↓reduceIte, reduceCtorEq, Nat.reduceLeDiff, laid_str, newsE, cS, DV.rf, List.mem_singleton, forall_eq, nbnFormat, hcat])
            exact ⟨(n / 1000000000, [] ++ [grp n]), And.intro hs2.out (And.intro hl2.out hg2.out), hmu.out, by simp [subF, lk], by simp [strs]⟩
          · have ed : gsD gs = .osl 1 35 0 gs.length := by unfold gsD; rw [if_neg he]
            have eh : gsH gs = [(35, strs gs)] := by unfold gsH; rw [if_neg he]
            have hsn : (strs gs).length = gs.length := by simp [strs]
            have hpu : (strs gs ++ [DV.str (grp n)]).map (purge 35) = strs (gs ++ [grp n]) := by
              simp only [strs, List.map_append, List.map_map, List.map_singleton]
              rfl
            rw [ed, eh]
            clear hs hg hsl c1 hdl hE
            (replace hs2 := Hid.mk hs2; replace hg2 := Hid.mk hg2; replace hl2 := Hid.mk hl2; replace hmu := Hid.mk hmu)
            repeat (first | refine W_seq ?_ | refine W_reg ?_ | refine W_regd ?_ | refine W_block ?_ | refine And.intro (by omega) ?_ | simp (maxSteps := 1000000) (disch := omega) only [cA, cB, cC, frz_us, binE, unE, boundE, newsE, blkQ, Nat.reduceEqDiff, Nat.reduceLT, Nat.reduceAdd, ↓reduceIte, reduceCtorEq, Nat.reduceLeDiff, us_length, hlp])
            refine W_cond rfl (fun _ => W_skip ?_) (fun h => by cases h)
            repeat (first | refine W_seq ?_ | refine W_reg ?_ | refine W_regd ?_ | refine W_block ?_ | refine And.intro (by omega) ?_ | simp (maxSteps := 1000000) (disch := omega) only [cA, cB, cC, frz_us, binE, unE, boundE, newsE, blkQ, Nat.reduceEqDiff, Nat.reduceLT, Nat.reduceAdd, ↓reduceIte, reduceCtorEq, Nat.reduceLeDiff] | refine callC_pure (c2) rfl ?_ | refine callC_pure (c3) rfl ?_ | exact W_ret (RetP_1 (.imm rfl)) | exact W_ret (RetP_c rfl rfl rfl (.imm rfl)))
            repeat (first | refine W_seq ?_ | refine W_reg ?_ | refine W_regd ?_ | refine W_block ?_ | refine And.intro (by omega) ?_ | simp (maxSteps := 1000000) (disch := omega) only [cA, cB, cC, frz_us, binE, unE, boundE, newsE, blkQ, Nat.reduceEqDiff, Nat.reduceLT, Nat.reduceAdd, ↓reduceIte, reduceCtorEq, Nat.reduceLeDiff, us_length, h00])
            refine W_cond rfl (fun _ => ?_) (fun h => by cases h)
            repeat (first | refine W_seq ?_ | refine W_reg ?_ | refine W_regd ?_ | refine W_block ?_ | refine And.intro (by omega) ?_ | simp (maxSteps := 1000000) (disch := omega) only [cA, cB, cC, frz_us, binE, unE, boundE, newsE, blkQ, Nat.reduceEqDiff, Nat.reduceLT, Nat.reduceAdd, ↓reduceIte, reduceCtorEq, Nat.reduceLeDiff, e9] | refine callC_pure (c4) rfl ?_ | exact W_ret (RetP_1 (.imm rfl)) | exact W_ret (RetP_c rfl rfl rfl (.imm rfl)))
            repeat (first | refine W_seq ?_ | refine W_reg ?_ | refine W_regd ?_ | refine W_block ?_ | refine And.intro (by omega) ?_ | simp (maxSteps := 1000000) (disch := omega) only [cA, cB, cC, frz_us, binE, unE, boundE, newsE, blkQ, Nat.reduceEqDiff, Nat.reduceLT, Nat.reduceAdd, ↓reduceIte, reduceCtorEq, Nat.reduceLeDiff, laid_str, newsE, cS, DV.rf, List.mem_singleton, forall_eq, nbnFormat, hcat, hsn, hpu, List.length_singleton])
            exact ⟨(n / 1000000000, gs ++ [grp n]), And.intro hs2.out (And.intro hl2.out hg2.out), hmu.out, by simp [subF, lk, gsD_snoc], by rw [gsH_snoc]⟩
end Go.Proofs.YteiagmmfapbaiaaGreatDoor
namespace Go.Proofs.YteiagmmfapbaiaaGreatDoor
open Go Go.Dat Go.Proofs Nat32
def parseR (l : List UInt8) : DV := if okD l then .tup [.sl 1 (us (limbs (dval 0 l))), .bool true] else .tup [.sl 1 [], .bool false]
theorem parseR_bad {l : List UInt8} (h : okD l = false) : parseR l = .tup [.sl 1 [], .bool false] := by unfold parseR; rw [h]; rfl
def accD (l : List UInt8) (i : Nat) : DV := if i = 0 then .nils else .sl 1 (us (limbs (dval 0 (l.take i))))
theorem okD_iff (l : List UInt8) : okD l = true ↔ l ≠ [] ∧ l.length ≤ 4000 ∧ ¬ (l.head? = some 48 ∧ 1 < l.length) ∧ l.all isD = true := by
  unfold okD
  cases l with
  | nil => simp
  | cons c l =>
    simp only [List.isEmpty_cons, Bool.false_or, Bool.and_eq_true, Bool.not_eq_true', Bool.or_eq_false_iff, decide_eq_false_iff_not, Bool.and_eq_false_iff]
    constructor
    · rintro ⟨⟨h1, h2⟩, h3⟩
      exact ⟨by simp, by omega, fun h => h2.elim (fun e => e h.1) (fun e => e h.2), h3⟩
    · rintro ⟨_, h1, h2, h3⟩
      refine ⟨⟨by omega, ?_⟩, h3⟩
      by_cases e : (c :: l).head? = some 48
      · exact .inr fun h => h2 ⟨e, h⟩
      · exact .inl e
theorem dval_len {l : List UInt8} (h : l.all isD = true) {m : Nat} (hm : l.length ≤ m) : (limbs (dval 0 l)).length ≤ m :=
  limbs_len.2 (Nat.lt_of_lt_of_le (dval_lt l h) (Nat.le_trans (Nat.pow_le_pow_left (by decide) _) (Nat.pow_le_pow_right (by decide) hm)))
theorem take_all {l : List UInt8} {i : Nat} (hi : i < l.length) (h : (l.take i).all isD = true) (hd : isD l[i] = true) : (l.take (i + 1)).all isD = true := by
  rw [List.take_succ_eq_append_getElem hi, List.all_append, h]; simp [hd]
theorem take_dval {l : List UInt8} {i : Nat} (hi : i < l.length) : dval 0 (l.take (i + 1)) = dval 0 (l.take i) * 10 + (l[i].toNat - 48) := by
  rw [List.take_succ_eq_append_getElem hi, dval_append, dval_cons, dval_nil, Nat.mul_comm]
set_option maxHeartbeats 2000000 in
theorem rParse_calls (l : List UInt8) : PCalls Tryz.prog 63 [.str l] (parseR l) := by
  refine PCalls_of isrParse (by simp [fnrParse]) ?_
  unfold coderParse
  by_cases hn : l = []
  · subst hn
    have hb : okD [] = false := rfl
    rw [parseR_bad hb]
    repeat (first | refine W_seq ?_ | refine W_reg ?_ | refine W_regd ?_ | refine W_block ?_ | refine And.intro (by omega) ?_ | simp (maxSteps := 1000000) (disch := omega) only [cA, cB, cC, frz_us, binE, unE, boundE, newsE, blkQ, Nat.reduceEqDiff, Nat.reduceLT, Nat.reduceAdd, ↓reduceIte, reduceCtorEq, Nat.reduceLeDiff, decide_true])
    refine W_cond rfl (fun _ => ?_) (fun h => by cases h)
    repeat (first | refine W_seq ?_ | refine W_reg ?_ | refine W_regd ?_ | refine W_block ?_ | refine And.intro (by omega) ?_ | simp (maxSteps := 1000000) (disch := omega) only [cA, cB, cC, frz_us, binE, unE, boundE, newsE, blkQ, Nat.reduceEqDiff, Nat.reduceLT, Nat.reduceAdd, ↓reduceIte, reduceCtorEq, Nat.reduceLeDiff])
    exact W_ret (RetP_2 (.nils _) (.imm rfl))
  · have hpos : 0 < l.length := List.length_pos_iff.2 hn
    have dn : decide (l = []) = false := decide_eq_false hn
    by_cases h4 : 4000 < l.length
    · have d4 : decide ((4000 : Int) < l.length) = true := decide_eq_true (by omega)
      have hb : okD l = false := by
        rw [← Bool.not_eq_true, okD_iff]
        exact fun h => by omega
      rw [parseR_bad hb]
      repeat (first | refine W_seq ?_ | refine W_reg ?_ | refine W_regd ?_ | refine W_block ?_ | refine And.intro (by omega) ?_ | simp (maxSteps := 1000000) (disch := omega) only [cA, cB, cC, frz_us, binE, unE, boundE, newsE, blkQ, Nat.reduceEqDiff, Nat.reduceLT, Nat.reduceAdd, ↓reduceIte, reduceCtorEq, Nat.reduceLeDiff, dn, d4])
      refine W_cond rfl (fun _ => ?_) (fun h => by cases h)
      repeat (first | refine W_seq ?_ | refine W_reg ?_ | refine W_regd ?_ | refine W_block ?_ | refine And.intro (by omega) ?_ | simp (maxSteps := 1000000) (disch := omega) only [cA, cB, cC, frz_us, binE, unE, boundE, newsE, blkQ, Nat.reduceEqDiff, Nat.reduceLT, Nat.reduceAdd, ↓reduceIte, reduceCtorEq, Nat.reduceLeDiff])
      exact W_ret (RetP_2 (.nils _) (.imm rfl))
    · have d4 : decide ((4000 : Int) < l.length) = false := decide_eq_false (by omega)
      by_cases hz : l.head? = some 48 ∧ 1 < l.length
      · have hb : okD l = false := by
          rw [← Bool.not_eq_true, okD_iff]
          exact fun h => h.2.2.1 hz
        have d1 : decide ((1 : Int) < l.length) = true := decide_eq_true (by omega)
        have hg : l.getD 0 0 = 48 := by
          cases l with
          | nil => exact absurd rfl hn
          | cons c r => simpa using hz.1
        have e0 : (Int.toNat 0) = 0 := rfl
        have e48 : byteD 48 = .int .u8 48 := rfl
        rw [parseR_bad hb]
        repeat (first | refine W_seq ?_ | refine W_reg ?_ | refine W_regd ?_ | refine W_block ?_ | refine And.intro (by omega) ?_ | simp (maxSteps := 1000000) (disch := omega) only [cA, cB, cC, frz_us, binE, unE, boundE, newsE, blkQ, Nat.reduceEqDiff, Nat.reduceLT, Nat.reduceAdd, ↓reduceIte, reduceCtorEq, Nat.reduceLeDiff, dn, d4, d1, e0, hg, e48])
        refine W_cond rfl (fun _ => ?_) (fun h => by simp at h)
        repeat (first | refine W_seq ?_ | refine W_reg ?_ | refine W_regd ?_ | refine W_block ?_ | refine And.intro (by omega) ?_ | simp (maxSteps := 1000000) (disch := omega) only [cA, cB, cC, frz_us, binE, unE, boundE, newsE, blkQ, Nat.reduceEqDiff, Nat.reduceLT, Nat.reduceAdd, ↓reduceIte, reduceCtorEq, Nat.reduceLeDiff])
        exact W_ret (RetP_2 (.nils _) (.imm rfl))
      · have e0 : (Int.toNat 0) = 0 := rfl
        by_cases h1 : 1 < l.length
        · have d1 : decide ((1 : Int) < l.length) = true := decide_eq_true (by omega)
          have hne : ¬ (l.getD 0 0).toNat = 48 := fun e => hz ⟨by
            cases l with
            | nil => exact absurd rfl hn
            | cons c r => simp only [List.getD_cons_zero] at e; rw [List.head?_cons, ← UInt8.toNat_inj.1 (show c.toNat = (48 : UInt8).toNat from e)], h1⟩
          have ebd : byteD (l.getD 0 0) = .int .u8 ((l.getD 0 0).toNat : Nat) := rfl
          have d2 : decide ((((l.getD 0 0).toNat : Nat) : Int) = 48) = false := decide_eq_false (by omega)
          repeat (first | refine W_seq ?_ | refine W_reg ?_ | refine W_regd ?_ | refine W_block ?_ | refine And.intro (by omega) ?_ | simp (maxSteps := 1000000) (disch := omega) only [cA, cB, cC, frz_us, binE, unE, boundE, newsE, blkQ, Nat.reduceEqDiff, Nat.reduceLT, Nat.reduceAdd, ↓reduceIte, reduceCtorEq, Nat.reduceLeDiff, dn, d4, d1, e0, ebd, d2])
          refine W_cond rfl (fun h => by cases h) (fun _ => W_skip ?_)
          clear hne ebd d2 d1
          repeat (first | refine W_seq ?_ | refine W_reg ?_ | refine W_regd ?_ | refine W_block ?_ | refine And.intro (by omega) ?_ | simp (maxSteps := 1000000) (disch := omega) only [cA, cB, cC, frz_us, binE, unE, boundE, newsE, blkQ, Nat.reduceEqDiff, Nat.reduceLT, Nat.reduceAdd, ↓reduceIte, reduceCtorEq, Nat.reduceLeDiff])
          refine W_loop (σ := Nat) (fun i => [(0, .str l), (2, .nils), (3, .bool false), (4, accD l i), (5, .int .i64 i)]) (fun _ => []) (fun i => i ≤ l.length ∧ (l.take i).all isD = true) (fun i => l.length - i) 0 (And.intro (Nat.zero_le _) rfl) ?_ rfl ?_
          · simp [subF, lk, accD]
          · rintro i ⟨hi, hall⟩
            try simp only at hi hall ⊢
            by_cases hlt : i < l.length
            · have dl : decide ((i : Int) < l.length) = true := decide_eq_true (by omega)
              have ei : (i : Int).toNat = i := Int.toNat_natCast i
              have hgd : l.getD i 0 = l[i] := by rw [List.getD_eq_getElem?_getD, List.getElem?_eq_getElem hlt]; rfl
              have hta := take_all hlt hall
              have htd := take_dval hlt
              have hmem : l[i] ∈ l := List.getElem_mem hlt
              have hdl := dval_len hall (m := 4000) (by simp; omega)
              generalize l[i] = c at *
              have hk : c.toNat < 256 := UInt8.toNat_lt c
              have ebd : byteD c = .int .u8 (c.toNat : Nat) := rfl
              repeat (first | refine W_seq ?_ | refine W_reg ?_ | refine W_regd ?_ | refine W_block ?_ | refine And.intro (by omega) ?_ | simp (maxSteps := 1000000) (disch := omega) only [cA, cB, cC, frz_us, binE, unE, boundE, newsE, blkQ, Nat.reduceEqDiff, Nat.reduceLT, Nat.reduceAdd, ↓reduceIte, reduceCtorEq, Nat.reduceLeDiff, dl])
              refine W_cond rfl (fun _ => W_skip ?_) (fun h => by cases h)
              by_cases hd : isD c = true
              · have hd' := hd
                simp only [isD, Bool.and_eq_true, decide_eq_true_eq] at hd'
                have d5 : decide ((c.toNat : Int) < 48) = false := decide_eq_false (by omega)
                have d6 : decide ((57 : Int) < c.toNat) = false := decide_eq_false (by omega)
                have e7 : IntKind.u8.wrap ((c.toNat : Int) - 48) = ((c.toNat - 48 : Nat) : Int) := by rw [IntKind.wrap_u8]; omega
                have e8 : (c.toNat : Int) - 48 = ((c.toNat - 48 : Nat) : Int) := by omega
                have hta' := hta hd
                have ct : PCalls Tryz.prog 114 [accD l i, .int .u32 10, .int .i64 0] (.sl 1 (us (limbs (dval 0 (l.take i) * 10)))) := by
                  have h := rTimes_calls (dval 0 (l.take i)) 10 0 (by omega) (by decide) (by decide)
                  rw [Nat.pow_zero, Nat.one_mul] at h
                  unfold accD
                  split
                  · rename_i h0
                    subst h0
                    refine PCalls_nz 1 ?_
                    rw [List.take_zero, dval_nil, Nat.zero_mul, limbs_zero] at h
                    rw [List.take_zero, dval_nil, Nat.zero_mul, limbs_zero]
                    exact h
                  · exact h
                have cf := rFromUint_calls (c.toNat - 48) (by omega)
                have hm10 := len_mul hdl (show (limbs 10).length ≤ 1 by rw [limbs_one (by decide) (by decide)]; simp)
                have ca := rAddL (dval 0 (l.take i) * 10) (c.toNat - 48) (by omega) (Nat.le_trans (limbs_len.2 (show c.toNat - 48 < 4294967296 ^ 1 by omega)) (by decide))
                rw [← htd] at ca
                have hac : accD l (i + 1) = .sl 1 (us (limbs (dval 0 (l.take (i + 1))))) := by unfold accD; rw [if_neg (by omega)]
                rw [← hac] at ca
                have i1 : ((i : Int) + 1) = ((i + 1 : Nat) : Int) := by omega
                have hacc : accD l i = .nils ∨ ∃ xs, accD l i = .sl 1 xs := by
                  unfold accD
                  split
                  · exact .inl rfl
                  · exact .inr ⟨_, rfl⟩
                clear hta htd hdl hm10 hall hd hac
                (replace hta' := Hid.mk hta')
                repeat (first | refine W_seq ?_ | refine W_reg ?_ | refine W_regd ?_ | refine W_block ?_ | refine And.intro (by omega) ?_ | simp (maxSteps := 1000000) (disch := omega) only [cA, cB, cC, frz_us, binE, unE, boundE, newsE, blkQ, Nat.reduceEqDiff, Nat.reduceLT, Nat.reduceAdd, ↓reduceIte, reduceCtorEq, Nat.reduceLeDiff, ei, hgd, ebd, d5, d6])
                refine W_cond rfl (fun h => by cases h) (fun _ => W_skip ?_)
                rcases hacc with e | ⟨xs, e⟩
                · rw [e] at ct ⊢
                  repeat (first | refine W_seq ?_ | refine W_reg ?_ | refine W_regd ?_ | refine W_block ?_ | refine And.intro (by omega) ?_ | simp (maxSteps := 1000000) (disch := omega) only [cA, cB, cC, frz_us, binE, unE, boundE, newsE, blkQ, Nat.reduceEqDiff, Nat.reduceLT, Nat.reduceAdd, ↓reduceIte, reduceCtorEq, Nat.reduceLeDiff, ei, hgd, ebd, e7, e8, i1] | refine callC_pure (ct) rfl ?_ | refine callC_pure (cf) rfl ?_ | refine callC_pure (ca) rfl ?_ | exact W_ret (RetP_1 (.imm rfl)) | exact W_ret (RetP_c rfl rfl rfl (.imm rfl)))
                  exact ⟨i + 1, And.intro hlt hta'.out, by omega, by simp [subF, lk]⟩
                · rw [e] at ct ⊢
                  repeat (first | refine W_seq ?_ | refine W_reg ?_ | refine W_regd ?_ | refine W_block ?_ | refine And.intro (by omega) ?_ | simp (maxSteps := 1000000) (disch := omega) only [cA, cB, cC, frz_us, binE, unE, boundE, newsE, blkQ, Nat.reduceEqDiff, Nat.reduceLT, Nat.reduceAdd, ↓reduceIte, reduceCtorEq, Nat.reduceLeDiff, ei, hgd, ebd, e7, e8, i1] | refine callC_pure (ct) rfl ?_ | refine callC_pure (cf) rfl ?_ | refine callC_pure (ca) rfl ?_ | exact W_ret (RetP_1 (.imm rfl)) | exact W_ret (RetP_c rfl rfl rfl (.imm rfl)))
                  exact ⟨i + 1, And.intro hlt hta'.out, by omega, by simp [subF, lk]⟩
              · have hb : okD l = false := by
                  rw [← Bool.not_eq_true, okD_iff]
                  exact fun h => hd (List.all_eq_true.1 h.2.2.2 c hmem)
                rw [parseR_bad hb]
                clear hta htd hall hdl
                by_cases h5 : c.toNat < 48
                · have d5 : decide ((c.toNat : Int) < 48) = true := decide_eq_true (by omega)
                  repeat (first | refine W_seq ?_ | refine W_reg ?_ | refine W_regd ?_ | refine W_block ?_ | refine And.intro (by omega) ?_ | simp (maxSteps := 1000000) (disch := omega) only [cA, cB, cC, frz_us, binE, unE, boundE, newsE, blkQ, Nat.reduceEqDiff, Nat.reduceLT, Nat.reduceAdd, ↓reduceIte, reduceCtorEq, Nat.reduceLeDiff, ei, hgd, ebd, d5])
                  refine W_cond rfl (fun _ => ?_) (fun h => by cases h)
                  repeat (first | refine W_seq ?_ | refine W_reg ?_ | refine W_regd ?_ | refine W_block ?_ | refine And.intro (by omega) ?_ | simp (maxSteps := 1000000) (disch := omega) only [cA, cB, cC, frz_us, binE, unE, boundE, newsE, blkQ, Nat.reduceEqDiff, Nat.reduceLT, Nat.reduceAdd, ↓reduceIte, reduceCtorEq, Nat.reduceLeDiff])
                  exact W_ret (RetP_2 (.nils _) (.imm rfl))
                · have d5 : decide ((c.toNat : Int) < 48) = false := decide_eq_false (by omega)
                  have d6 : decide ((57 : Int) < c.toNat) = true := decide_eq_true (by
                    simp only [isD, Bool.and_eq_true, decide_eq_true_eq] at hd
                    omega)
                  repeat (first | refine W_seq ?_ | refine W_reg ?_ | refine W_regd ?_ | refine W_block ?_ | refine And.intro (by omega) ?_ | simp (maxSteps := 1000000) (disch := omega) only [cA, cB, cC, frz_us, binE, unE, boundE, newsE, blkQ, Nat.reduceEqDiff, Nat.reduceLT, Nat.reduceAdd, ↓reduceIte, reduceCtorEq, Nat.reduceLeDiff, ei, hgd, ebd, d5, d6])
                  refine W_cond rfl (fun _ => ?_) (fun h => by cases h)
                  repeat (first | refine W_seq ?_ | refine W_reg ?_ | refine W_regd ?_ | refine W_block ?_ | refine And.intro (by omega) ?_ | simp (maxSteps := 1000000) (disch := omega) only [cA, cB, cC, frz_us, binE, unE, boundE, newsE, blkQ, Nat.reduceEqDiff, Nat.reduceLT, Nat.reduceAdd, ↓reduceIte, reduceCtorEq, Nat.reduceLeDiff])
                  exact W_ret (RetP_2 (.nils _) (.imm rfl))
            · have hil : i = l.length := by omega
              subst hil
              have dl : decide ((l.length : Int) < l.length) = false := decide_eq_false (by omega)
              rw [List.take_length] at hall
              have hb : okD l = true := (okD_iff l).2 ⟨hn, by omega, hz, hall⟩
              have hr : parseR l = .tup [.sl 1 (us (limbs (dval 0 l))), .bool true] := by unfold parseR; rw [hb]; rfl
              have hac : accD l l.length = .sl 1 (us (limbs (dval 0 l))) := by unfold accD; rw [if_neg (by omega), List.take_length]
              rw [hr, hac]
              repeat (first | refine W_seq ?_ | refine W_reg ?_ | refine W_regd ?_ | refine W_block ?_ | refine And.intro (by omega) ?_ | simp (maxSteps := 1000000) (disch := omega) only [cA, cB, cC, frz_us, binE, unE, boundE, newsE, blkQ, Nat.reduceEqDiff, Nat.reduceLT, Nat.reduceAdd, ↓reduceIte, reduceCtorEq, Nat.reduceLeDiff, dl])
              refine W_cond rfl (fun h => by cases h) (fun _ => W_exit ?_)
              repeat (first | refine W_seq ?_ | refine W_reg ?_ | refine W_regd ?_ | refine W_block ?_ | refine And.intro (by omega) ?_ | simp (maxSteps := 1000000) (disch := omega) only [cA, cB, cC, frz_us, binE, unE, boundE, newsE, blkQ, Nat.reduceEqDiff, Nat.reduceLT, Nat.reduceAdd, ↓reduceIte, reduceCtorEq, Nat.reduceLeDiff])
              exact W_ret (RetP_2 (.imm rfl) (.imm rfl))
        · have d1 : decide ((1 : Int) < l.length) = false := decide_eq_false (by omega)
          repeat (first | refine W_seq ?_ | refine W_reg ?_ | refine W_regd ?_ | refine W_block ?_ | refine And.intro (by omega) ?_ | simp (maxSteps := 1000000) (disch := omega) only [cA, cB, cC, frz_us, binE, unE, boundE, newsE, blkQ, Nat.reduceEqDiff, Nat.reduceLT, Nat.reduceAdd, ↓reduceIte, reduceCtorEq, Nat.reduceLeDiff, dn, d4, d1])
          refine W_cond rfl (fun h => by cases h) (fun _ => W_skip ?_)
          repeat (first | refine W_seq ?_ | refine W_reg ?_ | refine W_regd ?_ | refine W_block ?_ | refine And.intro (by omega) ?_ | simp (maxSteps := 1000000) (disch := omega) only [cA, cB, cC, frz_us, binE, unE, boundE, newsE, blkQ, Nat.reduceEqDiff, Nat.reduceLT, Nat.reduceAdd, ↓reduceIte, reduceCtorEq, Nat.reduceLeDiff])
          refine W_loop (σ := Nat) (fun i => [(0, .str l), (2, .nils), (3, .bool false), (4, accD l i), (5, .int .i64 i)]) (fun _ => []) (fun i => i ≤ l.length ∧ (l.take i).all isD = true) (fun i => l.length - i) 0 (And.intro (Nat.zero_le _) rfl) ?_ rfl ?_
          · simp [subF, lk, accD]
          · rintro i ⟨hi, hall⟩
            try simp only at hi hall ⊢
            by_cases hlt : i < l.length
            · have dl : decide ((i : Int) < l.length) = true := decide_eq_true (by omega)
              have ei : (i : Int).toNat = i := Int.toNat_natCast i
              have hgd : l.getD i 0 = l[i] := by rw [List.getD_eq_getElem?_getD, List.getElem?_eq_getElem hlt]; rfl
              have hta := take_all hlt hall
              have htd := take_dval hlt
              have hmem : l[i] ∈ l := List.getElem_mem hlt
              have hdl := dval_len hall (m := 4000) (by simp; omega)
              generalize l[i] = c at *
              have hk : c.toNat < 256 := UInt8.toNat_lt c
              have ebd : byteD c = .int .u8 (c.toNat : Nat) := rfl
              repeat (first | refine W_seq ?_ | refine W_reg ?_ | refine W_regd ?_ | refine W_block ?_ | refine And.intro (by omega) ?_ | simp (maxSteps := 1000000) (disch := omega) only [cA, cB, cC, frz_us, binE, unE, boundE, newsE, blkQ, Nat.reduceEqDiff, Nat.reduceLT, Nat.reduceAdd, ↓reduceIte, reduceCtorEq, Nat.reduceLeDiff, dl])
              refine W_cond rfl (fun _ => W_skip ?_) (fun h => by cases h)
              by_cases hd : isD c = true
              · have hd' := hd
                simp only [isD, Bool.and_eq_true, decide_eq_true_eq] at hd'
                have d5 : decide ((c.toNat : Int) < 48) = false := decide_eq_false (by omega)
                have d6 : decide ((57 : Int) < c.toNat) = false := decide_eq_false (by omega)
                have e7 : IntKind.u8.wrap ((c.toNat : Int) - 48) = ((c.toNat - 48 : Nat) : Int) := by rw [IntKind.wrap_u8]; omega
                have e8 : (c.toNat : Int) - 48 = ((c.toNat - 48 : Nat) : Int) := by omega
                have hta' := hta hd
                have ct : PCalls Tryz.prog 114 [accD l i, .int .u32 10, .int .i64 0] (.sl 1 (us (limbs (dval 0 (l.take i) * 10)))) := by
                  have h := rTimes_calls (dval 0 (l.take i)) 10 0 (by omega) (by decide) (by decide)
                  rw [Nat.pow_zero, Nat.one_mul] at h
                  unfold accD
                  split
                  · rename_i h0
                    subst h0
                    refine PCalls_nz 1 ?_
                    rw [List.take_zero, dval_nil, Nat.zero_mul, limbs_zero] at h
                    rw [List.take_zero, dval_nil, Nat.zero_mul, limbs_zero]
                    exact h
                  · exact h
                have cf := rFromUint_calls (c.toNat - 48) (by omega)
                have hm10 := len_mul hdl (show (limbs 10).length ≤ 1 by rw [limbs_one (by decide) (by decide)]; simp)
                have ca := rAddL (dval 0 (l.take i) * 10) (c.toNat - 48) (by omega) (Nat.le_trans (limbs_len.2 (show c.toNat - 48 < 4294967296 ^ 1 by omega)) (by decide))
                rw [← htd] at ca
                have hac : accD l (i + 1) = .sl 1 (us (limbs (dval 0 (l.take (i + 1))))) := by unfold accD; rw [if_neg (by omega)]
                rw [← hac] at ca
                have i1 : ((i : Int) + 1) = ((i + 1 : Nat) : Int) := by omega
                have hacc : accD l i = .nils ∨ ∃ xs, accD l i = .sl 1 xs := by
                  unfold accD
                  split
                  · exact .inl rfl
                  · exact .inr ⟨_, rfl⟩
                clear hta htd hdl hm10 hall hd hac
                (replace hta' := Hid.mk hta')
                repeat (first | refine W_seq ?_ | refine W_reg ?_ | refine W_regd ?_ | refine W_block ?_ | refine And.intro (by omega) ?_ | simp (maxSteps := 1000000) (disch := omega) only [cA, cB, cC, frz_us, binE, unE, boundE, newsE, blkQ, Nat.reduceEqDiff, Nat.reduceLT, Nat.reduceAdd, ↓reduceIte, reduceCtorEq, Nat.reduceLeDiff, ei, hgd, ebd, d5, d6])
                refine W_cond rfl (fun h => by cases h) (fun _ => W_skip ?_)
                rcases hacc with e | ⟨xs, e⟩
                · rw [e] at ct ⊢
                  repeat (first | refine W_seq ?_ | refine W_reg ?_ | refine W_regd ?_ | refine W_block ?_ | refine And.intro (by omega) ?_ | simp (maxSteps := 1000000) (disch := omega) only [cA, cB, cC, frz_us, binE, unE, boundE, newsE, blkQ, Nat.reduceEqDiff, Nat.reduceLT, Nat.reduceAdd, ↓reduceIte, reduceCtorEq, Nat.reduceLeDiff, ei, hgd, ebd, e7, e8, i1] | refine callC_pure (ct) rfl ?_ | refine callC_pure (cf) rfl ?_ | refine callC_pure (ca) rfl ?_ | exact W_ret (RetP_1 (.imm rfl)) | exact W_ret (RetP_c rfl rfl rfl (.imm rfl)))
                  exact ⟨i + 1, And.intro hlt hta'.out, by omega, by simp [subF, lk]⟩
                · rw [e] at ct ⊢
                  repeat (first | refine W_seq ?_ | refine W_reg ?_ | refine W_regd ?_ | refine W_block ?_ | refine And.intro (by omega) ?_ | simp (maxSteps := 1000000) (disch := omega) only [cA, cB, cC, frz_us, binE, unE, boundE, newsE, blkQ, Nat.reduceEqDiff, Nat.reduceLT, Nat.reduceAdd, ↓reduceIte, reduceCtorEq, Nat.reduceLeDiff, ei, hgd, ebd, e7, e8, i1] | refine callC_pure (ct) rfl ?_ | refine callC_pure (cf) rfl ?_ | refine callC_pure (ca) rfl ?_ | exact W_ret (RetP_1 (.imm rfl)) | exact W_ret (RetP_c rfl rfl rfl (.imm rfl)))
                  exact ⟨i + 1, And.intro hlt hta'.out, by omega, by simp [subF, lk]⟩
              · have hb : okD l = false := by
                  rw [← Bool.not_eq_true, okD_iff]
                  exact fun h => hd (List.all_eq_true.1 h.2.2.2 c hmem)
                rw [parseR_bad hb]
                clear hta htd hall hdl
                by_cases h5 : c.toNat < 48
                · have d5 : decide ((c.toNat : Int) < 48) = true := decide_eq_true (by omega)
                  repeat (first | refine W_seq ?_ | refine W_reg ?_ | refine W_regd ?_ | refine W_block ?_ | refine And.intro (by omega) ?_ | simp (maxSteps := 1000000) (disch := omega) only [cA, cB, cC, frz_us, binE, unE, boundE, newsE, blkQ, Nat.reduceEqDiff, Nat.reduceLT, Nat.reduceAdd, ↓reduceIte, reduceCtorEq, Nat.reduceLeDiff, ei, hgd, ebd, d5])
                  refine W_cond rfl (fun _ => ?_) (fun h => by cases h)
                  repeat (first | refine W_seq ?_ | refine W_reg ?_ | refine W_regd ?_ | refine W_block ?_ | refine And.intro (by omega) ?_ | simp (maxSteps := 1000000) (disch := omega) only [cA, cB, cC, frz_us, binE, unE, boundE, newsE, blkQ, Nat.reduceEqDiff, Nat.reduceLT, Nat.reduceAdd, ↓reduceIte, reduceCtorEq, Nat.reduceLeDiff])
                  exact W_ret (RetP_2 (.nils _) (.imm rfl))
                · have d5 : decide ((c.toNat : Int) < 48) = false := decide_eq_false (by omega)
                  have d6 : decide ((57 : Int) < c.toNat) = true := decide_eq_true (by
                    simp only [isD, Bool.and_eq_true, decide_eq_true_eq] at hd
                    omega)
                  repeat (first | refine W_seq ?_ | refine W_reg ?_ | refine W_regd ?_ | refine W_block ?_ | refine And.intro (by omega) ?_ | simp (maxSteps := 1000000) (disch := omega) only [cA, cB, cC, frz_us, binE, unE, boundE, newsE, blkQ, Nat.reduceEqDiff, Nat.reduceLT, Nat.reduceAdd, ↓reduceIte, reduceCtorEq, Nat.reduceLeDiff, ei, hgd, ebd, d5, d6])
                  refine W_cond rfl (fun _ => ?_) (fun h => by cases h)
                  repeat (first | refine W_seq ?_ | refine W_reg ?_ | refine W_regd ?_ | refine W_block ?_ | refine And.intro (by omega) ?_ | simp (maxSteps := 1000000) (disch := omega) only [cA, cB, cC, frz_us, binE, unE, boundE, newsE, blkQ, Nat.reduceEqDiff, Nat.reduceLT, Nat.reduceAdd, ↓reduceIte, reduceCtorEq, Nat.reduceLeDiff])
                  exact W_ret (RetP_2 (.nils _) (.imm rfl))
            · have hil : i = l.length := by omega
              subst hil
              have dl : decide ((l.length : Int) < l.length) = false := decide_eq_false (by omega)
              rw [List.take_length] at hall
              have hb : okD l = true := (okD_iff l).2 ⟨hn, by omega, hz, hall⟩
              have hr : parseR l = .tup [.sl 1 (us (limbs (dval 0 l))), .bool true] := by unfold parseR; rw [hb]; rfl
              have hac : accD l l.length = .sl 1 (us (limbs (dval 0 l))) := by unfold accD; rw [if_neg (by omega), List.take_length]
              rw [hr, hac]
              repeat (first | refine W_seq ?_ | refine W_reg ?_ | refine W_regd ?_ | refine W_block ?_ | refine And.intro (by omega) ?_ | simp (maxSteps := 1000000) (disch := omega) only [cA, cB, cC, frz_us, binE, unE, boundE, newsE, blkQ, Nat.reduceEqDiff, Nat.reduceLT, Nat.reduceAdd, ↓reduceIte, reduceCtorEq, Nat.reduceLeDiff, dl])
              refine W_cond rfl (fun h => by cases h) (fun _ => W_exit ?_)
              repeat (first | refine W_seq ?_ | refine W_reg ?_ | refine W_regd ?_ | refine W_block ?_ | refine And.intro (by omega) ?_ | simp (maxSteps := 1000000) (disch := omega) only [cA, cB, cC, frz_us, binE, unE, boundE, newsE, blkQ, Nat.reduceEqDiff, Nat.reduceLT, Nat.reduceAdd, ↓reduceIte, reduceCtorEq, Nat.reduceLeDiff])
              exact W_ret (RetP_2 (.imm rfl) (.imm rfl))
end Go.Proofs.YteiagmmfapbaiaaGreatDoor
namespace Go.Proofs.YteiagmmfapbaiaaGreatDoor
open Go Go.Dat Go.Proofs Nat32
theorem byteD_get {g : List UInt8} {j : Nat} (h : j < g.length) : (g.map byteD).getD j .undef = .int .u8 (g[j].toNat : Nat) := by
  rw [List.getD_eq_getElem?_getD, List.getElem?_map, List.getElem?_eq_getElem h]; rfl
theorem byteD_get? {g : List UInt8} {j : Nat} (h : j < g.length) : (g.map byteD)[j]? = some (.int .u8 (g[j].toNat : Nat)) := by
  rw [List.getElem?_map, List.getElem?_eq_getElem h]; rfl
theorem seg_len {l : List UInt8} {at' e : Nat} (h : e ≤ l.length) : ((l.take e).drop at').length = e - at' := by
  rw [List.length_drop, List.length_take]; omega
theorem take_seg {l : List UInt8} {at' e : Nat} (h : at' ≤ e) : l.take e = l.take at' ++ (l.take e).drop at' := by
  have := List.take_append_drop at' (l.take e)
  rw [List.take_take, Nat.min_eq_left h] at this
  exact this.symm
theorem dval_seg {l : List UInt8} {at' e : Nat} (h : at' ≤ e) (he : e ≤ l.length) (h9 : at' = 0 ∨ e - at' = 9) : dval 0 (l.take at') * 1000000000 + dval 0 ((l.take e).drop at') = dval 0 (l.take e) := by
  rcases h9 with rfl | h9
  · rw [List.take_zero, dval_nil, List.drop_zero]; omega
  · have e1 := take_seg (l := l) h
    have e2 := congrArg (dval 0) e1
    rw [dval_append, dval_acc _ (dval 0 (l.take at'))] at e2
    rw [e2, seg_len he, h9]
theorem accD_cases (l : List UInt8) (i : Nat) : accD l i = .nils ∨ ∃ xs, accD l i = .sl 1 xs := by
  unfold accD
  by_cases h : i = 0
  · rw [if_pos h]; exact .inl rfl
  · rw [if_neg h]; exact .inr ⟨_, rfl⟩
theorem accD_nMul (l : List UInt8) (i : Nat) (hd : (limbs (dval 0 (l.take i))).length ≤ 10000) : PCalls Tryz.prog 74 [accD l i, .sl 1 (us (limbs 1000000000))] (.sl 1 (us (limbs (dval 0 (l.take i) * 1000000000)))) := by
  have h := nMulL (dval 0 (l.take i)) 1000000000 hd (by rw [limbs_one (by decide) (by decide)]; simp)
  unfold accD
  by_cases h0 : i = 0
  · subst h0
    rw [if_pos rfl]
    refine PCalls_nz 1 ?_
    rw [List.take_zero, dval_nil, Nat.zero_mul, limbs_zero] at h
    rw [List.take_zero, dval_nil, Nat.zero_mul, limbs_zero]
    exact h
  · rw [if_neg h0]; exact h
set_option maxHeartbeats 4000000 in
theorem nParse_calls (l : List UInt8) : PCalls Tryz.prog 108 [.str l] (parseR l) := by
  refine PCalls_of isnParse (by simp [fnnParse]) ?_
  unfold codenParse
  by_cases hn : l = []
  · subst hn
    have hb : okD [] = false := rfl
    rw [parseR_bad hb]
    repeat (first | refine W_seq ?_ | refine W_reg ?_ | refine W_regd ?_ | refine W_block ?_ | refine And.intro (by omega) ?_ | simp (maxSteps := 1000000) (disch := omega) only [cA, cB, cC, frz_us, binE, unE, boundE, newsE, blkQ, Nat.reduceEqDiff, Nat.reduceLT, Nat.reduceAdd, ↓reduceIte, reduceCtorEq, Nat.reduceLeDiff, decide_true])
    refine W_cond rfl (fun _ => ?_) (fun h => by cases h)
    repeat (first | refine W_seq ?_ | refine W_reg ?_ | refine W_regd ?_ | refine W_block ?_ | refine And.intro (by omega) ?_ | simp (maxSteps := 1000000) (disch := omega) only [cA, cB, cC, frz_us, binE, unE, boundE, newsE, blkQ, Nat.reduceEqDiff, Nat.reduceLT, Nat.reduceAdd, ↓reduceIte, reduceCtorEq, Nat.reduceLeDiff])
    exact W_ret (RetP_2 (.nils _) (.imm rfl))
  · have hpos : 0 < l.length := List.length_pos_iff.2 hn
    have dn : decide (l = []) = false := decide_eq_false hn
    by_cases h4 : 4000 < l.length
    · have d4 : decide ((4000 : Int) < l.length) = true := decide_eq_true (by omega)
      have hb : okD l = false := by
        rw [← Bool.not_eq_true, okD_iff]
        exact fun h => by omega
      rw [parseR_bad hb]
      repeat (first | refine W_seq ?_ | refine W_reg ?_ | refine W_regd ?_ | refine W_block ?_ | refine And.intro (by omega) ?_ | simp (maxSteps := 1000000) (disch := omega) only [cA, cB, cC, frz_us, binE, unE, boundE, newsE, blkQ, Nat.reduceEqDiff, Nat.reduceLT, Nat.reduceAdd, ↓reduceIte, reduceCtorEq, Nat.reduceLeDiff, dn, d4])
      refine W_cond rfl (fun _ => ?_) (fun h => by cases h)
      repeat (first | refine W_seq ?_ | refine W_reg ?_ | refine W_regd ?_ | refine W_block ?_ | refine And.intro (by omega) ?_ | simp (maxSteps := 1000000) (disch := omega) only [cA, cB, cC, frz_us, binE, unE, boundE, newsE, blkQ, Nat.reduceEqDiff, Nat.reduceLT, Nat.reduceAdd, ↓reduceIte, reduceCtorEq, Nat.reduceLeDiff])
      exact W_ret (RetP_2 (.nils _) (.imm rfl))
    · have d4 : decide ((4000 : Int) < l.length) = false := decide_eq_false (by omega)
      have e0 : (Int.toNat 0) = 0 := rfl
      have ebd : byteD (l.getD 0 0) = .int .u8 ((l.getD 0 0).toNat : Nat) := rfl
      by_cases h48 : (l.getD 0 0).toNat = 48
      · have d2 : decide ((((l.getD 0 0).toNat : Nat) : Int) = 48) = true := decide_eq_true (by omega)
        by_cases h1 : 1 < l.length
        · have d1 : decide ((1 : Int) < l.length) = true := decide_eq_true (by omega)
          have hz : l.head? = some 48 ∧ 1 < l.length := ⟨by
            cases l with
            | nil => exact absurd rfl hn
            | cons c r => simp only [List.getD_cons_zero] at h48; rw [List.head?_cons, ← UInt8.toNat_inj.1 (show c.toNat = (48 : UInt8).toNat from h48)], h1⟩
          have hb : okD l = false := by
            rw [← Bool.not_eq_true, okD_iff]
            exact fun h => h.2.2.1 hz
          rw [parseR_bad hb]
          repeat (first | refine W_seq ?_ | refine W_reg ?_ | refine W_regd ?_ | refine W_block ?_ | refine And.intro (by omega) ?_ | simp (maxSteps := 1000000) (disch := omega) only [cA, cB, cC, frz_us, binE, unE, boundE, newsE, blkQ, Nat.reduceEqDiff, Nat.reduceLT, Nat.reduceAdd, ↓reduceIte, reduceCtorEq, Nat.reduceLeDiff, dn, d4, d1, e0, ebd, d2])
          refine W_cond rfl (fun _ => ?_) (fun h => by cases h)
          repeat (first | refine W_seq ?_ | refine W_reg ?_ | refine W_regd ?_ | refine W_block ?_ | refine And.intro (by omega) ?_ | simp (maxSteps := 1000000) (disch := omega) only [cA, cB, cC, frz_us, binE, unE, boundE, newsE, blkQ, Nat.reduceEqDiff, Nat.reduceLT, Nat.reduceAdd, ↓reduceIte, reduceCtorEq, Nat.reduceLeDiff])
          exact W_ret (RetP_2 (.nils _) (.imm rfl))
        · have d1 : decide ((1 : Int) < l.length) = false := decide_eq_false (by omega)
          have hz : ¬ (l.head? = some 48 ∧ 1 < l.length) := fun h => h1 h.2
          repeat (first | refine W_seq ?_ | refine W_reg ?_ | refine W_regd ?_ | refine W_block ?_ | refine And.intro (by omega) ?_ | simp (maxSteps := 1000000) (disch := omega) only [cA, cB, cC, frz_us, binE, unE, boundE, newsE, blkQ, Nat.reduceEqDiff, Nat.reduceLT, Nat.reduceAdd, ↓reduceIte, reduceCtorEq, Nat.reduceLeDiff, dn, d4, d1, e0, ebd, d2])
          refine W_cond rfl (fun h => by cases h) (fun _ => W_skip ?_)
          clear d1 d2 ebd h48 h1
          have r9 : ((l.length : Int).tmod 9) = ((l.length % 9 : Nat) : Int) := by
            rw [Int.tmod_eq_emod_of_nonneg (by omega)]; omega
          repeat (first | refine W_seq ?_ | refine W_reg ?_ | refine W_regd ?_ | refine W_block ?_ | refine And.intro (by omega) ?_ | simp (maxSteps := 1000000) (disch := omega) only [cA, cB, cC, frz_us, binE, unE, boundE, newsE, blkQ, Nat.reduceEqDiff, Nat.reduceLT, Nat.reduceAdd, ↓reduceIte, reduceCtorEq, Nat.reduceLeDiff, r9])
          refine W_loop (σ := Nat) (fun i => [(0, .str l), (2, accD l i), (3, .bool false), (4, .int .i64 (l.length % 9 : Nat)), (5, .int .i64 i)]) (fun _ => []) (fun i => i ≤ l.length ∧ (l.take i).all isD = true ∧ (i = 0 ∨ (l.length - i) % 9 = 0)) (fun i => l.length - i) 0 (And.intro (Nat.zero_le _) (And.intro rfl (.inl rfl))) ?_ rfl ?_
          · simp [subF, lk, accD]
          · rintro i ⟨hi, hall, h9⟩
            by_cases hlt : i < l.length
            · have dl : decide ((i : Int) < l.length) = true := decide_eq_true (by omega)
              repeat (first | refine W_seq ?_ | refine W_reg ?_ | refine W_regd ?_ | refine W_block ?_ | refine And.intro (by omega) ?_ | simp (maxSteps := 1000000) (disch := omega) only [cA, cB, cC, frz_us, binE, unE, boundE, newsE, blkQ, Nat.reduceEqDiff, Nat.reduceLT, Nat.reduceAdd, ↓reduceIte, reduceCtorEq, Nat.reduceLeDiff, dl])
              refine W_cond rfl (fun _ => W_skip ?_) (fun h => by cases h)
              have ti : (i : Int).toNat = i := Int.toNat_natCast i
              by_cases hi0 : i = 0
              · have di : decide ((i : Int) = 0) = true := decide_eq_true (by omega)
                by_cases hf : 0 < l.length % 9
                · have df : decide ((0 : Int) < (l.length % 9 : Nat)) = true := decide_eq_true (by omega)
                  have he1 : i < l.length % 9 := by omega
                  have he2 : l.length % 9 ≤ l.length := Nat.mod_le _ _
                  have he4 : i = 0 ∨ l.length % 9 - i = 9 := .inl hi0
                  have he3 : l.length % 9 - i ≤ 9 := by omega
                  have he5 : (l.length - l.length % 9) % 9 = 0 := by omega
                  have te : ((l.length % 9 : Nat) : Int).toNat = l.length % 9 := Int.toNat_natCast _
                  repeat (first | refine W_seq ?_ | refine W_reg ?_ | refine W_regd ?_ | refine W_block ?_ | refine And.intro (by omega) ?_ | simp (maxSteps := 1000000) (disch := omega) only [cA, cB, cC, frz_us, binE, unE, boundE, newsE, blkQ, Nat.reduceEqDiff, Nat.reduceLT, Nat.reduceAdd, ↓reduceIte, reduceCtorEq, Nat.reduceLeDiff, di, df])
                  refine W_cond rfl (fun _ => ?_) (fun h => by cases h)
                  have hg := seg_len (l := l) (at' := i) (e := (l.length % 9)) he2
                  have hseg := take_seg (l := l) (at' := i) (e := (l.length % 9)) (Nat.le_of_lt he1)
                  have hval := dval_seg (l := l) (at' := i) (e := (l.length % 9)) (Nat.le_of_lt he1) he2 he4
                  have hmem : ∀ c ∈ (l.take (l.length % 9)).drop i, c ∈ l := fun c h => List.mem_of_mem_take (List.mem_of_mem_drop h)
                  repeat (first | refine W_seq ?_ | refine W_reg ?_ | refine W_regd ?_ | refine W_block ?_ | refine And.intro (by omega) ?_ | simp (maxSteps := 1000000) (disch := omega) only [cA, cB, cC, frz_us, binE, unE, boundE, newsE, blkQ, Nat.reduceEqDiff, Nat.reduceLT, Nat.reduceAdd, ↓reduceIte, reduceCtorEq, Nat.reduceLeDiff, ti, te])
                  generalize (l.take (l.length % 9)).drop i = g at *
                  have hglen : ((g.map byteD).length) = g.length := List.length_map ..
                  repeat (first | refine W_seq ?_ | refine W_reg ?_ | refine W_regd ?_ | refine W_block ?_ | refine And.intro (by omega) ?_ | simp (maxSteps := 1000000) (disch := omega) only [cA, cB, cC, frz_us, binE, unE, boundE, newsE, blkQ, Nat.reduceEqDiff, Nat.reduceLT, Nat.reduceAdd, ↓reduceIte, reduceCtorEq, Nat.reduceLeDiff, hglen])
                  refine W_loop (σ := Nat) (fun j => [(0, .str l), (2, accD l i), (3, .bool false), (4, .int .i64 (l.length % 9 : Nat)), (5, .int .i64 i), (6, .int .i64 ((l.length % 9) : Nat)), (47, .sl 1 (g.map byteD)), (48, .int .i64 g.length), (49, .int .i64 j), (7, .int .u64 (dval 0 (g.take j) : Nat))]) (fun _ => []) (fun j => j ≤ g.length ∧ (g.take j).all isD = true) (fun j => g.length - j) 0 (And.intro (Nat.zero_le _) rfl) ?_ rfl ?_
                  · simp [subF, lk, dval_nil]
                  · rintro j ⟨hj, hgall⟩
                    by_cases hjl : j < g.length
                    · have dj : decide ((j : Int) < g.length) = true := decide_eq_true (by omega)
                      repeat (first | refine W_seq ?_ | refine W_reg ?_ | refine W_regd ?_ | refine W_block ?_ | refine And.intro (by omega) ?_ | simp (maxSteps := 1000000) (disch := omega) only [cA, cB, cC, frz_us, binE, unE, boundE, newsE, blkQ, Nat.reduceEqDiff, Nat.reduceLT, Nat.reduceAdd, ↓reduceIte, reduceCtorEq, Nat.reduceLeDiff, dj])
                      refine W_cond rfl (fun _ => W_skip ?_) (fun h => by cases h)
                      have tj : (j : Int).toNat = j := Int.toNat_natCast j
                      have hg1 := byteD_get hjl
                      have hg2 := byteD_get? hjl
                      have hta := take_all hjl hgall
                      have htd := take_dval hjl
                      have hmc := hmem g[j] (List.getElem_mem hjl)
                      have hv : dval 0 (g.take j) < 1000000000 := Nat.lt_of_lt_of_le (dval_lt _ hgall) (Nat.le_trans (Nat.pow_le_pow_right (by decide) (show (g.take j).length ≤ 9 by rw [List.length_take]; omega)) (by decide))
                      generalize g[j] = c at *
                      generalize dval 0 (g.take j) = v at *
                      have hk : c.toNat < 256 := UInt8.toNat_lt c
                      have j1 : ((j : Int) + 1) = ((j + 1 : Nat) : Int) := by omega
                      clear hval hseg
                      by_cases hd : isD c = true
                      · have hd' := hd
                        simp only [isD, Bool.and_eq_true, decide_eq_true_eq] at hd'
                        have d5 : decide ((c.toNat : Int) < 48) = false := decide_eq_false (by omega)
                        have d6 : decide ((57 : Int) < c.toNat) = false := decide_eq_false (by omega)
                        have e8 : (c.toNat : Int) - 48 = ((c.toNat - 48 : Nat) : Int) := by omega
                        have e10 : 10 * (v : Int) + ((c.toNat - 48 : Nat) : Int) = ((dval 0 (g.take (j + 1)) : Nat) : Int) := by rw [htd]; omega
                        have hta' := hta hd
                        clear hta htd hgall hall hmem
                        (replace hta' := Hid.mk hta')
                        repeat (first | refine W_seq ?_ | refine W_reg ?_ | refine W_regd ?_ | refine W_block ?_ | refine And.intro (by omega) ?_ | simp (maxSteps := 1000000) (disch := omega) only [cA, cB, cC, frz_us, binE, unE, boundE, newsE, blkQ, Nat.reduceEqDiff, Nat.reduceLT, Nat.reduceAdd, ↓reduceIte, reduceCtorEq, Nat.reduceLeDiff, tj, hg1, hg2, d5, d6])
                        refine W_cond rfl (fun h => by cases h) (fun _ => W_skip ?_)
                        repeat (first | refine W_seq ?_ | refine W_reg ?_ | refine W_regd ?_ | refine W_block ?_ | refine And.intro (by omega) ?_ | simp (maxSteps := 1000000) (disch := omega) only [cA, cB, cC, frz_us, binE, unE, boundE, newsE, blkQ, Nat.reduceEqDiff, Nat.reduceLT, Nat.reduceAdd, ↓reduceIte, reduceCtorEq, Nat.reduceLeDiff, e8, e10, j1])
                        exact ⟨j + 1, And.intro hjl hta'.out, by omega, by simp [subF, lk]⟩
                      · have hb : okD l = false := by
                          rw [← Bool.not_eq_true, okD_iff]
                          exact fun h => hd (List.all_eq_true.1 h.2.2.2 c hmc)
                        rw [parseR_bad hb]
                        clear hta htd hall hgall hmem
                        by_cases h5 : c.toNat < 48
                        · have d5 : decide ((c.toNat : Int) < 48) = true := decide_eq_true (by omega)
                          repeat (first | refine W_seq ?_ | refine W_reg ?_ | refine W_regd ?_ | refine W_block ?_ | refine And.intro (by omega) ?_ | simp (maxSteps := 1000000) (disch := omega) only [cA, cB, cC, frz_us, binE, unE, boundE, newsE, blkQ, Nat.reduceEqDiff, Nat.reduceLT, Nat.reduceAdd, ↓reduceIte, reduceCtorEq, Nat.reduceLeDiff, tj, hg1, hg2, d5])
                          refine W_cond rfl (fun _ => ?_) (fun h => by cases h)
                          repeat (first | refine W_seq ?_ | refine W_reg ?_ | refine W_regd ?_ | refine W_block ?_ | refine And.intro (by omega) ?_ | simp (maxSteps := 1000000) (disch := omega) only [cA, cB, cC, frz_us, binE, unE, boundE, newsE, blkQ, Nat.reduceEqDiff, Nat.reduceLT, Nat.reduceAdd, ↓reduceIte, reduceCtorEq, Nat.reduceLeDiff])
                          exact W_ret (RetP_2 (.nils _) (.imm rfl))
                        · have d5 : decide ((c.toNat : Int) < 48) = false := decide_eq_false (by omega)
                          have d6 : decide ((57 : Int) < c.toNat) = true := decide_eq_true (by
                            simp only [isD, Bool.and_eq_true, decide_eq_true_eq] at hd
                            omega)
                          repeat (first | refine W_seq ?_ | refine W_reg ?_ | refine W_regd ?_ | refine W_block ?_ | refine And.intro (by omega) ?_ | simp (maxSteps := 1000000) (disch := omega) only [cA, cB, cC, frz_us, binE, unE, boundE, newsE, blkQ, Nat.reduceEqDiff, Nat.reduceLT, Nat.reduceAdd, ↓reduceIte, reduceCtorEq, Nat.reduceLeDiff, tj, hg1, hg2, d5, d6])
                          refine W_cond rfl (fun _ => ?_) (fun h => by cases h)
                          repeat (first | refine W_seq ?_ | refine W_reg ?_ | refine W_regd ?_ | refine W_block ?_ | refine And.intro (by omega) ?_ | simp (maxSteps := 1000000) (disch := omega) only [cA, cB, cC, frz_us, binE, unE, boundE, newsE, blkQ, Nat.reduceEqDiff, Nat.reduceLT, Nat.reduceAdd, ↓reduceIte, reduceCtorEq, Nat.reduceLeDiff])
                          exact W_ret (RetP_2 (.nils _) (.imm rfl))
                    · have dj : decide ((j : Int) < g.length) = false := decide_eq_false (by omega)
                      obtain rfl : j = g.length := by omega
                      rw [List.take_length] at hgall ⊢
                      have u9 : [DV.int .u32 1000000000] = us (limbs 1000000000) := by rw [limbs_one (by decide) (by decide)]; rfl
                      have hl9 : (limbs 1000000000).length ≤ 1 := by rw [limbs_one (by decide) (by decide)]; simp
                      have hv : dval 0 g < 1000000000 := Nat.lt_of_lt_of_le (dval_lt _ hgall) (Nat.le_trans (Nat.pow_le_pow_right (by decide) (show g.length ≤ 9 by omega)) (by decide))
                      have hdl := dval_len hall (m := 4000) (by simp; omega)
                      have ct := accD_nMul l i (by omega)
                      have cf := nFromUint_calls (dval 0 g) (by omega)
                      have hm := len_mul hdl hl9
                      have ca := nAddL (dval 0 (l.take i) * 1000000000) (dval 0 g) (by omega) (Nat.le_trans (limbs_len.2 (show dval 0 g < 4294967296 ^ 1 by omega)) (by decide))
                      rw [hval] at ca
                      have hac : accD l (l.length % 9) = .sl 1 (us (limbs (dval 0 (l.take (l.length % 9))))) := by unfold accD; rw [if_neg (by omega)]
                      rw [← hac] at ca
                      have halle : (l.take (l.length % 9)).all isD = true := by rw [hseg, List.all_append, hall, hgall]; rfl
                      have hacc := accD_cases l i
                      clear hval hseg hall hgall hm hdl hl9 hac hmem
                      (replace halle := Hid.mk halle)
                      rcases hacc with e | ⟨xs, e⟩
                      · rw [e] at ct ⊢
                        repeat (first | refine W_seq ?_ | refine W_reg ?_ | refine W_regd ?_ | refine W_block ?_ | refine And.intro (by omega) ?_ | simp (maxSteps := 1000000) (disch := omega) only [cA, cB, cC, frz_us, binE, unE, boundE, newsE, blkQ, Nat.reduceEqDiff, Nat.reduceLT, Nat.reduceAdd, ↓reduceIte, reduceCtorEq, Nat.reduceLeDiff, dj])
                        refine W_cond rfl (fun h => by cases h) (fun _ => W_exit ?_)
                        repeat (first | refine W_seq ?_ | refine W_reg ?_ | refine W_regd ?_ | refine W_block ?_ | refine And.intro (by omega) ?_ | simp (maxSteps := 1000000) (disch := omega) only [cA, cB, cC, frz_us, binE, unE, boundE, newsE, blkQ, Nat.reduceEqDiff, Nat.reduceLT, Nat.reduceAdd, ↓reduceIte, reduceCtorEq, Nat.reduceLeDiff, u9, us_rfd] | refine callC_pure (ct) rfl ?_ | refine callC_pure (cf) rfl ?_ | refine callC_pure (ca) rfl ?_ | exact W_ret (RetP_1 (.imm rfl)) | exact W_ret (RetP_c rfl rfl rfl (.imm rfl)))
                        exact ⟨(l.length % 9), And.intro he2 (And.intro halle.out (.inr he5)), by omega, by simp [subF, lk]⟩
                      · rw [e] at ct ⊢
                        repeat (first | refine W_seq ?_ | refine W_reg ?_ | refine W_regd ?_ | refine W_block ?_ | refine And.intro (by omega) ?_ | simp (maxSteps := 1000000) (disch := omega) only [cA, cB, cC, frz_us, binE, unE, boundE, newsE, blkQ, Nat.reduceEqDiff, Nat.reduceLT, Nat.reduceAdd, ↓reduceIte, reduceCtorEq, Nat.reduceLeDiff, dj])
                        refine W_cond rfl (fun h => by cases h) (fun _ => W_exit ?_)
                        repeat (first | refine W_seq ?_ | refine W_reg ?_ | refine W_regd ?_ | refine W_block ?_ | refine And.intro (by omega) ?_ | simp (maxSteps := 1000000) (disch := omega) only [cA, cB, cC, frz_us, binE, unE, boundE, newsE, blkQ, Nat.reduceEqDiff, Nat.reduceLT, Nat.reduceAdd, ↓reduceIte, reduceCtorEq, Nat.reduceLeDiff, u9, us_rfd] | refine callC_pure (ct) rfl ?_ | refine callC_pure (cf) rfl ?_ | refine callC_pure (ca) rfl ?_ | exact W_ret (RetP_1 (.imm rfl)) | exact W_ret (RetP_c rfl rfl rfl (.imm rfl)))
                        exact ⟨(l.length % 9), And.intro he2 (And.intro halle.out (.inr he5)), by omega, by simp [subF, lk]⟩
                · have df : decide ((0 : Int) < (l.length % 9 : Nat)) = false := decide_eq_false (by omega)
                  have he1 : i < i + 9 := by omega
                  have he2 : i + 9 ≤ l.length := by omega
                  have he4 : i = 0 ∨ i + 9 - i = 9 := .inl hi0
                  have he3 : i + 9 - i ≤ 9 := by omega
                  have he5 : (l.length - (i + 9)) % 9 = 0 := by omega
                  have ei9 : (i : Int) + 9 = ((i + 9 : Nat) : Int) := by omega
                  have te : ((i + 9 : Nat) : Int).toNat = i + 9 := Int.toNat_natCast _
                  repeat (first | refine W_seq ?_ | refine W_reg ?_ | refine W_regd ?_ | refine W_block ?_ | refine And.intro (by omega) ?_ | simp (maxSteps := 1000000) (disch := omega) only [cA, cB, cC, frz_us, binE, unE, boundE, newsE, blkQ, Nat.reduceEqDiff, Nat.reduceLT, Nat.reduceAdd, ↓reduceIte, reduceCtorEq, Nat.reduceLeDiff, di, df, ei9])
                  refine W_cond rfl (fun h => by cases h) (fun _ => W_skip ?_)
                  have hg := seg_len (l := l) (at' := i) (e := (i + 9)) he2
                  have hseg := take_seg (l := l) (at' := i) (e := (i + 9)) (Nat.le_of_lt he1)
                  have hval := dval_seg (l := l) (at' := i) (e := (i + 9)) (Nat.le_of_lt he1) he2 he4
                  have hmem : ∀ c ∈ (l.take (i + 9)).drop i, c ∈ l := fun c h => List.mem_of_mem_take (List.mem_of_mem_drop h)
                  repeat (first | refine W_seq ?_ | refine W_reg ?_ | refine W_regd ?_ | refine W_block ?_ | refine And.intro (by omega) ?_ | simp (maxSteps := 1000000) (disch := omega) only [cA, cB, cC, frz_us, binE, unE, boundE, newsE, blkQ, Nat.reduceEqDiff, Nat.reduceLT, Nat.reduceAdd, ↓reduceIte, reduceCtorEq, Nat.reduceLeDiff, ti, te])
                  generalize (l.take (i + 9)).drop i = g at *
                  have hglen : ((g.map byteD).length) = g.length := List.length_map ..
                  repeat (first | refine W_seq ?_ | refine W_reg ?_ | refine W_regd ?_ | refine W_block ?_ | refine And.intro (by omega) ?_ | simp (maxSteps := 1000000) (disch := omega) only [cA, cB, cC, frz_us, binE, unE, boundE, newsE, blkQ, Nat.reduceEqDiff, Nat.reduceLT, Nat.reduceAdd, ↓reduceIte, reduceCtorEq, Nat.reduceLeDiff, hglen])
                  refine W_loop (σ := Nat) (fun j => [(0, .str l), (2, accD l i), (3, .bool false), (4, .int .i64 (l.length % 9 : Nat)), (5, .int .i64 i), (6, .int .i64 ((i + 9) : Nat)), (47, .sl 1 (g.map byteD)), (48, .int .i64 g.length), (49, .int .i64 j), (7, .int .u64 (dval 0 (g.take j) : Nat))]) (fun _ => []) (fun j => j ≤ g.length ∧ (g.take j).all isD = true) (fun j => g.length - j) 0 (And.intro (Nat.zero_le _) rfl) ?_ rfl ?_
                  · simp [subF, lk, dval_nil]
                  · rintro j ⟨hj, hgall⟩
                    by_cases hjl : j < g.length
                    · have dj : decide ((j : Int) < g.length) = true := decide_eq_true (by omega)
                      repeat (first | refine W_seq ?_ | refine W_reg ?_ | refine W_regd ?_ | refine W_block ?_ | refine And.intro (by omega) ?_ | simp (maxSteps := 1000000) (disch := omega) only [cA, cB, cC, frz_us, binE, unE, boundE, newsE, blkQ, Nat.reduceEqDiff, Nat.reduceLT, Nat.reduceAdd, ↓reduceIte, reduceCtorEq, Nat.reduceLeDiff, dj])
                      refine W_cond rfl (fun _ => W_skip ?_) (fun h => by cases h)
                      have tj : (j : Int).toNat = j := Int.toNat_natCast j
                      have hg1 := byteD_get hjl
                      have hg2 := byteD_get? hjl
                      have hta := take_all hjl hgall
                      have htd := take_dval hjl
                      have hmc := hmem g[j] (List.getElem_mem hjl)
                      have hv : dval 0 (g.take j) < 1000000000 := Nat.lt_of_lt_of_le (dval_lt _ hgall) (Nat.le_trans (Nat.pow_le_pow_right (by decide) (show (g.take j).length ≤ 9 by rw [List.length_take]; omega)) (by decide))
                      generalize g[j] = c at *
                      generalize dval 0 (g.take j) = v at *
                      have hk : c.toNat < 256 := UInt8.toNat_lt c
                      have j1 : ((j : Int) + 1) = ((j + 1 : Nat) : Int) := by omega
                      clear hval hseg
                      by_cases hd : isD c = true
                      · have hd' := hd
                        simp only [isD, Bool.and_eq_true, decide_eq_true_eq] at hd'
                        have d5 : decide ((c.toNat : Int) < 48) = false := decide_eq_false (by omega)
                        have d6 : decide ((57 : Int) < c.toNat) = false := decide_eq_false (by omega)
                        have e8 : (c.toNat : Int) - 48 = ((c.toNat - 48 : Nat) : Int) := by omega
                        have e10 : 10 * (v : Int) + ((c.toNat - 48 : Nat) : Int) = ((dval 0 (g.take (j + 1)) : Nat) : Int) := by rw [htd]; omega
                        have hta' := hta hd
                        clear hta htd hgall hall hmem
                        (replace hta' := Hid.mk hta')
                        repeat (first | refine W_seq ?_ | refine W_reg ?_ | refine W_regd ?_ | refine W_block ?_ | refine And.intro (by omega) ?_ | simp (maxSteps := 1000000) (disch := omega) only [cA, cB, cC, frz_us, binE, unE, boundE, newsE, blkQ, Nat.reduceEqDiff, Nat.reduceLT, Nat.reduceAdd, ↓reduceIte, reduceCtorEq, Nat.reduceLeDiff, tj, hg1, hg2, d5, d6])
                        refine W_cond rfl (fun h => by cases h) (fun _ => W_skip ?_)
                        repeat (first | refine W_seq ?_ | refine W_reg ?_ | refine W_regd ?_ | refine W_block ?_ | refine And.intro (by omega) ?_ | simp (maxSteps := 1000000) (disch := omega) only [cA, cB, cC, frz_us, binE, unE, boundE, newsE, blkQ, Nat.reduceEqDiff, Nat.reduceLT, Nat.reduceAdd, ↓reduceIte, reduceCtorEq, Nat.reduceLeDiff, e8, e10, j1])
                        exact ⟨j + 1, And.intro hjl hta'.out, by omega, by simp [subF, lk]⟩
                      · have hb : okD l = false := by
                          rw [← Bool.not_eq_true, okD_iff]
                          exact fun h => hd (List.all_eq_true.1 h.2.2.2 c hmc)
                        rw [parseR_bad hb]
                        clear hta htd hall hgall hmem
                        by_cases h5 : c.toNat < 48
                        · have d5 : decide ((c.toNat : Int) < 48) = true := decide_eq_true (by omega)
                          repeat (first | refine W_seq ?_ | refine W_reg ?_ | refine W_regd ?_ | refine W_block ?_ | refine And.intro (by omega) ?_ | simp (maxSteps := 1000000) (disch := omega) only [cA, cB, cC, frz_us, binE, unE, boundE, newsE, blkQ, Nat.reduceEqDiff, Nat.reduceLT, Nat.reduceAdd, ↓reduceIte, reduceCtorEq, Nat.reduceLeDiff, tj, hg1, hg2, d5])
                          refine W_cond rfl (fun _ => ?_) (fun h => by cases h)
                          repeat (first | refine W_seq ?_ | refine W_reg ?_ | refine W_regd ?_ | refine W_block ?_ | refine And.intro (by omega) ?_ | simp (maxSteps := 1000000) (disch := omega) only [cA, cB, cC, frz_us, binE, unE, boundE, newsE, blkQ, Nat.reduceEqDiff, Nat.reduceLT, Nat.reduceAdd, ↓reduceIte, reduceCtorEq, Nat.reduceLeDiff])
                          exact W_ret (RetP_2 (.nils _) (.imm rfl))
                        · have d5 : decide ((c.toNat : Int) < 48) = false := decide_eq_false (by omega)
                          have d6 : decide ((57 : Int) < c.toNat) = true := decide_eq_true (by
                            simp only [isD, Bool.and_eq_true, decide_eq_true_eq] at hd
                            omega)
                          repeat (first | refine W_seq ?_ | refine W_reg ?_ | refine W_regd ?_ | refine W_block ?_ | refine And.intro (by omega) ?_ | simp (maxSteps := 1000000) (disch := omega) only [cA, cB, cC, frz_us, binE, unE, boundE, newsE, blkQ, Nat.reduceEqDiff, Nat.reduceLT, Nat.reduceAdd, ↓reduceIte, reduceCtorEq, Nat.reduceLeDiff, tj, hg1, hg2, d5, d6])
                          refine W_cond rfl (fun _ => ?_) (fun h => by cases h)
                          repeat (first | refine W_seq ?_ | refine W_reg ?_ | refine W_regd ?_ | refine W_block ?_ | refine And.intro (by omega) ?_ | simp (maxSteps := 1000000) (disch := omega) only [cA, cB, cC, frz_us, binE, unE, boundE, newsE, blkQ, Nat.reduceEqDiff, Nat.reduceLT, Nat.reduceAdd, ↓reduceIte, reduceCtorEq, Nat.reduceLeDiff])
                          exact W_ret (RetP_2 (.nils _) (.imm rfl))
                    · have dj : decide ((j : Int) < g.length) = false := decide_eq_false (by omega)
                      obtain rfl : j = g.length := by omega
                      rw [List.take_length] at hgall ⊢
                      have u9 : [DV.int .u32 1000000000] = us (limbs 1000000000) := by rw [limbs_one (by decide) (by decide)]; rfl
                      have hl9 : (limbs 1000000000).length ≤ 1 := by rw [limbs_one (by decide) (by decide)]; simp
                      have hv : dval 0 g < 1000000000 := Nat.lt_of_lt_of_le (dval_lt _ hgall) (Nat.le_trans (Nat.pow_le_pow_right (by decide) (show g.length ≤ 9 by omega)) (by decide))
                      have hdl := dval_len hall (m := 4000) (by simp; omega)
                      have ct := accD_nMul l i (by omega)
                      have cf := nFromUint_calls (dval 0 g) (by omega)
                      have hm := len_mul hdl hl9
                      have ca := nAddL (dval 0 (l.take i) * 1000000000) (dval 0 g) (by omega) (Nat.le_trans (limbs_len.2 (show dval 0 g < 4294967296 ^ 1 by omega)) (by decide))
                      rw [hval] at ca
                      have hac : accD l (i + 9) = .sl 1 (us (limbs (dval 0 (l.take (i + 9))))) := by unfold accD; rw [if_neg (by omega)]
                      rw [← hac] at ca
                      have halle : (l.take (i + 9)).all isD = true := by rw [hseg, List.all_append, hall, hgall]; rfl
                      have hacc := accD_cases l i
                      clear hval hseg hall hgall hm hdl hl9 hac hmem
                      (replace halle := Hid.mk halle)
                      rcases hacc with e | ⟨xs, e⟩
                      · rw [e] at ct ⊢
                        repeat (first | refine W_seq ?_ | refine W_reg ?_ | refine W_regd ?_ | refine W_block ?_ | refine And.intro (by omega) ?_ | simp (maxSteps := 1000000) (disch := omega) only [cA, cB, cC, frz_us, binE, unE, boundE, newsE, blkQ, Nat.reduceEqDiff, Nat.reduceLT, Nat.reduceAdd, ↓reduceIte, reduceCtorEq, Nat.reduceLeDiff, dj])
                        refine W_cond rfl (fun h => by cases h) (fun _ => W_exit ?_)
                        repeat (first | refine W_seq ?_ | refine W_reg ?_ | refine W_regd ?_ | refine W_block ?_ | refine And.intro (by omega) ?_ | simp (maxSteps := 1000000) (disch := omega) only [cA, cB, cC, frz_us, binE, unE, boundE, newsE, blkQ, Nat.reduceEqDiff, Nat.reduceLT, Nat.reduceAdd, ↓reduceIte, reduceCtorEq, Nat.reduceLeDiff, u9, us_rfd] | refine callC_pure (ct) rfl ?_ | refine callC_pure (cf) rfl ?_ | refine callC_pure (ca) rfl ?_ | exact W_ret (RetP_1 (.imm rfl)) | exact W_ret (RetP_c rfl rfl rfl (.imm rfl)))
                        exact ⟨(i + 9), And.intro he2 (And.intro halle.out (.inr he5)), by omega, by simp [subF, lk]⟩
                      · rw [e] at ct ⊢
                        repeat (first | refine W_seq ?_ | refine W_reg ?_ | refine W_regd ?_ | refine W_block ?_ | refine And.intro (by omega) ?_ | simp (maxSteps := 1000000) (disch := omega) only [cA, cB, cC, frz_us, binE, unE, boundE, newsE, blkQ, Nat.reduceEqDiff, Nat.reduceLT, Nat.reduceAdd, ↓reduceIte, reduceCtorEq, Nat.reduceLeDiff, dj])
                        refine W_cond rfl (fun h => by cases h) (fun _ => W_exit ?_)
                        repeat (first | refine W_seq ?_ | refine W_reg ?_ | refine W_regd ?_ | refine W_block ?_ | refine And.intro (by omega) ?_ | simp (maxSteps := 1000000) (disch := omega) only [cA, cB, cC, frz_us, binE, unE, boundE, newsE, blkQ, Nat.reduceEqDiff, Nat.reduceLT, Nat.reduceAdd, ↓reduceIte, reduceCtorEq, Nat.reduceLeDiff, u9, us_rfd] | refine callC_pure (ct) rfl ?_ | refine callC_pure (cf) rfl ?_ | refine callC_pure (ca) rfl ?_ | exact W_ret (RetP_1 (.imm rfl)) | exact W_ret (RetP_c rfl rfl rfl (.imm rfl)))
                        exact ⟨(i + 9), And.intro he2 (And.intro halle.out (.inr he5)), by omega, by simp [subF, lk]⟩
              · have di : decide ((i : Int) = 0) = false := decide_eq_false (by omega)
                have he1 : i < i + 9 := by omega
                have he2 : i + 9 ≤ l.length := by omega
                have he4 : i = 0 ∨ i + 9 - i = 9 := .inr (by omega)
                have he3 : i + 9 - i ≤ 9 := by omega
                have he5 : (l.length - (i + 9)) % 9 = 0 := by omega
                have ei9 : (i : Int) + 9 = ((i + 9 : Nat) : Int) := by omega
                have te : ((i + 9 : Nat) : Int).toNat = i + 9 := Int.toNat_natCast _
                repeat (first | refine W_seq ?_ | refine W_reg ?_ | refine W_regd ?_ | refine W_block ?_ | refine And.intro (by omega) ?_ | simp (maxSteps := 1000000) (disch := omega) only [cA, cB, cC, frz_us, binE, unE, boundE, newsE, blkQ, Nat.reduceEqDiff, Nat.reduceLT, Nat.reduceAdd, ↓reduceIte, reduceCtorEq, Nat.reduceLeDiff, di, ei9])
                refine W_cond rfl (fun h => by cases h) (fun _ => W_skip ?_)
                have hg := seg_len (l := l) (at' := i) (e := (i + 9)) he2
                have hseg := take_seg (l := l) (at' := i) (e := (i + 9)) (Nat.le_of_lt he1)
                have hval := dval_seg (l := l) (at' := i) (e := (i + 9)) (Nat.le_of_lt he1) he2 he4
                have hmem : ∀ c ∈ (l.take (i + 9)).drop i, c ∈ l := fun c h => List.mem_of_mem_take (List.mem_of_mem_drop h)
                repeat (first | refine W_seq ?_ | refine W_reg ?_ | refine W_regd ?_ | refine W_block ?_ | refine And.intro (by omega) ?_ | simp (maxSteps := 1000000) (disch := omega) only [cA, cB, cC, frz_us, binE, unE, boundE, newsE, blkQ, Nat.reduceEqDiff, Nat.reduceLT, Nat.reduceAdd, ↓reduceIte, reduceCtorEq, Nat.reduceLeDiff, ti, te])
                generalize (l.take (i + 9)).drop i = g at *
                have hglen : ((g.map byteD).length) = g.length := List.length_map ..
                repeat (first | refine W_seq ?_ | refine W_reg ?_ | refine W_regd ?_ | refine W_block ?_ | refine And.intro (by omega) ?_ | simp (maxSteps := 1000000) (disch := omega) only [cA, cB, cC, frz_us, binE, unE, boundE, newsE, blkQ, Nat.reduceEqDiff, Nat.reduceLT, Nat.reduceAdd, ↓reduceIte, reduceCtorEq, Nat.reduceLeDiff, hglen])
                refine W_loop (σ := Nat) (fun j => [(0, .str l), (2, accD l i), (3, .bool false), (4, .int .i64 (l.length % 9 : Nat)), (5, .int .i64 i), (6, .int .i64 ((i + 9) : Nat)), (47, .sl 1 (g.map byteD)), (48, .int .i64 g.length), (49, .int .i64 j), (7, .int .u64 (dval 0 (g.take j) : Nat))]) (fun _ => []) (fun j => j ≤ g.length ∧ (g.take j).all isD = true) (fun j => g.length - j) 0 (And.intro (Nat.zero_le _) rfl) ?_ rfl ?_
                · simp [subF, lk, dval_nil]
                · rintro j ⟨hj, hgall⟩
                  by_cases hjl : j < g.length
                  · have dj : decide ((j : Int) < g.length) = true := decide_eq_true (by omega)
                    repeat (first | refine W_seq ?_ | refine W_reg ?_ | refine W_regd ?_ | refine W_block ?_ | refine And.intro (by omega) ?_ | simp (maxSteps := 1000000) (disch := omega) only [cA, cB, cC, frz_us, binE, unE, boundE, newsE, blkQ, Nat.reduceEqDiff, Nat.reduceLT, Nat.reduceAdd, ↓reduceIte, reduceCtorEq, Nat.reduceLeDiff, dj])
                    refine W_cond rfl (fun _ => W_skip ?_) (fun h => by cases h)
                    have tj : (j : Int).toNat = j := Int.toNat_natCast j
                    have hg1 := byteD_get hjl
                    have hg2 := byteD_get? hjl
                    have hta := take_all hjl hgall
                    have htd := take_dval hjl
                    have hmc := hmem g[j] (List.getElem_mem hjl)
                    have hv : dval 0 (g.take j) < 1000000000 := Nat.lt_of_lt_of_le (dval_lt _ hgall) (Nat.le_trans (Nat.pow_le_pow_right (by decide) (show (g.take j).length ≤ 9 by rw [List.length_take]; omega)) (by decide))
                    generalize g[j] = c at *
                    generalize dval 0 (g.take j) = v at *
                    have hk : c.toNat < 256 := UInt8.toNat_lt c
                    have j1 : ((j : Int) + 1) = ((j + 1 : Nat) : Int) := by omega
                    clear hval hseg
                    by_cases hd : isD c = true
                    · have hd' := hd
                      simp only [isD, Bool.and_eq_true, decide_eq_true_eq] at hd'
                      have d5 : decide ((c.toNat : Int) < 48) = false := decide_eq_false (by omega)
                      have d6 : decide ((57 : Int) < c.toNat) = false := decide_eq_false (by omega)
                      have e8 : (c.toNat : Int) - 48 = ((c.toNat - 48 : Nat) : Int) := by omega
                      have e10 : 10 * (v : Int) + ((c.toNat - 48 : Nat) : Int) = ((dval 0 (g.take (j + 1)) : Nat) : Int) := by rw [htd]; omega
                      have hta' := hta hd
                      clear hta htd hgall hall hmem
                      (replace hta' := Hid.mk hta')
                      repeat (first | refine W_seq ?_ | refine W_reg ?_ | refine W_regd ?_ | refine W_block ?_ | refine And.intro (by omega) ?_ | simp (maxSteps := 1000000) (disch := omega) only [cA, cB, cC, frz_us, binE, unE, boundE, newsE, blkQ, Nat.reduceEqDiff, Nat.reduceLT, Nat.reduceAdd, ↓reduceIte, reduceCtorEq, Nat.reduceLeDiff, tj, hg1, hg2, d5, d6])
                      refine W_cond rfl (fun h => by cases h) (fun _ => W_skip ?_)
                      repeat (first | refine W_seq ?_ | refine W_reg ?_ | refine W_regd ?_ | refine W_block ?_ | refine And.intro (by omega) ?_ | simp (maxSteps := 1000000) (disch := omega) only [cA, cB, cC, frz_us, binE, unE, boundE, newsE, blkQ, Nat.reduceEqDiff, Nat.reduceLT, Nat.reduceAdd, ↓reduceIte, reduceCtorEq, Nat.reduceLeDiff, e8, e10, j1])
                      exact ⟨j + 1, And.intro hjl hta'.out, by omega, by simp [subF, lk]⟩
                    · have hb : okD l = false := by
                        rw [← Bool.not_eq_true, okD_iff]
                        exact fun h => hd (List.all_eq_true.1 h.2.2.2 c hmc)
                      rw [parseR_bad hb]
                      clear hta htd hall hgall hmem
                      by_cases h5 : c.toNat < 48
                      · have d5 : decide ((c.toNat : Int) < 48) = true := decide_eq_true (by omega)
                        repeat (first | refine W_seq ?_ | refine W_reg ?_ | refine W_regd ?_ | refine W_block ?_ | refine And.intro (by omega) ?_ | simp (maxSteps := 1000000) (disch := omega) only [cA, cB, cC, frz_us, binE, unE, boundE, newsE, blkQ, Nat.reduceEqDiff, Nat.reduceLT, Nat.reduceAdd, ↓reduceIte, reduceCtorEq, Nat.reduceLeDiff, tj, hg1, hg2, d5])
                        refine W_cond rfl (fun _ => ?_) (fun h => by cases h)
                        repeat (first | refine W_seq ?_ | refine W_reg ?_ | refine W_regd ?_ | refine W_block ?_ | refine And.intro (by omega) ?_ | simp (maxSteps := 1000000) (disch := omega) only [cA, cB, cC, frz_us, binE, unE, boundE, newsE, blkQ, Nat.reduceEqDiff, Nat.reduceLT, Nat.reduceAdd, ↓reduceIte, reduceCtorEq, Nat.reduceLeDiff])
                        exact W_ret (RetP_2 (.nils _) (.imm rfl))
                      · have d5 : decide ((c.toNat : Int) < 48) = false := decide_eq_false (by omega)
                        have d6 : decide ((57 : Int) < c.toNat) = true := decide_eq_true (by
                          simp only [isD, Bool.and_eq_true, decide_eq_true_eq] at hd
                          omega)
                        repeat (first | refine W_seq ?_ | refine W_reg ?_ | refine W_regd ?_ | refine W_block ?_ | refine And.intro (by omega) ?_ | simp (maxSteps := 1000000) (disch := omega) only [cA, cB, cC, frz_us, binE, unE, boundE, newsE, blkQ, Nat.reduceEqDiff, Nat.reduceLT, Nat.reduceAdd, ↓reduceIte, reduceCtorEq, Nat.reduceLeDiff, tj, hg1, hg2, d5, d6])
                        refine W_cond rfl (fun _ => ?_) (fun h => by cases h)
                        repeat (first | refine W_seq ?_ | refine W_reg ?_ | refine W_regd ?_ | refine W_block ?_ | refine And.intro (by omega) ?_ | simp (maxSteps := 1000000) (disch := omega) only [cA, cB, cC, frz_us, binE, unE, boundE, newsE, blkQ, Nat.reduceEqDiff, Nat.reduceLT, Nat.reduceAdd, ↓reduceIte, reduceCtorEq, Nat.reduceLeDiff])
                        exact W_ret (RetP_2 (.nils _) (.imm rfl))
                  · have dj : decide ((j : Int) < g.length) = false := decide_eq_false (by omega)
                    obtain rfl : j = g.length := by omega
                    rw [List.take_length] at hgall ⊢
                    have u9 : [DV.int .u32 1000000000] = us (limbs 1000000000) := by rw [limbs_one (by decide) (by decide)]; rfl
                    have hl9 : (limbs 1000000000).length ≤ 1 := by rw [limbs_one (by decide) (by decide)]; simp
                    have hv : dval 0 g < 1000000000 := Nat.lt_of_lt_of_le (dval_lt _ hgall) (Nat.le_trans (Nat.pow_le_pow_right (by decide) (show g.length ≤ 9 by omega)) (by decide))
                    have hdl := dval_len hall (m := 4000) (by simp; omega)
                    have ct := accD_nMul l i (by omega)
                    have cf := nFromUint_calls (dval 0 g) (by omega)
                    have hm := len_mul hdl hl9
                    have ca := nAddL (dval 0 (l.take i) * 1000000000) (dval 0 g) (by omega) (Nat.le_trans (limbs_len.2 (show dval 0 g < 4294967296 ^ 1 by omega)) (by decide))
                    rw [hval] at ca
                    have hac : accD l (i + 9) = .sl 1 (us (limbs (dval 0 (l.take (i + 9))))) := by unfold accD; rw [if_neg (by omega)]
                    rw [← hac] at ca
                    have halle : (l.take (i + 9)).all isD = true := by rw [hseg, List.all_append, hall, hgall]; rfl
                    have hacc := accD_cases l i
                    clear hval hseg hall hgall hm hdl hl9 hac hmem
                    (replace halle := Hid.mk halle)
                    rcases hacc with e | ⟨xs, e⟩
                    · rw [e] at ct ⊢
                      repeat (first | refine W_seq ?_ | refine W_reg ?_ | refine W_regd ?_ | refine W_block ?_ | refine And.intro (by omega) ?_ | simp (maxSteps := 1000000) (disch := omega) only [cA, cB, cC, frz_us, binE, unE, boundE, newsE, blkQ, Nat.reduceEqDiff, Nat.reduceLT, Nat.reduceAdd, ↓reduceIte, reduceCtorEq, Nat.reduceLeDiff, dj])
                      refine W_cond rfl (fun h => by cases h) (fun _ => W_exit ?_)
                      repeat (first | refine W_seq ?_ | refine W_reg ?_ | refine W_regd ?_ | refine W_block ?_ | refine And.intro (by omega) ?_ | simp (maxSteps := 1000000) (disch := omega) only [cA, cB, cC, frz_us, binE, unE, boundE, newsE, blkQ, Nat.reduceEqDiff, Nat.reduceLT, Nat.reduceAdd, ↓reduceIte, reduceCtorEq, Nat.reduceLeDiff, u9, us_rfd] | refine callC_pure (ct) rfl ?_ | refine callC_pure (cf) rfl ?_ | refine callC_pure (ca) rfl ?_ | exact W_ret (RetP_1 (.imm rfl)) | exact W_ret (RetP_c rfl rfl rfl (.imm rfl)))
                      exact ⟨(i + 9), And.intro he2 (And.intro halle.out (.inr he5)), by omega, by simp [subF, lk]⟩
                    · rw [e] at ct ⊢
                      repeat (first | refine W_seq ?_ | refine W_reg ?_ | refine W_regd ?_ | refine W_block ?_ | refine And.intro (by omega) ?_ | simp (maxSteps := 1000000) (disch := omega) only [cA, cB, cC, frz_us, binE, unE, boundE, newsE, blkQ, Nat.reduceEqDiff, Nat.reduceLT, Nat.reduceAdd, ↓reduceIte, reduceCtorEq, Nat.reduceLeDiff, dj])
                      refine W_cond rfl (fun h => by cases h) (fun _ => W_exit ?_)
                      repeat (first | refine W_seq ?_ | refine W_reg ?_ | refine W_regd ?_ | refine W_block ?_ | refine And.intro (by omega) ?_ | simp (maxSteps := 1000000) (disch := omega) only [cA, cB, cC, frz_us, binE, unE, boundE, newsE, blkQ, Nat.reduceEqDiff, Nat.reduceLT, Nat.reduceAdd, ↓reduceIte, reduceCtorEq, Nat.reduceLeDiff, u9, us_rfd] | refine callC_pure (ct) rfl ?_ | refine callC_pure (cf) rfl ?_ | refine callC_pure (ca) rfl ?_ | exact W_ret (RetP_1 (.imm rfl)) | exact W_ret (RetP_c rfl rfl rfl (.imm rfl)))
                      exact ⟨(i + 9), And.intro he2 (And.intro halle.out (.inr he5)), by omega, by simp [subF, lk]⟩
            · have hil : i = l.length := by omega
              subst hil
              have dl : decide ((l.length : Int) < l.length) = false := decide_eq_false (by omega)
              rw [List.take_length] at hall
              have hb : okD l = true := (okD_iff l).2 ⟨hn, by omega, hz, hall⟩
              have hr : parseR l = .tup [.sl 1 (us (limbs (dval 0 l))), .bool true] := by unfold parseR; rw [hb]; rfl
              have hac : accD l l.length = .sl 1 (us (limbs (dval 0 l))) := by unfold accD; rw [if_neg (by omega), List.take_length]
              rw [hr, hac]
              repeat (first | refine W_seq ?_ | refine W_reg ?_ | refine W_regd ?_ | refine W_block ?_ | refine And.intro (by omega) ?_ | simp (maxSteps := 1000000) (disch := omega) only [cA, cB, cC, frz_us, binE, unE, boundE, newsE, blkQ, Nat.reduceEqDiff, Nat.reduceLT, Nat.reduceAdd, ↓reduceIte, reduceCtorEq, Nat.reduceLeDiff, dl])
              refine W_cond rfl (fun h => by cases h) (fun _ => W_exit ?_)
              repeat (first | refine W_seq ?_ | refine W_reg ?_ | refine W_regd ?_ | refine W_block ?_ | refine And.intro (by omega) ?_ | simp (maxSteps := 1000000) (disch := omega) only [cA, cB, cC, frz_us, binE, unE, boundE, newsE, blkQ, Nat.reduceEqDiff, Nat.reduceLT, Nat.reduceAdd, ↓reduceIte, reduceCtorEq, Nat.reduceLeDiff])
              exact W_ret (RetP_2 (.imm rfl) (.imm rfl))
      · have d2 : decide ((((l.getD 0 0).toNat : Nat) : Int) = 48) = false := decide_eq_false (by omega)
        have hz : ¬ (l.head? = some 48 ∧ 1 < l.length) := fun h => h48 (by
          cases l with
          | nil => exact absurd rfl hn
          | cons c r =>
            have h1 := h.1
            rw [List.head?_cons, Option.some.injEq] at h1
            rw [List.getD_cons_zero, h1]; rfl)
        repeat (first | refine W_seq ?_ | refine W_reg ?_ | refine W_regd ?_ | refine W_block ?_ | refine And.intro (by omega) ?_ | simp (maxSteps := 1000000) (disch := omega) only [cA, cB, cC, frz_us, binE, unE, boundE, newsE, blkQ, Nat.reduceEqDiff, Nat.reduceLT, Nat.reduceAdd, ↓reduceIte, reduceCtorEq, Nat.reduceLeDiff, dn, d4, e0, ebd, d2])
        refine W_cond rfl (fun h => by cases h) (fun _ => W_skip ?_)
        clear d2 ebd h48
        have r9 : ((l.length : Int).tmod 9) = ((l.length % 9 : Nat) : Int) := by
          rw [Int.tmod_eq_emod_of_nonneg (by omega)]; omega
        repeat (first | refine W_seq ?_ | refine W_reg ?_ | refine W_regd ?_ | refine W_block ?_ | refine And.intro (by omega) ?_ | simp (maxSteps := 1000000) (disch := omega) only [cA, cB, cC, frz_us, binE, unE, boundE, newsE, blkQ, Nat.reduceEqDiff, Nat.reduceLT, Nat.reduceAdd, ↓reduceIte, reduceCtorEq, Nat.reduceLeDiff, r9])
        refine W_loop (σ := Nat) (fun i => [(0, .str l), (2, accD l i), (3, .bool false), (4, .int .i64 (l.length % 9 : Nat)), (5, .int .i64 i)]) (fun _ => []) (fun i => i ≤ l.length ∧ (l.take i).all isD = true ∧ (i = 0 ∨ (l.length - i) % 9 = 0)) (fun i => l.length - i) 0 (And.intro (Nat.zero_le _) (And.intro rfl (.inl rfl))) ?_ rfl ?_
        · simp [subF, lk, accD]
        · rintro i ⟨hi, hall, h9⟩
          by_cases hlt : i < l.length
          · have dl : decide ((i : Int) < l.length) = true := decide_eq_true (by omega)
            repeat (first | refine W_seq ?_ | refine W_reg ?_ | refine W_regd ?_ | refine W_block ?_ | refine And.intro (by omega) ?_ | simp (maxSteps := 1000000) (disch := omega) only [cA, cB, cC, frz_us, binE, unE, boundE, newsE, blkQ, Nat.reduceEqDiff, Nat.reduceLT, Nat.reduceAdd, ↓reduceIte, reduceCtorEq, Nat.reduceLeDiff, dl])
            refine W_cond rfl (fun _ => W_skip ?_) (fun h => by cases h)
            have ti : (i : Int).toNat = i := Int.toNat_natCast i
            by_cases hi0 : i = 0
            · have di : decide ((i : Int) = 0) = true := decide_eq_true (by omega)
              by_cases hf : 0 < l.length % 9
              · have df : decide ((0 : Int) < (l.length % 9 : Nat)) = true := decide_eq_true (by omega)
                have he1 : i < l.length % 9 := by omega
                have he2 : l.length % 9 ≤ l.length := Nat.mod_le _ _
                have he4 : i = 0 ∨ l.length % 9 - i = 9 := .inl hi0
                have he3 : l.length % 9 - i ≤ 9 := by omega
                have he5 : (l.length - l.length % 9) % 9 = 0 := by omega
                have te : ((l.length % 9 : Nat) : Int).toNat = l.length % 9 := Int.toNat_natCast _
                repeat (first | refine W_seq ?_ | refine W_reg ?_ | refine W_regd ?_ | refine W_block ?_ | refine And.intro (by omega) ?_ | simp (maxSteps := 1000000) (disch := omega) only [cA, cB, cC, frz_us, binE, unE, boundE, newsE, blkQ, Nat.reduceEqDiff, Nat.reduceLT, Nat.reduceAdd, ↓reduceIte, reduceCtorEq, Nat.reduceLeDiff, di, df])
                refine W_cond rfl (fun _ => ?_) (fun h => by cases h)
                have hg := seg_len (l := l) (at' := i) (e := (l.length % 9)) he2
                have hseg := take_seg (l := l) (at' := i) (e := (l.length % 9)) (Nat.le_of_lt he1)
                have hval := dval_seg (l := l) (at' := i) (e := (l.length % 9)) (Nat.le_of_lt he1) he2 he4
                have hmem : ∀ c ∈ (l.take (l.length % 9)).drop i, c ∈ l := fun c h => List.mem_of_mem_take (List.mem_of_mem_drop h)
                repeat (first | refine W_seq ?_ | refine W_reg ?_ | refine W_regd ?_ | refine W_block ?_ | refine And.intro (by omega) ?_ | simp (maxSteps := 1000000) (disch := omega) only [cA, cB, cC, frz_us, binE, unE, boundE, newsE, blkQ, Nat.reduceEqDiff, Nat.reduceLT, Nat.reduceAdd, ↓reduceIte, reduceCtorEq, Nat.reduceLeDiff, ti, te])
                generalize (l.take (l.length % 9)).drop i = g at *
                have hglen : ((g.map byteD).length) = g.length := List.length_map ..
                repeat (first | refine W_seq ?_ | refine W_reg ?_ | refine W_regd ?_ | refine W_block ?_ | refine And.intro (by omega) ?_ | simp (maxSteps := 1000000) (disch := omega) only [cA, cB, cC, frz_us, binE, unE, boundE, newsE, blkQ, Nat.reduceEqDiff, Nat.reduceLT, Nat.reduceAdd, ↓reduceIte, reduceCtorEq, Nat.reduceLeDiff, hglen])
                refine W_loop (σ := Nat) (fun j => [(0, .str l), (2, accD l i), (3, .bool false), (4, .int .i64 (l.length % 9 : Nat)), (5, .int .i64 i), (6, .int .i64 ((l.length % 9) : Nat)), (47, .sl 1 (g.map byteD)), (48, .int .i64 g.length), (49, .int .i64 j), (7, .int .u64 (dval 0 (g.take j) : Nat))]) (fun _ => []) (fun j => j ≤ g.length ∧ (g.take j).all isD = true) (fun j => g.length - j) 0 (And.intro (Nat.zero_le _) rfl) ?_ rfl ?_
                · simp [subF, lk, dval_nil]
                · rintro j ⟨hj, hgall⟩
                  by_cases hjl : j < g.length
                  · have dj : decide ((j : Int) < g.length) = true := decide_eq_true (by omega)
                    repeat (first | refine W_seq ?_ | refine W_reg ?_ | refine W_regd ?_ | refine W_block ?_ | refine And.intro (by omega) ?_ | simp (maxSteps := 1000000) (disch := omega) only [cA, cB, cC, frz_us, binE, unE, boundE, newsE, blkQ, Nat.reduceEqDiff, Nat.reduceLT, Nat.reduceAdd, ↓reduceIte, reduceCtorEq, Nat.reduceLeDiff, dj])
                    refine W_cond rfl (fun _ => W_skip ?_) (fun h => by cases h)
                    have tj : (j : Int).toNat = j := Int.toNat_natCast j
                    have hg1 := byteD_get hjl
                    have hg2 := byteD_get? hjl
                    have hta := take_all hjl hgall
                    have htd := take_dval hjl
                    have hmc := hmem g[j] (List.getElem_mem hjl)
                    have hv : dval 0 (g.take j) < 1000000000 := Nat.lt_of_lt_of_le (dval_lt _ hgall) (Nat.le_trans (Nat.pow_le_pow_right (by decide) (show (g.take j).length ≤ 9 by rw [List.length_take]; omega)) (by decide))
                    generalize g[j] = c at *
                    generalize dval 0 (g.take j) = v at *
                    have hk : c.toNat < 256 := UInt8.toNat_lt c
                    have j1 : ((j : Int) + 1) = ((j + 1 : Nat) : Int) := by omega
                    clear hval hseg
                    by_cases hd : isD c = true
                    · have hd' := hd
                      simp only [isD, Bool.and_eq_true, decide_eq_true_eq] at hd'
                      have d5 : decide ((c.toNat : Int) < 48) = false := decide_eq_false (by omega)
                      have d6 : decide ((57 : Int) < c.toNat) = false := decide_eq_false (by omega)
                      have e8 : (c.toNat : Int) - 48 = ((c.toNat - 48 : Nat) : Int) := by omega
                      have e10 : 10 * (v : Int) + ((c.toNat - 48 : Nat) : Int) = ((dval 0 (g.take (j + 1)) : Nat) : Int) := by rw [htd]; omega
                      have hta' := hta hd
                      clear hta htd hgall hall hmem
                      (replace hta' := Hid.mk hta')
                      repeat (first | refine W_seq ?_ | refine W_reg ?_ | refine W_regd ?_ | refine W_block ?_ | refine And.intro (by omega) ?_ | simp (maxSteps := 1000000) (disch := omega) only [cA, cB, cC, frz_us, binE, unE, boundE, newsE, blkQ, Nat.reduceEqDiff, Nat.reduceLT, Nat.reduceAdd, ↓reduceIte, reduceCtorEq, Nat.reduceLeDiff, tj, hg1, hg2, d5, d6])
                      refine W_cond rfl (fun h => by cases h) (fun _ => W_skip ?_)
                      repeat (first | refine W_seq ?_ | refine W_reg ?_ | refine W_regd ?_ | refine W_block ?_ | refine And.intro (by omega) ?_ | simp (maxSteps := 1000000) (disch := omega) only [cA, cB, cC, frz_us, binE, unE, boundE, newsE, blkQ, Nat.reduceEqDiff, Nat.reduceLT, Nat.reduceAdd, ↓reduceIte, reduceCtorEq, Nat.reduceLeDiff, e8, e10, j1])
                      exact ⟨j + 1, And.intro hjl hta'.out, by omega, by simp [subF, lk]⟩
                    · have hb : okD l = false := by
                        rw [← Bool.not_eq_true, okD_iff]
                        exact fun h => hd (List.all_eq_true.1 h.2.2.2 c hmc)
                      rw [parseR_bad hb]
                      clear hta htd hall hgall hmem
                      by_cases h5 : c.toNat < 48
                      · have d5 : decide ((c.toNat : Int) < 48) = true := decide_eq_true (by omega)
                        repeat (first | refine W_seq ?_ | refine W_reg ?_ | refine W_regd ?_ | refine W_block ?_ | refine And.intro (by omega) ?_ | simp (maxSteps := 1000000) (disch := omega) only [cA, cB, cC, frz_us, binE, unE, boundE, newsE, blkQ, Nat.reduceEqDiff, Nat.reduceLT, Nat.reduceAdd, ↓reduceIte, reduceCtorEq, Nat.reduceLeDiff, tj, hg1, hg2, d5])
                        refine W_cond rfl (fun _ => ?_) (fun h => by cases h)
                        repeat (first | refine W_seq ?_ | refine W_reg ?_ | refine W_regd ?_ | refine W_block ?_ | refine And.intro (by omega) ?_ | simp (maxSteps := 1000000) (disch := omega) only [cA, cB, cC, frz_us, binE, unE, boundE, newsE, blkQ, Nat.reduceEqDiff, Nat.reduceLT, Nat.reduceAdd, ↓reduceIte, reduceCtorEq, Nat.reduceLeDiff])
                        exact W_ret (RetP_2 (.nils _) (.imm rfl))
                      · have d5 : decide ((c.toNat : Int) < 48) = false := decide_eq_false (by omega)
                        have d6 : decide ((57 : Int) < c.toNat) = true := decide_eq_true (by
                          simp only [isD, Bool.and_eq_true, decide_eq_true_eq] at hd
                          omega)
                        repeat (first | refine W_seq ?_ | refine W_reg ?_ | refine W_regd ?_ | refine W_block ?_ | refine And.intro (by omega) ?_ | simp (maxSteps := 1000000) (disch := omega) only [cA, cB, cC, frz_us, binE, unE, boundE, newsE, blkQ, Nat.reduceEqDiff, Nat.reduceLT, Nat.reduceAdd, ↓reduceIte, reduceCtorEq, Nat.reduceLeDiff, tj, hg1, hg2, d5, d6])
                        refine W_cond rfl (fun _ => ?_) (fun h => by cases h)
                        repeat (first | refine W_seq ?_ | refine W_reg ?_ | refine W_regd ?_ | refine W_block ?_ | refine And.intro (by omega) ?_ | simp (maxSteps := 1000000) (disch := omega) only [cA, cB, cC, frz_us, binE, unE, boundE, newsE, blkQ, Nat.reduceEqDiff, Nat.reduceLT, Nat.reduceAdd, ↓reduceIte, reduceCtorEq, Nat.reduceLeDiff])
                        exact W_ret (RetP_2 (.nils _) (.imm rfl))
                  · have dj : decide ((j : Int) < g.length) = false := decide_eq_false (by omega)
                    obtain rfl : j = g.length := by omega
                    rw [List.take_length] at hgall ⊢
                    have u9 : [DV.int .u32 1000000000] = us (limbs 1000000000) := by rw [limbs_one (by decide) (by decide)]; rfl
                    have hl9 : (limbs 1000000000).length ≤ 1 := by rw [limbs_one (by decide) (by decide)]; simp
                    have hv : dval 0 g < 1000000000 := Nat.lt_of_lt_of_le (dval_lt _ hgall) (Nat.le_trans (Nat.pow_le_pow_right (by decide) (show g.length ≤ 9 by omega)) (by decide))
                    have hdl := dval_len hall (m := 4000) (by simp; omega)
                    have ct := accD_nMul l i (by omega)
                    have cf := nFromUint_calls (dval 0 g) (by omega)
                    have hm := len_mul hdl hl9
                    have ca := nAddL (dval 0 (l.take i) * 1000000000) (dval 0 g) (by omega) (Nat.le_trans (limbs_len.2 (show dval 0 g < 4294967296 ^ 1 by omega)) (by decide))
                    rw [hval] at ca
                    have hac : accD l (l.length % 9) = .sl 1 (us (limbs (dval 0 (l.take (l.length % 9))))) := by unfold accD; rw [if_neg (by omega)]
                    rw [← hac] at ca
                    have halle : (l.take (l.length % 9)).all isD = true := by rw [hseg, List.all_append, hall, hgall]; rfl
                    have hacc := accD_cases l i
                    clear hval hseg hall hgall hm hdl hl9 hac hmem
                    (replace halle := Hid.mk halle)
                    rcases hacc with e | ⟨xs, e⟩
                    · rw [e] at ct ⊢
                      repeat (first | refine W_seq ?_ | refine W_reg ?_ | refine W_regd ?_ | refine W_block ?_ | refine And.intro (by omega) ?_ | simp (maxSteps := 1000000) (disch := omega) only [cA, cB, cC, frz_us, binE, unE, boundE, newsE, blkQ, Nat.reduceEqDiff, Nat.reduceLT, Nat.reduceAdd, ↓reduceIte, reduceCtorEq, Nat.reduceLeDiff, dj])
                      refine W_cond rfl (fun h => by cases h) (fun _ => W_exit ?_)
                      repeat (first | refine W_seq ?_ | refine W_reg ?_ | refine W_regd ?_ | refine W_block ?_ | refine And.intro (by omega) ?_ | simp (maxSteps := 1000000) (disch := omega) only [cA, cB, cC, frz_us, binE, unE, boundE, newsE, blkQ, Nat.reduceEqDiff, Nat.reduceLT, Nat.reduceAdd, ↓reduceIte, reduceCtorEq, Nat.reduceLeDiff, u9, us_rfd] | refine callC_pure (ct) rfl ?_ | refine callC_pure (cf) rfl ?_ | refine callC_pure (ca) rfl ?_ | exact W_ret (RetP_1 (.imm rfl)) | exact W_ret (RetP_c rfl rfl rfl (.imm rfl)))
                      exact ⟨(l.length % 9), And.intro he2 (And.intro halle.out (.inr he5)), by omega, by simp [subF, lk]⟩
                    · rw [e] at ct ⊢
                      repeat (first | refine W_seq ?_ | refine W_reg ?_ | refine W_regd ?_ | refine W_block ?_ | refine And.intro (by omega) ?_ | simp (maxSteps := 1000000) (disch := omega) only [cA, cB, cC, frz_us, binE, unE, boundE, newsE, blkQ, Nat.reduceEqDiff, Nat.reduceLT, Nat.reduceAdd, ↓reduceIte, reduceCtorEq, Nat.reduceLeDiff, dj])
                      refine W_cond rfl (fun h => by cases h) (fun _ => W_exit ?_)
                      repeat (first | refine W_seq ?_ | refine W_reg ?_ | refine W_regd ?_ | refine W_block ?_ | refine And.intro (by omega) ?_ | simp (maxSteps := 1000000) (disch := omega) only [cA, cB, cC, frz_us, binE, unE, boundE, newsE, blkQ, Nat.reduceEqDiff, Nat.reduceLT, Nat.reduceAdd, ↓reduceIte, reduceCtorEq, Nat.reduceLeDiff, u9, us_rfd] | refine callC_pure (ct) rfl ?_ | refine callC_pure (cf) rfl ?_ | refine callC_pure (ca) rfl ?_ | exact W_ret (RetP_1 (.imm rfl)) | exact W_ret (RetP_c rfl rfl rfl (.imm rfl)))
                      exact ⟨(l.length % 9), And.intro he2 (And.intro halle.out (.inr he5)), by omega, by simp [subF, lk]⟩
              · have df : decide ((0 : Int) < (l.length % 9 : Nat)) = false := decide_eq_false (by omega)
                have he1 : i < i + 9 := by omega
                have he2 : i + 9 ≤ l.length := by omega
                have he4 : i = 0 ∨ i + 9 - i = 9 := .inl hi0
                have he3 : i + 9 - i ≤ 9 := by omega
                have he5 : (l.length - (i + 9)) % 9 = 0 := by omega
                have ei9 : (i : Int) + 9 = ((i + 9 : Nat) : Int) := by omega
                have te : ((i + 9 : Nat) : Int).toNat = i + 9 := Int.toNat_natCast _
                repeat (first | refine W_seq ?_ | refine W_reg ?_ | refine W_regd ?_ | refine W_block ?_ | refine And.intro (by omega) ?_ | simp (maxSteps := 1000000) (disch := omega) only [cA, cB, cC, frz_us, binE, unE, boundE, newsE, blkQ, Nat.reduceEqDiff, Nat.reduceLT, Nat.reduceAdd, ↓reduceIte, reduceCtorEq, Nat.reduceLeDiff, di, df, ei9])
                refine W_cond rfl (fun h => by cases h) (fun _ => W_skip ?_)
                have hg := seg_len (l := l) (at' := i) (e := (i + 9)) he2
                have hseg := take_seg (l := l) (at' := i) (e := (i + 9)) (Nat.le_of_lt he1)
                have hval := dval_seg (l := l) (at' := i) (e := (i + 9)) (Nat.le_of_lt he1) he2 he4
                have hmem : ∀ c ∈ (l.take (i + 9)).drop i, c ∈ l := fun c h => List.mem_of_mem_take (List.mem_of_mem_drop h)
                repeat (first | refine W_seq ?_ | refine W_reg ?_ | refine W_regd ?_ | refine W_block ?_ | refine And.intro (by omega) ?_ | simp (maxSteps := 1000000) (disch := omega) only [cA, cB, cC, frz_us, binE, unE, boundE, newsE, blkQ, Nat.reduceEqDiff, Nat.reduceLT, Nat.reduceAdd, ↓reduceIte, reduceCtorEq, Nat.reduceLeDiff, ti, te])
                generalize (l.take (i + 9)).drop i = g at *
                have hglen : ((g.map byteD).length) = g.length := List.length_map ..
                repeat (first | refine W_seq ?_ | refine W_reg ?_ | refine W_regd ?_ | refine W_block ?_ | refine And.intro (by omega) ?_ | simp (maxSteps := 1000000) (disch := omega) only [cA, cB, cC, frz_us, binE, unE, boundE, newsE, blkQ, Nat.reduceEqDiff, Nat.reduceLT, Nat.reduceAdd, ↓reduceIte, reduceCtorEq, Nat.reduceLeDiff, hglen])
                refine W_loop (σ := Nat) (fun j => [(0, .str l), (2, accD l i), (3, .bool false), (4, .int .i64 (l.length % 9 : Nat)), (5, .int .i64 i), (6, .int .i64 ((i + 9) : Nat)), (47, .sl 1 (g.map byteD)), (48, .int .i64 g.length), (49, .int .i64 j), (7, .int .u64 (dval 0 (g.take j) : Nat))]) (fun _ => []) (fun j => j ≤ g.length ∧ (g.take j).all isD = true) (fun j => g.length - j) 0 (And.intro (Nat.zero_le _) rfl) ?_ rfl ?_
                · simp [subF, lk, dval_nil]
                · rintro j ⟨hj, hgall⟩
                  by_cases hjl : j < g.length
                  · have dj : decide ((j : Int) < g.length) = true := decide_eq_true (by omega)
                    repeat (first | refine W_seq ?_ | refine W_reg ?_ | refine W_regd ?_ | refine W_block ?_ | refine And.intro (by omega) ?_ | simp (maxSteps := 1000000) (disch := omega) only [cA, cB, cC, frz_us, binE, unE, boundE, newsE, blkQ, Nat.reduceEqDiff, Nat.reduceLT, Nat.reduceAdd, ↓reduceIte, reduceCtorEq, Nat.reduceLeDiff, dj])
                    refine W_cond rfl (fun _ => W_skip ?_) (fun h => by cases h)
                    have tj : (j : Int).toNat = j := Int.toNat_natCast j
                    have hg1 := byteD_get hjl
                    have hg2 := byteD_get? hjl
                    have hta := take_all hjl hgall
                    have htd := take_dval hjl
                    have hmc := hmem g[j] (List.getElem_mem hjl)
                    have hv : dval 0 (g.take j) < 1000000000 := Nat.lt_of_lt_of_le (dval_lt _ hgall) (Nat.le_trans (Nat.pow_le_pow_right (by decide) (show (g.take j).length ≤ 9 by rw [List.length_take]; omega)) (by decide))
                    generalize g[j] = c at *
                    generalize dval 0 (g.take j) = v at *
                    have hk : c.toNat < 256 := UInt8.toNat_lt c
                    have j1 : ((j : Int) + 1) = ((j + 1 : Nat) : Int) := by omega
                    clear hval hseg
                    by_cases hd : isD c = true
                    · have hd' := hd
                      simp only [isD, Bool.and_eq_true, decide_eq_true_eq] at hd'
                      have d5 : decide ((c.toNat : Int) < 48) = false := decide_eq_false (by omega)
                      have d6 : decide ((57 : Int) < c.toNat) = false := decide_eq_false (by omega)
                      have e8 : (c.toNat : Int) - 48 = ((c.toNat - 48 : Nat) : Int) := by omega
                      have e10 : 10 * (v : Int) + ((c.toNat - 48 : Nat) : Int) = ((dval 0 (g.take (j + 1)) : Nat) : Int) := by rw [htd]; omega
                      have hta' := hta hd
                      clear hta htd hgall hall hmem
                      (replace hta' := Hid.mk hta')
                      repeat (first | refine W_seq ?_ | refine W_reg ?_ | refine W_regd ?_ | refine W_block ?_ | refine And.intro (by omega) ?_ | simp (maxSteps := 1000000) (disch := omega) only [cA, cB, cC, frz_us, binE, unE, boundE, newsE, blkQ, Nat.reduceEqDiff, Nat.reduceLT, Nat.reduceAdd, ↓reduceIte, reduceCtorEq, Nat.reduceLeDiff, tj, hg1, hg2, d5, d6])
                      refine W_cond rfl (fun h => by cases h) (fun _ => W_skip ?_)
                      repeat (first | refine W_seq ?_ | refine W_reg ?_ | refine W_regd ?_ | refine W_block ?_ | refine And.intro (by omega) ?_ | simp (maxSteps := 1000000) (disch := omega) only [cA, cB, cC, frz_us, binE, unE, boundE, newsE, blkQ, Nat.reduceEqDiff, Nat.reduceLT, Nat.reduceAdd, ↓reduceIte, reduceCtorEq, Nat.reduceLeDiff, e8, e10, j1])
                      exact ⟨j + 1, And.intro hjl hta'.out, by omega, by simp [subF, lk]⟩
                    · have hb : okD l = false := by
                        rw [← Bool.not_eq_true, okD_iff]
                        exact fun h => hd (List.all_eq_true.1 h.2.2.2 c hmc)
                      rw [parseR_bad hb]
                      clear hta htd hall hgall hmem
                      by_cases h5 : c.toNat < 48
                      · have d5 : decide ((c.toNat : Int) < 48) = true := decide_eq_true (by omega)
                        repeat (first | refine W_seq ?_ | refine W_reg ?_ | refine W_regd ?_ | refine W_block ?_ | refine And.intro (by omega) ?_ | simp (maxSteps := 1000000) (disch := omega) only [cA, cB, cC, frz_us, binE, unE, boundE, newsE, blkQ, Nat.reduceEqDiff, Nat.reduceLT, Nat.reduceAdd, ↓reduceIte, reduceCtorEq, Nat.reduceLeDiff, tj, hg1, hg2, d5])
                        refine W_cond rfl (fun _ => ?_) (fun h => by cases h)
                        repeat (first | refine W_seq ?_ | refine W_reg ?_ | refine W_regd ?_ | refine W_block ?_ | refine And.intro (by omega) ?_ | simp (maxSteps := 1000000) (disch := omega) only [cA, cB, cC, frz_us, binE, unE, boundE, newsE, blkQ, Nat.reduceEqDiff, Nat.reduceLT, Nat.reduceAdd, ↓reduceIte, reduceCtorEq, Nat.reduceLeDiff])
                        exact W_ret (RetP_2 (.nils _) (.imm rfl))
                      · have d5 : decide ((c.toNat : Int) < 48) = false := decide_eq_false (by omega)
                        have d6 : decide ((57 : Int) < c.toNat) = true := decide_eq_true (by
                          simp only [isD, Bool.and_eq_true, decide_eq_true_eq] at hd
                          omega)
                        repeat (first | refine W_seq ?_ | refine W_reg ?_ | refine W_regd ?_ | refine W_block ?_ | refine And.intro (by omega) ?_ | simp (maxSteps := 1000000) (disch := omega) only [cA, cB, cC, frz_us, binE, unE, boundE, newsE, blkQ, Nat.reduceEqDiff, Nat.reduceLT, Nat.reduceAdd, ↓reduceIte, reduceCtorEq, Nat.reduceLeDiff, tj, hg1, hg2, d5, d6])
                        refine W_cond rfl (fun _ => ?_) (fun h => by cases h)
                        repeat (first | refine W_seq ?_ | refine W_reg ?_ | refine W_regd ?_ | refine W_block ?_ | refine And.intro (by omega) ?_ | simp (maxSteps := 1000000) (disch := omega) only [cA, cB, cC, frz_us, binE, unE, boundE, newsE, blkQ, Nat.reduceEqDiff, Nat.reduceLT, Nat.reduceAdd, ↓reduceIte, reduceCtorEq, Nat.reduceLeDiff])
                        exact W_ret (RetP_2 (.nils _) (.imm rfl))
                  · have dj : decide ((j : Int) < g.length) = false := decide_eq_false (by omega)
                    obtain rfl : j = g.length := by omega
                    rw [List.take_length] at hgall ⊢
                    have u9 : [DV.int .u32 1000000000] = us (limbs 1000000000) := by rw [limbs_one (by decide) (by decide)]; rfl
                    have hl9 : (limbs 1000000000).length ≤ 1 := by rw [limbs_one (by decide) (by decide)]; simp
                    have hv : dval 0 g < 1000000000 := Nat.lt_of_lt_of_le (dval_lt _ hgall) (Nat.le_trans (Nat.pow_le_pow_right (by decide) (show g.length ≤ 9 by omega)) (by decide))
                    have hdl := dval_len hall (m := 4000) (by simp; omega)
                    have ct := accD_nMul l i (by omega)
                    have cf := nFromUint_calls (dval 0 g) (by omega)
                    have hm := len_mul hdl hl9
                    have ca := nAddL (dval 0 (l.take i) * 1000000000) (dval 0 g) (by omega) (Nat.le_trans (limbs_len.2 (show dval 0 g < 4294967296 ^ 1 by omega)) (by decide))
                    rw [hval] at ca
                    have hac : accD l (i + 9) = .sl 1 (us (limbs (dval 0 (l.take (i + 9))))) := by unfold accD; rw [if_neg (by omega)]
                    rw [← hac] at ca
                    have halle : (l.take (i + 9)).all isD = true := by rw [hseg, List.all_append, hall, hgall]; rfl
                    have hacc := accD_cases l i
                    clear hval hseg hall hgall hm hdl hl9 hac hmem
                    (replace halle := Hid.mk halle)
                    rcases hacc with e | ⟨xs, e⟩
                    · rw [e] at ct ⊢
                      repeat (first | refine W_seq ?_ | refine W_reg ?_ | refine W_regd ?_ | refine W_block ?_ | refine And.intro (by omega) ?_ | simp (maxSteps := 1000000) (disch := omega) only [cA, cB, cC, frz_us, binE, unE, boundE, newsE, blkQ, Nat.reduceEqDiff, Nat.reduceLT, Nat.reduceAdd, ↓reduceIte, reduceCtorEq, Nat.reduceLeDiff, dj])
                      refine W_cond rfl (fun h => by cases h) (fun _ => W_exit ?_)
                      repeat (first | refine W_seq ?_ | refine W_reg ?_ | refine W_regd ?_ | refine W_block ?_ | refine And.intro (by omega) ?_ | simp (maxSteps := 1000000) (disch := omega) only [cA, cB, cC, frz_us, binE, unE, boundE, newsE, blkQ, Nat.reduceEqDiff, Nat.reduceLT, Nat.reduceAdd, ↓reduceIte, reduceCtorEq, Nat.reduceLeDiff, u9, us_rfd] | refine callC_pure (ct) rfl ?_ | refine callC_pure (cf) rfl ?_ | refine callC_pure (ca) rfl ?_ | exact W_ret (RetP_1 (.imm rfl)) | exact W_ret (RetP_c rfl rfl rfl (.imm rfl)))
                      exact ⟨(i + 9), And.intro he2 (And.intro halle.out (.inr he5)), by omega, by simp [subF, lk]⟩
                    · rw [e] at ct ⊢
                      repeat (first | refine W_seq ?_ | refine W_reg ?_ | refine W_regd ?_ | refine W_block ?_ | refine And.intro (by omega) ?_ | simp (maxSteps := 1000000) (disch := omega) only [cA, cB, cC, frz_us, binE, unE, boundE, newsE, blkQ, Nat.reduceEqDiff, Nat.reduceLT, Nat.reduceAdd, ↓reduceIte, reduceCtorEq, Nat.reduceLeDiff, dj])
                      refine W_cond rfl (fun h => by cases h) (fun _ => W_exit ?_)
                      repeat (first | refine W_seq ?_ | refine W_reg ?_ | refine W_regd ?_ | refine W_block ?_ | refine And.intro (by omega) ?_ | simp (maxSteps := 1000000) (disch := omega) only [cA, cB, cC, frz_us, binE, unE, boundE, newsE, blkQ, Nat.reduceEqDiff, Nat.reduceLT, Nat.reduceAdd, ↓reduceIte, reduceCtorEq, Nat.reduceLeDiff, u9, us_rfd] | refine callC_pure (ct) rfl ?_ | refine callC_pure (cf) rfl ?_ | refine callC_pure (ca) rfl ?_ | exact W_ret (RetP_1 (.imm rfl)) | exact W_ret (RetP_c rfl rfl rfl (.imm rfl)))
                      exact ⟨(i + 9), And.intro he2 (And.intro halle.out (.inr he5)), by omega, by simp [subF, lk]⟩
            · have di : decide ((i : Int) = 0) = false := decide_eq_false (by omega)
              have he1 : i < i + 9 := by omega
              have he2 : i + 9 ≤ l.length := by omega
              have he4 : i = 0 ∨ i + 9 - i = 9 := .inr (by omega)
              have he3 : i + 9 - i ≤ 9 := by omega
              have he5 : (l.length - (i + 9)) % 9 = 0 := by omega
              have ei9 : (i : Int) + 9 = ((i + 9 : Nat) : Int) := by omega
              have te : ((i + 9 : Nat) : Int).toNat = i + 9 := Int.toNat_natCast _
              repeat (first | refine W_seq ?_ | refine W_reg ?_ | refine W_regd ?_ | refine W_block ?_ | refine And.intro (by omega) ?_ | simp (maxSteps := 1000000) (disch := omega) only [cA, cB, cC, frz_us, binE, unE, boundE, newsE, blkQ, Nat.reduceEqDiff, Nat.reduceLT, Nat.reduceAdd, ↓reduceIte, reduceCtorEq, Nat.reduceLeDiff, di, ei9])
              refine W_cond rfl (fun h => by cases h) (fun _ => W_skip ?_)
              have hg := seg_len (l := l) (at' := i) (e := (i + 9)) he2
              have hseg := take_seg (l := l) (at' := i) (e := (i + 9)) (Nat.le_of_lt he1)
              have hval := dval_seg (l := l) (at' := i) (e := (i + 9)) (Nat.le_of_lt he1) he2 he4
              have hmem : ∀ c ∈ (l.take (i + 9)).drop i, c ∈ l := fun c h => List.mem_of_mem_take (List.mem_of_mem_drop h)
              repeat (first | refine W_seq ?_ | refine W_reg ?_ | refine W_regd ?_ | refine W_block ?_ | refine And.intro (by omega) ?_ | simp (maxSteps := 1000000) (disch := omega) only [cA, cB, cC, frz_us, binE, unE, boundE, newsE, blkQ, Nat.reduceEqDiff, Nat.reduceLT, Nat.reduceAdd, ↓reduceIte, reduceCtorEq, Nat.reduceLeDiff, ti, te])
              generalize (l.take (i + 9)).drop i = g at *
              have hglen : ((g.map byteD).length) = g.length := List.length_map ..
              repeat (first | refine W_seq ?_ | refine W_reg ?_ | refine W_regd ?_ | refine W_block ?_ | refine And.intro (by omega) ?_ | simp (maxSteps := 1000000) (disch := omega) only [cA, cB, cC, frz_us, binE, unE, boundE, newsE, blkQ, Nat.reduceEqDiff, Nat.reduceLT, Nat.reduceAdd, ↓reduceIte, reduceCtorEq, Nat.reduceLeDiff, hglen])
              refine W_loop (σ := Nat) (fun j => [(0, .str l), (2, accD l i), (3, .bool false), (4, .int .i64 (l.length % 9 : Nat)), (5, .int .i64 i), (6, .int .i64 ((i + 9) : Nat)), (47, .sl 1 (g.map byteD)), (48, .int .i64 g.length), (49, .int .i64 j), (7, .int .u64 (dval 0 (g.take j) : Nat))]) (fun _ => []) (fun j => j ≤ g.length ∧ (g.take j).all isD = true) (fun j => g.length - j) 0 (And.intro (Nat.zero_le _) rfl) ?_ rfl ?_
              · simp [subF, lk, dval_nil]
              · rintro j ⟨hj, hgall⟩
                by_cases hjl : j < g.length
                · have dj : decide ((j : Int) < g.length) = true := decide_eq_true (by omega)
                  repeat (first | refine W_seq ?_ | refine W_reg ?_ | refine W_regd ?_ | refine W_block ?_ | refine And.intro (by omega) ?_ | simp (maxSteps := 1000000) (disch := omega) only [cA, cB, cC, frz_us, binE, unE, boundE, newsE, blkQ, Nat.reduceEqDiff, Nat.reduceLT, Nat.reduceAdd, ↓reduceIte, reduceCtorEq, Nat.reduceLeDiff, dj])
                  refine W_cond rfl (fun _ => W_skip ?_) (fun h => by cases h)
                  have tj : (j : Int).toNat = j := Int.toNat_natCast j
                  have hg1 := byteD_get hjl
                  have hg2 := byteD_get? hjl
                  have hta := take_all hjl hgall
                  have htd := take_dval hjl
                  have hmc := hmem g[j] (List.getElem_mem hjl)
                  have hv : dval 0 (g.take j) < 1000000000 := Nat.lt_of_lt_of_le (dval_lt _ hgall) (Nat.le_trans (Nat.pow_le_pow_right (by decide) (show (g.take j).length ≤ 9 by rw [List.length_take]; omega)) (by decide))
                  generalize g[j] = c at *
                  generalize dval 0 (g.take j) = v at *
                  have hk : c.toNat < 256 := UInt8.toNat_lt c
                  have j1 : ((j : Int) + 1) = ((j + 1 : Nat) : Int) := by omega
                  clear hval hseg
                  by_cases hd : isD c = true
                  · have hd' := hd
                    simp only [isD, Bool.and_eq_true, decide_eq_true_eq] at hd'
                    have d5 : decide ((c.toNat : Int) < 48) = false := decide_eq_false (by omega)
                    have d6 : decide ((57 : Int) < c.toNat) = false := decide_eq_false (by omega)
                    have e8 : (c.toNat : Int) - 48 = ((c.toNat - 48 : Nat) : Int) := by omega
                    have e10 : 10 * (v : Int) + ((c.toNat - 48 : Nat) : Int) = ((dval 0 (g.take (j + 1)) : Nat) : Int) := by rw [htd]; omega
                    have hta' := hta hd
                    clear hta htd hgall hall hmem
                    (replace hta' := Hid.mk hta')
                    repeat (first | refine W_seq ?_ | refine W_reg ?_ | refine W_regd ?_ | refine W_block ?_ | refine And.intro (by omega) ?_ | simp (maxSteps := 1000000) (disch := omega) only [cA, cB, cC, frz_us, binE, unE, boundE, newsE, blkQ, Nat.reduceEqDiff, Nat.reduceLT, Nat.reduceAdd, ↓reduceIte, reduceCtorEq, Nat.reduceLeDiff, tj, hg1, hg2, d5, d6])
                    refine W_cond rfl (fun h => by cases h) (fun _ => W_skip ?_)
                    repeat (first | refine W_seq ?_ | refine W_reg ?_ | refine W_regd ?_ | refine W_block ?_ | refine And.intro (by omega) ?_ | simp (maxSteps := 1000000) (disch := omega) only [cA, cB, cC, frz_us, binE, unE, boundE, newsE, blkQ, Nat.reduceEqDiff, Nat.reduceLT, Nat.reduceAdd, ↓reduceIte, reduceCtorEq, Nat.reduceLeDiff, e8, e10, j1])
                    exact ⟨j + 1, And.intro hjl hta'.out, by omega, by simp [subF, lk]⟩
                  · have hb : okD l = false := by
                      rw [← Bool.not_eq_true, okD_iff]
                      exact fun h => hd (List.all_eq_true.1 h.2.2.2 c hmc)
                    rw [parseR_bad hb]
                    clear hta htd hall hgall hmem
                    by_cases h5 : c.toNat < 48
                    · have d5 : decide ((c.toNat : Int) < 48) = true := decide_eq_true (by omega)
                      repeat (first | refine W_seq ?_ | refine W_reg ?_ | refine W_regd ?_ | refine W_block ?_ | refine And.intro (by omega) ?_ | simp (maxSteps := 1000000) (disch := omega) only [cA, cB, cC, frz_us, binE, unE, boundE, newsE, blkQ, Nat.reduceEqDiff, Nat.reduceLT, Nat.reduceAdd, ↓reduceIte, reduceCtorEq, Nat.reduceLeDiff, tj, hg1, hg2, d5])
                      refine W_cond rfl (fun _ => ?_) (fun h => by cases h)
                      repeat (first | refine W_seq ?_ | refine W_reg ?_ | refine W_regd ?_ | refine W_block ?_ | refine And.intro (by omega) ?_ | simp (maxSteps := 1000000) (disch := omega) only [cA, cB, cC, frz_us, binE, unE, boundE, newsE, blkQ, Nat.reduceEqDiff, Nat.reduceLT, Nat.reduceAdd, ↓reduceIte, reduceCtorEq, Nat.reduceLeDiff])
                      exact W_ret (RetP_2 (.nils _) (.imm rfl))
                    · have d5 : decide ((c.toNat : Int) < 48) = false := decide_eq_false (by omega)
                      have d6 : decide ((57 : Int) < c.toNat) = true := decide_eq_true (by
                        simp only [isD, Bool.and_eq_true, decide_eq_true_eq] at hd
                        omega)
                      repeat (first | refine W_seq ?_ | refine W_reg ?_ | refine W_regd ?_ | refine W_block ?_ | refine And.intro (by omega) ?_ | simp (maxSteps := 1000000) (disch := omega) only [cA, cB, cC, frz_us, binE, unE, boundE, newsE, blkQ, Nat.reduceEqDiff, Nat.reduceLT, Nat.reduceAdd, ↓reduceIte, reduceCtorEq, Nat.reduceLeDiff, tj, hg1, hg2, d5, d6])
                      refine W_cond rfl (fun _ => ?_) (fun h => by cases h)
                      repeat (first | refine W_seq ?_ | refine W_reg ?_ | refine W_regd ?_ | refine W_block ?_ | refine And.intro (by omega) ?_ | simp (maxSteps := 1000000) (disch := omega) only [cA, cB, cC, frz_us, binE, unE, boundE, newsE, blkQ, Nat.reduceEqDiff, Nat.reduceLT, Nat.reduceAdd, ↓reduceIte, reduceCtorEq, Nat.reduceLeDiff])
                      exact W_ret (RetP_2 (.nils _) (.imm rfl))
                · have dj : decide ((j : Int) < g.length) = false := decide_eq_false (by omega)
                  obtain rfl : j = g.length := by omega
                  rw [List.take_length] at hgall ⊢
                  have u9 : [DV.int .u32 1000000000] = us (limbs 1000000000) := by rw [limbs_one (by decide) (by decide)]; rfl
                  have hl9 : (limbs 1000000000).length ≤ 1 := by rw [limbs_one (by decide) (by decide)]; simp
                  have hv : dval 0 g < 1000000000 := Nat.lt_of_lt_of_le (dval_lt _ hgall) (Nat.le_trans (Nat.pow_le_pow_right (by decide) (show g.length ≤ 9 by omega)) (by decide))
                  have hdl := dval_len hall (m := 4000) (by simp; omega)
                  have ct := accD_nMul l i (by omega)
                  have cf := nFromUint_calls (dval 0 g) (by omega)
                  have hm := len_mul hdl hl9
                  have ca := nAddL (dval 0 (l.take i) * 1000000000) (dval 0 g) (by omega) (Nat.le_trans (limbs_len.2 (show dval 0 g < 4294967296 ^ 1 by omega)) (by decide))
                  rw [hval] at ca
                  have hac : accD l (i + 9) = .sl 1 (us (limbs (dval 0 (l.take (i + 9))))) := by unfold accD; rw [if_neg (by omega)]
                  rw [← hac] at ca
                  have halle : (l.take (i + 9)).all isD = true := by rw [hseg, List.all_append, hall, hgall]; rfl
                  have hacc := accD_cases l i
                  clear hval hseg hall hgall hm hdl hl9 hac hmem
                  (replace halle := Hid.mk halle)
                  rcases hacc with e | ⟨xs, e⟩
                  · rw [e] at ct ⊢
                    repeat (first | refine W_seq ?_ | refine W_reg ?_ | refine W_regd ?_ | refine W_block ?_ | refine And.intro (by omega) ?_ | simp (maxSteps := 1000000) (disch := omega) only [cA, cB, cC, frz_us, binE, unE, boundE, newsE, blkQ, Nat.reduceEqDiff, Nat.reduceLT, Nat.reduceAdd, ↓reduceIte, reduceCtorEq, Nat.reduceLeDiff, dj])
                    refine W_cond rfl (fun h => by cases h) (fun _ => W_exit ?_)
                    repeat (first | refine W_seq ?_ | refine W_reg ?_ | refine W_regd ?_ | refine W_block ?_ | refine And.intro (by omega) ?_ | simp (maxSteps := 1000000) (disch := omega) only [cA, cB, cC, frz_us, binE, unE, boundE, newsE, blkQ, Nat.reduceEqDiff, Nat.reduceLT, Nat.reduceAdd, ↓reduceIte, reduceCtorEq, Nat.reduceLeDiff, u9, us_rfd] | refine callC_pure (ct) rfl ?_ | refine callC_pure (cf) rfl ?_ | refine callC_pure (ca) rfl ?_ | exact W_ret (RetP_1 (.imm rfl)) | exact W_ret (RetP_c rfl rfl rfl (.imm rfl)))
                    exact ⟨(i + 9), And.intro he2 (And.intro halle.out (.inr he5)), by omega, by simp [subF, lk]⟩
                  · rw [e] at ct ⊢
                    repeat (first | refine W_seq ?_ | refine W_reg ?_ | refine W_regd ?_ | refine W_block ?_ | refine And.intro (by omega) ?_ | simp (maxSteps := 1000000) (disch := omega) only [cA, cB, cC, frz_us, binE, unE, boundE, newsE, blkQ, Nat.reduceEqDiff, Nat.reduceLT, Nat.reduceAdd, ↓reduceIte, reduceCtorEq, Nat.reduceLeDiff, dj])
                    refine W_cond rfl (fun h => by cases h) (fun _ => W_exit ?_)
                    repeat (first | refine W_seq ?_ | refine W_reg ?_ | refine W_regd ?_ | refine W_block ?_ | refine And.intro (by omega) ?_ | simp (maxSteps := 1000000) (disch := omega) only [cA, cB, cC, frz_us, binE, unE, boundE, newsE, blkQ, Nat.reduceEqDiff, Nat.reduceLT, Nat.reduceAdd, ↓reduceIte, reduceCtorEq, Nat.reduceLeDiff, u9, us_rfd] | refine callC_pure (ct) rfl ?_ | refine callC_pure (cf) rfl ?_ | refine callC_pure (ca) rfl ?_ | exact W_ret (RetP_1 (.imm rfl)) | exact W_ret (RetP_c rfl rfl rfl (.imm rfl)))
                    exact ⟨(i + 9), And.intro he2 (And.intro halle.out (.inr he5)), by omega, by simp [subF, lk]⟩
          · have hil : i = l.length := by omega
            subst hil
            have dl : decide ((l.length : Int) < l.length) = false := decide_eq_false (by omega)
            rw [List.take_length] at hall
            have hb : okD l = true := (okD_iff l).2 ⟨hn, by omega, hz, hall⟩
            have hr : parseR l = .tup [.sl 1 (us (limbs (dval 0 l))), .bool true] := by unfold parseR; rw [hb]; rfl
            have hac : accD l l.length = .sl 1 (us (limbs (dval 0 l))) := by unfold accD; rw [if_neg (by omega), List.take_length]
            rw [hr, hac]
            repeat (first | refine W_seq ?_ | refine W_reg ?_ | refine W_regd ?_ | refine W_block ?_ | refine And.intro (by omega) ?_ | simp (maxSteps := 1000000) (disch := omega) only [cA, cB, cC, frz_us, binE, unE, boundE, newsE, blkQ, Nat.reduceEqDiff, Nat.reduceLT, Nat.reduceAdd, ↓reduceIte, reduceCtorEq, Nat.reduceLeDiff, dl])
            refine W_cond rfl (fun h => by cases h) (fun _ => W_exit ?_)
            repeat (first | refine W_seq ?_ | refine W_reg ?_ | refine W_regd ?_ | refine W_block ?_ | refine And.intro (by omega) ?_ | simp (maxSteps := 1000000) (disch := omega) only [cA, cB, cC, frz_us, binE, unE, boundE, newsE, blkQ, Nat.reduceEqDiff, Nat.reduceLT, Nat.reduceAdd, ↓reduceIte, reduceCtorEq, Nat.reduceLeDiff])
            exact W_ret (RetP_2 (.imm rfl) (.imm rfl))
end Go.Proofs.YteiagmmfapbaiaaGreatDoor
namespace Go.Proofs.YteiagmmfapbaiaaGreatDoor
open Go Go.Dat Go.Proofs Nat32
open Go.Lib (decDigits)
def fmtI (z : Int) : List UInt8 := if z < 0 then 45 :: decDigits z.natAbs else decDigits z.natAbs
theorem iFormat_calls (neg : Bool) (a : List Nat) (ha : a.length ≤ 900) (la : lim a) : PCalls Tryz.prog 68 [X neg a] (.str (fmtI (iv neg a))) := by
  have cv := i_value_calls neg a (by omega) la
  have cg := iSign_calls neg a (by omega) la
  have l1 := iv_len la neg
  generalize iv neg a = z at *
  have cf := nFormat_calls (limbs z.natAbs) (by omega) (lim_limbs _)
  rw [vn_limbs] at cf
  have hd := dd_limbs (Nat.le_trans l1 ha)
  unfold fmtI
  generalize decDigits z.natAbs = D at *
  refine PCalls_of isiFormat (by simp [fniFormat]) ?_
  unfold codeiFormat
  repeat (first | refine W_seq ?_ | refine W_reg ?_ | refine W_regd ?_ | refine W_block ?_ | refine And.intro (by omega) ?_ | simp (maxSteps := 1000000) (disch := omega) only [cA, cB, cC, frz_us, binE, unE, boundE, newsE, blkQ, Nat.reduceEqDiff, Nat.reduceLT, Nat.reduceAdd, ↓reduceIte, reduceCtorEq, Nat.reduceLeDiff, X, I, cS, nbiFormat] | refine callC_pure (cv) rfl ?_ | refine callC_pure (cf) rfl ?_ | refine callC_pure (cg) rfl ?_ | exact W_ret (RetP_1 (.imm rfl)) | exact W_ret (RetP_c rfl rfl rfl (.imm rfl)))
  by_cases hz : z < 0
  · have ds : decide (z.sign < 0) = true := by rw [Int.sign_eq_neg_one_of_neg hz]; decide
    rw [ds, if_pos hz]
    refine W_cond rfl (fun _ => ?_) (fun h => by cases h)
    have e : [(45 : UInt8)] ++ D = 45 :: D := rfl
    repeat (first | refine W_seq ?_ | refine W_reg ?_ | refine W_regd ?_ | refine W_block ?_ | refine And.intro (by omega) ?_ | simp (maxSteps := 1000000) (disch := omega) only [cA, cB, cC, frz_us, binE, unE, boundE, newsE, blkQ, Nat.reduceEqDiff, Nat.reduceLT, Nat.reduceAdd, ↓reduceIte, reduceCtorEq, Nat.reduceLeDiff, e, List.length_singleton])
    exact W_ret (RetP_1 (.imm rfl))
  · have ds : decide (z.sign < 0) = false := decide_eq_false (by have := Int.sign_nonneg_iff.2 (show 0 ≤ z by omega); omega)
    rw [ds, if_neg hz]
    refine W_cond rfl (fun h => by cases h) (fun _ => W_skip ?_)
    repeat (first | refine W_seq ?_ | refine W_reg ?_ | refine W_regd ?_ | refine W_block ?_ | refine And.intro (by omega) ?_ | simp (maxSteps := 1000000) (disch := omega) only [cA, cB, cC, frz_us, binE, unE, boundE, newsE, blkQ, Nat.reduceEqDiff, Nat.reduceLT, Nat.reduceAdd, ↓reduceIte, reduceCtorEq, Nat.reduceLeDiff])
    exact W_ret (RetP_1 (.imm rfl))
theorem sFormat_calls (neg : Bool) (a : List Nat) (ha : a.length ≤ 900) (la : lim a) : PCalls Tryz.prog 71 [X neg a] (.str (fmtI (iv neg a))) := by
  have cv := sTake_calls neg a (by omega) la
  have l1 := iv_len la neg
  generalize iv neg a = z at *
  have cf := rFormat_calls (limbs z.natAbs) (by omega) (lim_limbs _)
  rw [vn_limbs] at cf
  have hd := dd_limbs (Nat.le_trans l1 ha)
  unfold fmtI
  generalize decDigits z.natAbs = D at *
  refine PCalls_of issFormat (by simp [fnsFormat]) ?_
  unfold codesFormat
  repeat (first | refine W_seq ?_ | refine W_reg ?_ | refine W_regd ?_ | refine W_block ?_ | refine And.intro (by omega) ?_ | simp (maxSteps := 1000000) (disch := omega) only [cA, cB, cC, frz_us, binE, unE, boundE, newsE, blkQ, Nat.reduceEqDiff, Nat.reduceLT, Nat.reduceAdd, ↓reduceIte, reduceCtorEq, Nat.reduceLeDiff, X, I, cS, nbsFormat] | refine callC_pure (cv) rfl ?_ | exact W_ret (RetP_1 (.imm rfl)) | exact W_ret (RetP_c rfl rfl rfl (.imm rfl)))
  by_cases hz : z < 0
  · have ds : decide (z < 0) = true := decide_eq_true hz
    rw [ds, if_pos hz]
    refine W_cond rfl (fun _ => ?_) (fun h => by cases h)
    have e : [(45 : UInt8)] ++ D = 45 :: D := rfl
    repeat (first | refine W_seq ?_ | refine W_reg ?_ | refine W_regd ?_ | refine W_block ?_ | refine And.intro (by omega) ?_ | simp (maxSteps := 1000000) (disch := omega) only [cA, cB, cC, frz_us, binE, unE, boundE, newsE, blkQ, Nat.reduceEqDiff, Nat.reduceLT, Nat.reduceAdd, ↓reduceIte, reduceCtorEq, Nat.reduceLeDiff, cS, e, List.length_singleton] | refine callC_pure (cf) rfl ?_ | exact W_ret (RetP_1 (.imm rfl)) | exact W_ret (RetP_c rfl rfl rfl (.imm rfl)))
  · have ds : decide (z < 0) = false := decide_eq_false hz
    rw [ds, if_neg hz]
    refine W_cond rfl (fun h => by cases h) (fun _ => W_skip ?_)
    repeat (first | refine W_seq ?_ | refine W_reg ?_ | refine W_regd ?_ | refine W_block ?_ | refine And.intro (by omega) ?_ | simp (maxSteps := 1000000) (disch := omega) only [cA, cB, cC, frz_us, binE, unE, boundE, newsE, blkQ, Nat.reduceEqDiff, Nat.reduceLT, Nat.reduceAdd, ↓reduceIte, reduceCtorEq, Nat.reduceLeDiff, cS] | refine callC_pure (cf) rfl ?_ | exact W_ret (RetP_1 (.imm rfl)) | exact W_ret (RetP_c rfl rfl rfl (.imm rfl)))
end Go.Proofs.YteiagmmfapbaiaaGreatDoor
namespace Go.Proofs.YteiagmmfapbaiaaGreatDoor
open Go Go.Dat Go.Proofs
noncomputable def fnstrCut : FnD := ⟨Tryz.prog, [0, 1, 4, 5, 6], [], 13, 0, false⟩
def codestrCut : DC := (.seq (.reg [⟨.x 4, .mv (.c (.str [])), none⟩,⟨.x 5, .mv (.c (.str [])), none⟩,⟨.x 6, .mv (.c (.bool false)), none⟩]) (.seq (.reg [⟨.t 7, .mv (.x 0), none⟩,⟨.t 8, .mv (.x 1), none⟩,⟨.t 9, .call 142 [(.t 7), (.t 8)], none⟩,⟨.t 10, .ext (.t 9) 0, none⟩,⟨.t 11, .ext (.t 9) 1, none⟩,⟨.t 12, .ext (.t 9) 2, none⟩,⟨.x 4, .mv (.t 10), none⟩,⟨.x 5, .mv (.t 11), none⟩,⟨.x 6, .mv (.t 12), none⟩]) .ret))
def resstrCut : List RV := [.t 4, .t 5, .t 6]
theorem isstrCut : IsFn fnstrCut 107 codestrCut resstrCut := ⟨⟨Tryz.f107, _, Tryz.func107, rfl, rfl, by kernel_rfl, by kernel_rfl, by kernel_rfl⟩⟩
noncomputable def fnislCut : FnD := ⟨Tryz.prog, [0, 1, 4, 5, 6, 7, 12], [], 23, 0, false⟩
def codeislCut : DC := (.seq (.reg [⟨.x 4, .mv (.c (.str [])), none⟩,⟨.x 5, .mv (.c (.str [])), none⟩,⟨.x 6, .mv (.c (.bool false)), none⟩]) (.seq (.seq (.reg [⟨.t 8, .mv (.x 0), none⟩,⟨.t 9, .mv (.x 1), none⟩,⟨.t 10, .call 163 [(.t 8), (.t 9)], none⟩,⟨.x 7, .mv (.t 10), none⟩]) (.seq (.reg [⟨.t 11, .mv (.x 7), none⟩,⟨.x 12, .bin .geq (.t 11) (.c (.int .i64 0)), none⟩]) (.cond (.x 12) (.seq (.regd [⟨.t 13, .mv (.x 0), none⟩,⟨.t 14, .mv (.x 7), none⟩,⟨.t 15, .slcS (.t 13) none (some (.t 14)), none⟩,⟨.t 16, .mv (.x 0), none⟩,⟨.t 17, .mv (.x 7), none⟩,⟨.t 18, .mv (.x 1), none⟩,⟨.t 19, .lenS (.t 18), none⟩,⟨.t 20, .bin .add (.t 17) (.t 19), none⟩,⟨.t 21, .slcS (.t 16) (some (.t 20)) none, none⟩,⟨.x 4, .mv (.t 15), none⟩,⟨.x 5, .mv (.t 21), none⟩,⟨.x 6, .mv (.c (.bool true)), none⟩]) .ret) .skip))) (.seq (.reg [⟨.t 22, .mv (.x 0), none⟩,⟨.x 4, .mv (.t 22), none⟩,⟨.x 5, .mv (.c (.str [])), none⟩,⟨.x 6, .mv (.c (.bool false)), none⟩]) .ret)))
def resislCut : List RV := [.t 4, .t 5, .t 6]
theorem isislCut : IsFn fnislCut 142 codeislCut resislCut := ⟨⟨Tryz.f142, _, Tryz.func142, rfl, rfl, by kernel_rfl, by kernel_rfl, by kernel_rfl⟩⟩
end Go.Proofs.YteiagmmfapbaiaaGreatDoor
namespace Go.Proofs.YteiagmmfapbaiaaGreatDoor
open Go Go.Dat Go.Proofs Nat32 Go.RowKit
open Go.Lib (decDigits)
theorem islIndex1 (l : List UInt8) (c : UInt8) : PCalls Tryz.prog 163 [.str l, .str [c]] (.int .i64 (idx (isC c) l)) :=
  PCalls_str2 (fun _ _ => .int _ _) fun w => (Tryz.stringslite_Index_one ⟨l.toArray⟩ c w).mono fun e w' h => ⟨by rw [h.1, indexByte_idx], by rw [h.2]; exact Below.refl _ _⟩
theorem cutPrefixD (l : List UInt8) : PCalls Tryz.prog 60 [.str l, .str [45]] (.tup [.str (expD l), .bool (decide (l.head? = some 45))]) :=
  PCalls_str2 (fun _ _ => VI_strbool _ _) fun w => (Tryz.strings_CutPrefix ⟨l.toArray⟩ ⟨[45].toArray⟩ w).mono fun e w' h => ⟨by rw [h.1, ← trimPrefix45, ← hasPrefix45], by rw [h.2]; exact Below.refl _ _⟩
theorem trimLeftD (l : List UInt8) : PCalls Tryz.prog 147 [.str l, .str [48]] (.str (Lib.trimLeftB l 48)) :=
  PCalls_str2 (fun _ _ => .str _) fun w => (Tryz.strings_TrimLeft_one ⟨l.toArray⟩ 48 (by decide) w).mono fun e w' h => ⟨h.1, by rw [h.2]; exact Below.refl _ _⟩
def A7 (l : List UInt8) : Prop := (∀ b ∈ l, b.toNat < 128) ∨ 8 < l.length
theorem indexAnyD (l : List UInt8) (h7 : A7 l) (hl : l.length ≤ 100000) : PCalls Tryz.prog 109 [.str l, .str [101, 69]] (.int .i64 (idx isE l)) := by
  have hc : ∀ (j : Nat) b, ([101, 69] : List UInt8)[j]? = some b → b.toNat < 128 := fun j b hb => by
    have := List.mem_of_getElem? hb
    simp at this
    rcases this with rfl | rfl <;> decide
  have hz : (⟨l.toArray⟩ : ByteArray).size = l.length := by simp [ByteArray.size]
  rcases h7 with ha | h8
  · exact PCalls_str2 (fun _ _ => .int _ _) fun w => (Tryz.strings_IndexAny_laid ⟨l.toArray⟩ ⟨[101, 69].toArray⟩ w (by omega) (by decide) (fun j b hb => ha b (List.mem_of_getElem? hb)) hc).mono fun e w' h => ⟨by rw [h.1, ← indexAny_idx], h.2⟩
  · refine PCalls_str2 (fun _ _ => .int _ _) fun w => (Tryz.strings_IndexAny_long (zero_of_info (n := 256) (by kernel_rfl)).1 ⟨l.toArray⟩ ⟨[101, 69].toArray⟩ w (by decide) (by omega) (by omega) (by decide) hc).mono fun e w' h => ⟨by rw [h.1, ← indexAny_idx], ?_⟩
    rw [h.2]
    exact ((Below.refl _ _).alloc (Nat.le_refl _) _).alloc (by simp) _
def cutR (p : UInt8 → Bool) (l : List UInt8) : DV := if fi p l < l.length then .tup [.str (l.take (fi p l)), .str (l.drop (fi p l + 1)), .bool true] else .tup [.str l, .str [], .bool false]
theorem islCut_calls (l : List UInt8) (c : UInt8) (hl : l.length ≤ 100000) : PCalls Tryz.prog 142 [.str l, .str [c]] (cutR (isC c) l) := by
  have ci := islIndex1 l c
  have hge := idx_ge (isC c) l
  refine PCalls_of isislCut (by simp [fnislCut]) ?_
  unfold codeislCut cutR
  by_cases h : fi (isC c) l < l.length
  · rw [if_pos h]
    rw [decide_eq_true h] at hge
    rw [idx_of h] at ci hge
    generalize fi (isC c) l = i at *
    have e1 : ((i : Int) + ((1 : Nat) : Int)).toNat = i + 1 := by omega
    have e2 : (l.take l.length).drop (i + 1) = l.drop (i + 1) := by rw [List.take_length]
    have e3 : (l.take i).drop 0 = l.take i := rfl
    repeat (first | refine W_seq ?_ | refine W_reg ?_ | refine W_regd ?_ | refine W_block ?_ | refine And.intro (by omega) ?_ | simp (maxSteps := 1000000) (disch := omega) only [cA, cB, cC, frz_us, binE, unE, boundE, newsE, blkQ, Nat.reduceEqDiff, Nat.reduceLT, Nat.reduceAdd, ↓reduceIte, reduceCtorEq, Nat.reduceLeDiff, hge] | refine callC_pure (ci) rfl ?_ | exact W_ret (RetP_1 (.imm rfl)) | exact W_ret (RetP_c rfl rfl rfl (.imm rfl)))
    refine W_cond rfl (fun _ => ?_) (fun h => by cases h)
    repeat (first | refine W_seq ?_ | refine W_reg ?_ | refine W_regd ?_ | refine W_block ?_ | refine And.intro (by omega) ?_ | simp (maxSteps := 1000000) (disch := omega) only [cA, cB, cC, frz_us, binE, unE, boundE, newsE, blkQ, Nat.reduceEqDiff, Nat.reduceLT, Nat.reduceAdd, ↓reduceIte, reduceCtorEq, Nat.reduceLeDiff, e1, e2, e3, List.length_singleton, List.take_length])
    exact W_ret (RetP_3 (.imm rfl) (.imm rfl) (.imm rfl))
  · rw [if_neg h]
    rw [decide_eq_false h] at hge
    repeat (first | refine W_seq ?_ | refine W_reg ?_ | refine W_regd ?_ | refine W_block ?_ | refine And.intro (by omega) ?_ | simp (maxSteps := 1000000) (disch := omega) only [cA, cB, cC, frz_us, binE, unE, boundE, newsE, blkQ, Nat.reduceEqDiff, Nat.reduceLT, Nat.reduceAdd, ↓reduceIte, reduceCtorEq, Nat.reduceLeDiff, hge] | refine callC_pure (ci) rfl ?_ | exact W_ret (RetP_1 (.imm rfl)) | exact W_ret (RetP_c rfl rfl rfl (.imm rfl)))
    refine W_cond rfl (fun h => by cases h) (fun _ => W_skip ?_)
    repeat (first | refine W_seq ?_ | refine W_reg ?_ | refine W_regd ?_ | refine W_block ?_ | refine And.intro (by omega) ?_ | simp (maxSteps := 1000000) (disch := omega) only [cA, cB, cC, frz_us, binE, unE, boundE, newsE, blkQ, Nat.reduceEqDiff, Nat.reduceLT, Nat.reduceAdd, ↓reduceIte, reduceCtorEq, Nat.reduceLeDiff])
    exact W_ret (RetP_3 (.imm rfl) (.imm rfl) (.imm rfl))
theorem strCut_calls (l : List UInt8) (c : UInt8) (hl : l.length ≤ 100000) : PCalls Tryz.prog 107 [.str l, .str [c]] (cutR (isC c) l) := by
  have ci := islCut_calls l c hl
  refine PCalls_of isstrCut (by simp [fnstrCut]) ?_
  unfold codestrCut
  unfold cutR at ci ⊢
  by_cases h : fi (isC c) l < l.length
  · rw [if_pos h] at ci ⊢
    repeat (first | refine W_seq ?_ | refine W_reg ?_ | refine W_regd ?_ | refine W_block ?_ | refine And.intro (by omega) ?_ | simp (maxSteps := 1000000) (disch := omega) only [cA, cB, cC, frz_us, binE, unE, boundE, newsE, blkQ, Nat.reduceEqDiff, Nat.reduceLT, Nat.reduceAdd, ↓reduceIte, reduceCtorEq, Nat.reduceLeDiff] | refine callC_pure (ci) rfl ?_ | exact W_ret (RetP_1 (.imm rfl)) | exact W_ret (RetP_c rfl rfl rfl (.imm rfl)))
    exact W_ret (RetP_3 (.imm rfl) (.imm rfl) (.imm rfl))
  · rw [if_neg h] at ci ⊢
    repeat (first | refine W_seq ?_ | refine W_reg ?_ | refine W_regd ?_ | refine W_block ?_ | refine And.intro (by omega) ?_ | simp (maxSteps := 1000000) (disch := omega) only [cA, cB, cC, frz_us, binE, unE, boundE, newsE, blkQ, Nat.reduceEqDiff, Nat.reduceLT, Nat.reduceAdd, ↓reduceIte, reduceCtorEq, Nat.reduceLeDiff] | refine callC_pure (ci) rfl ?_ | exact W_ret (RetP_1 (.imm rfl)) | exact W_ret (RetP_c rfl rfl rfl (.imm rfl)))
    exact W_ret (RetP_3 (.imm rfl) (.imm rfl) (.imm rfl))
theorem ten_len (k : Nat) : (limbs (10 ^ k)).length ≤ k + 1 := by
  rw [limbs_len]
  refine Nat.lt_of_le_of_lt (Nat.pow_le_pow_left (show 10 ≤ 4294967296 by decide) k) ?_
  exact Nat.pow_lt_pow_right (by decide) (by omega)
theorem l10 : [DV.int .u32 10] = us (limbs 10) := by rw [limbs_one (by decide) (by decide)]; rfl
theorem limbs10 : (limbs 10).length ≤ 1 := by rw [limbs_one (by decide) (by decide)]; simp
theorem nPow10 (k : Nat) (h : k ≤ 64) : PCalls Tryz.prog 129 [.sl 1 (us (limbs 10)), .int .i64 k] (.sl 1 (us (limbs (10 ^ k)))) := by
  have := nPower_calls (limbs 10) k (Nat.le_trans limbs10 (by decide)) (lim_limbs _)
  unfold pw at this
  rwa [if_neg (by omega), Int.toNat_natCast, vn_limbs] at this
theorem q_ten_calls (k : Nat) (hk : k ≤ 5000) : PCalls Tryz.prog 75 [.int .i64 k] (.sl 1 (us (limbs (10 ^ k)))) := by
  refine PCalls_of isq_ten (by simp [fnq_ten]) ?_
  unfold codeq_ten
  have hone := q_one_calls
  repeat (first | refine W_seq ?_ | refine W_reg ?_ | refine W_regd ?_ | refine W_block ?_ | refine And.intro (by omega) ?_ | simp (maxSteps := 1000000) (disch := omega) only [cA, cB, cC, frz_us, binE, unE, boundE, newsE, blkQ, Nat.reduceEqDiff, Nat.reduceLT, Nat.reduceAdd, ↓reduceIte, reduceCtorEq, Nat.reduceLeDiff] | refine callC_pure (hone) rfl ?_ | exact W_ret (RetP_1 (.imm rfl)) | exact W_ret (RetP_c rfl rfl rfl (.imm rfl)))
  refine W_loop (σ := Nat) (fun i => [(0, .int .i64 i), (2, .nils), (3, .sl 1 (us (limbs (10 ^ (k - i)))))]) (fun _ => []) (fun i => i ≤ k) (fun i => i) k (Nat.le_refl _) ?_ rfl ?_
  · simp [subF, lk]
  · rintro i hi
    try simp only at hi ⊢
    have hl := ten_len (k - i)
    by_cases h : 64 < i
    · have d : decide ((64 : Int) < i) = true := decide_eq_true (by omega)
      have c1 := nPow10 64 (Nat.le_refl _)
      have c2 := nMulL (10 ^ (k - i)) (10 ^ 64) (by omega) (Nat.le_trans (ten_len 64) (by decide))
      rw [← Nat.pow_add, show k - i + 64 = k - (i - 64) by omega] at c2
      have e1 : (i : Int) - 64 = ((i - 64 : Nat) : Int) := by omega
      generalize 10 ^ 64 = T at *
      repeat (first | refine W_seq ?_ | refine W_reg ?_ | refine W_regd ?_ | refine W_block ?_ | refine And.intro (by omega) ?_ | simp (maxSteps := 1000000) (disch := omega) only [cA, cB, cC, frz_us, binE, unE, boundE, newsE, blkQ, Nat.reduceEqDiff, Nat.reduceLT, Nat.reduceAdd, ↓reduceIte, reduceCtorEq, Nat.reduceLeDiff, d])
      refine W_cond rfl (fun _ => W_skip ?_) (fun h => by cases h)
      repeat (first | refine W_seq ?_ | refine W_reg ?_ | refine W_regd ?_ | refine W_block ?_ | refine And.intro (by omega) ?_ | simp (maxSteps := 1000000) (disch := omega) only [cA, cB, cC, frz_us, binE, unE, boundE, newsE, blkQ, Nat.reduceEqDiff, Nat.reduceLT, Nat.reduceAdd, ↓reduceIte, reduceCtorEq, Nat.reduceLeDiff, l10, us_rfd, e1] | refine callC_pure (c1) rfl ?_ | refine callC_pure (c2) rfl ?_ | exact W_ret (RetP_1 (.imm rfl)) | exact W_ret (RetP_c rfl rfl rfl (.imm rfl)))
      exact ⟨i - 64, by omega, by omega, by simp [subF, lk]⟩
    · have d : decide ((64 : Int) < i) = false := decide_eq_false (by omega)
      have c1 := nPow10 i (by omega)
      have c2 := nMulL (10 ^ (k - i)) (10 ^ i) (by omega) (Nat.le_trans (ten_len i) (by omega))
      rw [← Nat.pow_add, show k - i + i = k by omega] at c2
      repeat (first | refine W_seq ?_ | refine W_reg ?_ | refine W_regd ?_ | refine W_block ?_ | refine And.intro (by omega) ?_ | simp (maxSteps := 1000000) (disch := omega) only [cA, cB, cC, frz_us, binE, unE, boundE, newsE, blkQ, Nat.reduceEqDiff, Nat.reduceLT, Nat.reduceAdd, ↓reduceIte, reduceCtorEq, Nat.reduceLeDiff, d])
      refine W_cond rfl (fun h => by cases h) (fun _ => W_exit ?_)
      repeat (first | refine W_seq ?_ | refine W_reg ?_ | refine W_regd ?_ | refine W_block ?_ | refine And.intro (by omega) ?_ | simp (maxSteps := 1000000) (disch := omega) only [cA, cB, cC, frz_us, binE, unE, boundE, newsE, blkQ, Nat.reduceEqDiff, Nat.reduceLT, Nat.reduceAdd, ↓reduceIte, reduceCtorEq, Nat.reduceLeDiff, l10, us_rfd] | refine callC_pure (c1) rfl ?_ | refine callC_pure (c2) rfl ?_ | exact W_ret (RetP_1 (.imm rfl)) | exact W_ret (RetP_c rfl rfl rfl (.imm rfl)))
theorem q_significant_calls (l : List UInt8) : PCalls Tryz.prog 112 [.str l] (.str (sig l)) := by
  have ct := trimLeftD l
  refine PCalls_of isq_significant (by simp [fnq_significant]) ?_
  unfold codeq_significant sig
  generalize Lib.trimLeftB l 48 = T at *
  by_cases h : T = []
  · have d : decide (T = []) = true := decide_eq_true h
    rw [if_pos h]
    repeat (first | refine W_seq ?_ | refine W_reg ?_ | refine W_regd ?_ | refine W_block ?_ | refine And.intro (by omega) ?_ | simp (maxSteps := 1000000) (disch := omega) only [cA, cB, cC, frz_us, binE, unE, boundE, newsE, blkQ, Nat.reduceEqDiff, Nat.reduceLT, Nat.reduceAdd, ↓reduceIte, reduceCtorEq, Nat.reduceLeDiff, d] | refine callC_pure (ct) rfl ?_ | exact W_ret (RetP_1 (.imm rfl)) | exact W_ret (RetP_c rfl rfl rfl (.imm rfl)))
    refine W_cond rfl (fun _ => ?_) (fun h => by cases h)
    repeat (first | refine W_seq ?_ | refine W_reg ?_ | refine W_regd ?_ | refine W_block ?_ | refine And.intro (by omega) ?_ | simp (maxSteps := 1000000) (disch := omega) only [cA, cB, cC, frz_us, binE, unE, boundE, newsE, blkQ, Nat.reduceEqDiff, Nat.reduceLT, Nat.reduceAdd, ↓reduceIte, reduceCtorEq, Nat.reduceLeDiff])
    exact W_ret (RetP_1 (.imm rfl))
  · have d : decide (T = []) = false := decide_eq_false h
    rw [if_neg h]
    repeat (first | refine W_seq ?_ | refine W_reg ?_ | refine W_regd ?_ | refine W_block ?_ | refine And.intro (by omega) ?_ | simp (maxSteps := 1000000) (disch := omega) only [cA, cB, cC, frz_us, binE, unE, boundE, newsE, blkQ, Nat.reduceEqDiff, Nat.reduceLT, Nat.reduceAdd, ↓reduceIte, reduceCtorEq, Nat.reduceLeDiff, d] | refine callC_pure (ct) rfl ?_ | exact W_ret (RetP_1 (.imm rfl)) | exact W_ret (RetP_c rfl rfl rfl (.imm rfl)))
    refine W_cond rfl (fun h => by cases h) (fun _ => W_skip ?_)
    repeat (first | refine W_seq ?_ | refine W_reg ?_ | refine W_regd ?_ | refine W_block ?_ | refine And.intro (by omega) ?_ | simp (maxSteps := 1000000) (disch := omega) only [cA, cB, cC, frz_us, binE, unE, boundE, newsE, blkQ, Nat.reduceEqDiff, Nat.reduceLT, Nat.reduceAdd, ↓reduceIte, reduceCtorEq, Nat.reduceLeDiff])
    exact W_ret (RetP_1 (.imm rfl))
end Go.Proofs.YteiagmmfapbaiaaGreatDoor
namespace Go.Proofs.YteiagmmfapbaiaaGreatDoor
open Go Go.Dat Go.Proofs Nat32 Go.RowKit
open Go.Lib (decDigits)
theorem bs_getD {l : List UInt8} {k : Nat} (h : k < l.length) : (l.map byteD).getD k .undef = .int .u8 ((l.getD k 0).toNat : Nat) := by
  simp [List.getD_eq_getElem?_getD, h, byteD]
theorem q_digits_calls (l : List UInt8) (hl : l.length ≤ 100000) : PCalls Tryz.prog 111 [.str l] (.bool (digs l)) := by
  refine PCalls_of isq_digits (by simp [fnq_digits]) ?_
  unfold codeq_digits
  repeat (first | refine W_seq ?_ | refine W_reg ?_ | refine W_regd ?_ | refine W_block ?_ | refine And.intro (by omega) ?_ | simp (maxSteps := 1000000) (disch := omega) only [cA, cB, cC, frz_us, binE, unE, boundE, newsE, blkQ, Nat.reduceEqDiff, Nat.reduceLT, Nat.reduceAdd, ↓reduceIte, reduceCtorEq, Nat.reduceLeDiff, List.length_map])
  refine W_loop (σ := Nat) (fun i => [(0, .str l), (2, .bool false), (6, .sl 1 (l.map byteD)), (7, .int .i64 l.length), (8, .int .i64 i)]) (fun _ => []) (fun i => i ≤ l.length ∧ (l.take i).all isD = true) (fun i => l.length - i) 0 (And.intro (Nat.zero_le _) rfl) ?_ rfl ?_
  · simp [subF, lk]
  · rintro i ⟨hi, hall⟩
    try simp only at hi hall ⊢
    by_cases hlt : i < l.length
    · have dl : decide ((i : Int) < l.length) = true := decide_eq_true (by omega)
      have ei : (i : Int).toNat = i := Int.toNat_natCast i
      have hgd := bs_getD hlt
      have hg2 : l.getD i 0 = l[i] := by rw [List.getD_eq_getElem?_getD, List.getElem?_eq_getElem hlt]; rfl
      rw [hg2] at hgd
      have hta := take_all hlt hall
      have hmem : l[i] ∈ l := List.getElem_mem hlt
      clear hg2
      generalize l[i] = c at *
      have hk : c.toNat < 256 := UInt8.toNat_lt c
      have e1 : ((i : Int) + 1) = ((i + 1 : Nat) : Int) := by omega
      have hbad : ¬ isD c = true → digs l = false := fun h => by
        unfold digs
        rw [Bool.and_eq_false_iff]
        right
        rw [← Bool.not_eq_true]
        exact fun k => h (List.all_eq_true.1 k c hmem)
      repeat (first | refine W_seq ?_ | refine W_reg ?_ | refine W_regd ?_ | refine W_block ?_ | refine And.intro (by omega) ?_ | simp (maxSteps := 1000000) (disch := omega) only [cA, cB, cC, frz_us, binE, unE, boundE, newsE, blkQ, Nat.reduceEqDiff, Nat.reduceLT, Nat.reduceAdd, ↓reduceIte, reduceCtorEq, Nat.reduceLeDiff, dl])
      refine W_cond rfl (fun _ => W_skip ?_) (fun h => by cases h)
      by_cases hd : isD c = true
      · have hd' := hd
        simp only [isD, Bool.and_eq_true, decide_eq_true_eq] at hd'
        have d5 : decide (((c.toNat : Nat) : Int) < 48) = false := decide_eq_false (by omega)
        have d6 : decide ((57 : Int) < ((c.toNat : Nat) : Int)) = false := decide_eq_false (by omega)
        have hta' := hta hd
        clear hta hall hd hbad hmem
        (replace hta' := Hid.mk hta')
        repeat (first | refine W_seq ?_ | refine W_reg ?_ | refine W_regd ?_ | refine W_block ?_ | refine And.intro (by omega) ?_ | simp (maxSteps := 1000000) (disch := omega) only [cA, cB, cC, frz_us, binE, unE, boundE, newsE, blkQ, Nat.reduceEqDiff, Nat.reduceLT, Nat.reduceAdd, ↓reduceIte, reduceCtorEq, Nat.reduceLeDiff, ei, hgd, d5, d6, List.length_map])
        refine W_cond rfl (fun h => by cases h) (fun _ => W_skip ?_)
        repeat (first | refine W_seq ?_ | refine W_reg ?_ | refine W_regd ?_ | refine W_block ?_ | refine And.intro (by omega) ?_ | simp (maxSteps := 1000000) (disch := omega) only [cA, cB, cC, frz_us, binE, unE, boundE, newsE, blkQ, Nat.reduceEqDiff, Nat.reduceLT, Nat.reduceAdd, ↓reduceIte, reduceCtorEq, Nat.reduceLeDiff, e1])
        exact ⟨i + 1, And.intro hlt hta'.out, by omega, by simp [subF, lk]⟩
      · rw [hbad hd]
        clear hta hall hbad hmem
        by_cases h5 : c.toNat < 48
        · have d5 : decide (((c.toNat : Nat) : Int) < 48) = true := decide_eq_true (by omega)
          repeat (first | refine W_seq ?_ | refine W_reg ?_ | refine W_regd ?_ | refine W_block ?_ | refine And.intro (by omega) ?_ | simp (maxSteps := 1000000) (disch := omega) only [cA, cB, cC, frz_us, binE, unE, boundE, newsE, blkQ, Nat.reduceEqDiff, Nat.reduceLT, Nat.reduceAdd, ↓reduceIte, reduceCtorEq, Nat.reduceLeDiff, ei, hgd, d5, List.length_map])
          refine W_cond rfl (fun _ => ?_) (fun h => by cases h)
          repeat (first | refine W_seq ?_ | refine W_reg ?_ | refine W_regd ?_ | refine W_block ?_ | refine And.intro (by omega) ?_ | simp (maxSteps := 1000000) (disch := omega) only [cA, cB, cC, frz_us, binE, unE, boundE, newsE, blkQ, Nat.reduceEqDiff, Nat.reduceLT, Nat.reduceAdd, ↓reduceIte, reduceCtorEq, Nat.reduceLeDiff])
          exact W_ret (RetP_1 (.imm rfl))
        · have h57 : 57 < c.toNat := by
            simp only [isD, Bool.and_eq_true, decide_eq_true_eq] at hd
            omega
          have d5 : decide (((c.toNat : Nat) : Int) < 48) = false := decide_eq_false (by omega)
          have d6 : decide ((57 : Int) < ((c.toNat : Nat) : Int)) = true := decide_eq_true (by omega)
          clear hd
          repeat (first | refine W_seq ?_ | refine W_reg ?_ | refine W_regd ?_ | refine W_block ?_ | refine And.intro (by omega) ?_ | simp (maxSteps := 1000000) (disch := omega) only [cA, cB, cC, frz_us, binE, unE, boundE, newsE, blkQ, Nat.reduceEqDiff, Nat.reduceLT, Nat.reduceAdd, ↓reduceIte, reduceCtorEq, Nat.reduceLeDiff, ei, hgd, d5, d6, List.length_map])
          refine W_cond rfl (fun _ => ?_) (fun h => by cases h)
          repeat (first | refine W_seq ?_ | refine W_reg ?_ | refine W_regd ?_ | refine W_block ?_ | refine And.intro (by omega) ?_ | simp (maxSteps := 1000000) (disch := omega) only [cA, cB, cC, frz_us, binE, unE, boundE, newsE, blkQ, Nat.reduceEqDiff, Nat.reduceLT, Nat.reduceAdd, ↓reduceIte, reduceCtorEq, Nat.reduceLeDiff])
          exact W_ret (RetP_1 (.imm rfl))
    · have dl : decide ((i : Int) < l.length) = false := decide_eq_false (by omega)
      have hil : i = l.length := by omega
      have hdg : digs l = decide (¬ l = []) := by
        unfold digs
        rw [hil, List.take_length] at hall
        rw [hall, Bool.and_true]
        cases l <;> simp
      rw [hdg]
      repeat (first | refine W_seq ?_ | refine W_reg ?_ | refine W_regd ?_ | refine W_block ?_ | refine And.intro (by omega) ?_ | simp (maxSteps := 1000000) (disch := omega) only [cA, cB, cC, frz_us, binE, unE, boundE, newsE, blkQ, Nat.reduceEqDiff, Nat.reduceLT, Nat.reduceAdd, ↓reduceIte, reduceCtorEq, Nat.reduceLeDiff, dl])
      refine W_cond rfl (fun h => by cases h) (fun _ => W_exit ?_)
      repeat (first | refine W_seq ?_ | refine W_reg ?_ | refine W_regd ?_ | refine W_block ?_ | refine And.intro (by omega) ?_ | simp (maxSteps := 1000000) (disch := omega) only [cA, cB, cC, frz_us, binE, unE, boundE, newsE, blkQ, Nat.reduceEqDiff, Nat.reduceLT, Nat.reduceAdd, ↓reduceIte, reduceCtorEq, Nat.reduceLeDiff])
      exact W_ret (RetP_1 (.imm rfl))
theorem nUint_pn (a : List UInt8) (hl : a.length ≤ 1000) : PCalls Tryz.prog 138 [.sl 1 (us (limbs (pn a)))] (uintR (pn a)) := by
  have hx : (limbs (pn a)).length ≤ 1000 := by
    unfold pn
    by_cases h : okD a = true
    · rw [if_pos h]; exact dval_le (okD_all h) hl
    · rw [if_neg h, limbs_zero]; simp
  have := nUint_calls (limbs (pn a)) (by omega) (lim_limbs _)
  rwa [vn_limbs] at this
theorem parseR_pn (a : List UInt8) : parseR a = .tup [.sl 1 (us (limbs (pn a))), .bool (okD a)] := by
  unfold parseR pn
  by_cases h : okD a = true
  · rw [h]; rfl
  · rw [show okD a = false by simpa using h]
    simp [limbs_zero, us_nil]
theorem nParse_pn (a : List UInt8) : PCalls Tryz.prog 108 [.str a] (.tup [.sl 1 (us (limbs (pn a))), .bool (okD a)]) := by
  have := nParse_calls a
  rwa [parseR_pn] at this
theorem uintR_small {x : Nat} (h : x < 18446744073709551616) : uintR x = .tup [.int .u64 x, .bool true] := by
  unfold uintR
  rw [if_neg (by have := limbs_len.2 (show x < 4294967296 ^ 2 by omega); omega)]
theorem uintR_big {x : Nat} (h : ¬ x < 18446744073709551616) : uintR x = .tup [.int .u64 0, .bool false] := by
  unfold uintR
  rw [if_pos ?_]
  rcases Nat.lt_or_ge 2 (limbs x).length with k | k
  · exact k
  · have := limbs_len.1 k
    omega
theorem q_exponent_calls (e : List UInt8) (hl : e.length ≤ 1000) : PCalls Tryz.prog 110 [.str e] (expR e) := by
  have c1 := cutPrefixD e
  have hel : (expD e).length ≤ 1000 := by
    unfold expD; split
    · rw [List.length_tail]; omega
    · exact hl
  have c2 := nParse_pn (expD e)
  have c3 := nUint_pn (expD e) hel
  refine PCalls_of isq_exponent (by simp [fnq_exponent]) ?_
  unfold codeq_exponent expR expOk expV
  unfold pn at c2 c3
  generalize expD e = D at *
  by_cases ho : okD D = true
  · rw [ho, if_pos rfl] at c2
    rw [ho, if_pos rfl] at c3
    rw [ho, Bool.true_and]
    generalize dval 0 D = v at *
    by_cases hs : v < 18446744073709551616
    · rw [uintR_small hs] at c3
      by_cases h40 : v ≤ 40
      · have d40 : decide ((40 : Int) < (v : Int)) = false := decide_eq_false (by omega)
        rw [if_pos (decide_eq_true h40)]
        clear hs
        by_cases hn : e.head? = some 45
        · rw [decide_eq_true hn] at c1
          rw [if_pos hn]
          repeat (first | refine W_seq ?_ | refine W_reg ?_ | refine W_regd ?_ | refine W_block ?_ | refine And.intro (by omega) ?_ | simp (maxSteps := 1000000) (disch := omega) only [cA, cB, cC, frz_us, binE, unE, boundE, newsE, blkQ, Nat.reduceEqDiff, Nat.reduceLT, Nat.reduceAdd, ↓reduceIte, reduceCtorEq, Nat.reduceLeDiff, d40] | refine callC_pure (c1) rfl ?_ | refine callC_pure (c2) rfl ?_ | refine callC_pure (c3) rfl ?_ | exact W_ret (RetP_1 (.imm rfl)) | exact W_ret (RetP_c rfl rfl rfl (.imm rfl)))
          refine W_cond rfl (fun h => by cases h) (fun _ => W_skip ?_)
          repeat (first | refine W_seq ?_ | refine W_reg ?_ | refine W_regd ?_ | refine W_block ?_ | refine And.intro (by omega) ?_ | simp (maxSteps := 1000000) (disch := omega) only [cA, cB, cC, frz_us, binE, unE, boundE, newsE, blkQ, Nat.reduceEqDiff, Nat.reduceLT, Nat.reduceAdd, ↓reduceIte, reduceCtorEq, Nat.reduceLeDiff])
          refine W_cond rfl (fun _ => ?_) (fun h => by cases h)
          repeat (first | refine W_seq ?_ | refine W_reg ?_ | refine W_regd ?_ | refine W_block ?_ | refine And.intro (by omega) ?_ | simp (maxSteps := 1000000) (disch := omega) only [cA, cB, cC, frz_us, binE, unE, boundE, newsE, blkQ, Nat.reduceEqDiff, Nat.reduceLT, Nat.reduceAdd, ↓reduceIte, reduceCtorEq, Nat.reduceLeDiff, Int.zero_sub])
          exact W_ret (RetP_2 (.imm rfl) (.imm rfl))
        · rw [decide_eq_false hn] at c1
          rw [if_neg hn]
          repeat (first | refine W_seq ?_ | refine W_reg ?_ | refine W_regd ?_ | refine W_block ?_ | refine And.intro (by omega) ?_ | simp (maxSteps := 1000000) (disch := omega) only [cA, cB, cC, frz_us, binE, unE, boundE, newsE, blkQ, Nat.reduceEqDiff, Nat.reduceLT, Nat.reduceAdd, ↓reduceIte, reduceCtorEq, Nat.reduceLeDiff, d40] | refine callC_pure (c1) rfl ?_ | refine callC_pure (c2) rfl ?_ | refine callC_pure (c3) rfl ?_ | exact W_ret (RetP_1 (.imm rfl)) | exact W_ret (RetP_c rfl rfl rfl (.imm rfl)))
          refine W_cond rfl (fun h => by cases h) (fun _ => W_skip ?_)
          repeat (first | refine W_seq ?_ | refine W_reg ?_ | refine W_regd ?_ | refine W_block ?_ | refine And.intro (by omega) ?_ | simp (maxSteps := 1000000) (disch := omega) only [cA, cB, cC, frz_us, binE, unE, boundE, newsE, blkQ, Nat.reduceEqDiff, Nat.reduceLT, Nat.reduceAdd, ↓reduceIte, reduceCtorEq, Nat.reduceLeDiff])
          refine W_cond rfl (fun h => by cases h) (fun _ => W_skip ?_)
          repeat (first | refine W_seq ?_ | refine W_reg ?_ | refine W_regd ?_ | refine W_block ?_ | refine And.intro (by omega) ?_ | simp (maxSteps := 1000000) (disch := omega) only [cA, cB, cC, frz_us, binE, unE, boundE, newsE, blkQ, Nat.reduceEqDiff, Nat.reduceLT, Nat.reduceAdd, ↓reduceIte, reduceCtorEq, Nat.reduceLeDiff])
          exact W_ret (RetP_2 (.imm rfl) (.imm rfl))
      · have d40 : decide ((40 : Int) < (v : Int)) = true := decide_eq_true (by omega)
        rw [if_neg (by simpa using h40)]
        repeat (first | refine W_seq ?_ | refine W_reg ?_ | refine W_regd ?_ | refine W_block ?_ | refine And.intro (by omega) ?_ | simp (maxSteps := 1000000) (disch := omega) only [cA, cB, cC, frz_us, binE, unE, boundE, newsE, blkQ, Nat.reduceEqDiff, Nat.reduceLT, Nat.reduceAdd, ↓reduceIte, reduceCtorEq, Nat.reduceLeDiff, d40] | refine callC_pure (c1) rfl ?_ | refine callC_pure (c2) rfl ?_ | refine callC_pure (c3) rfl ?_ | exact W_ret (RetP_1 (.imm rfl)) | exact W_ret (RetP_c rfl rfl rfl (.imm rfl)))
        refine W_cond rfl (fun _ => ?_) (fun h => by cases h)
        repeat (first | refine W_seq ?_ | refine W_reg ?_ | refine W_regd ?_ | refine W_block ?_ | refine And.intro (by omega) ?_ | simp (maxSteps := 1000000) (disch := omega) only [cA, cB, cC, frz_us, binE, unE, boundE, newsE, blkQ, Nat.reduceEqDiff, Nat.reduceLT, Nat.reduceAdd, ↓reduceIte, reduceCtorEq, Nat.reduceLeDiff])
        exact W_ret (RetP_2 (.imm rfl) (.imm rfl))
    · rw [uintR_big hs] at c3
      rw [if_neg (by simp; omega)]
      clear hs
      repeat (first | refine W_seq ?_ | refine W_reg ?_ | refine W_regd ?_ | refine W_block ?_ | refine And.intro (by omega) ?_ | simp (maxSteps := 1000000) (disch := omega) only [cA, cB, cC, frz_us, binE, unE, boundE, newsE, blkQ, Nat.reduceEqDiff, Nat.reduceLT, Nat.reduceAdd, ↓reduceIte, reduceCtorEq, Nat.reduceLeDiff] | refine callC_pure (c1) rfl ?_ | refine callC_pure (c2) rfl ?_ | refine callC_pure (c3) rfl ?_ | exact W_ret (RetP_1 (.imm rfl)) | exact W_ret (RetP_c rfl rfl rfl (.imm rfl)))
      refine W_cond rfl (fun _ => ?_) (fun h => by cases h)
      repeat (first | refine W_seq ?_ | refine W_reg ?_ | refine W_regd ?_ | refine W_block ?_ | refine And.intro (by omega) ?_ | simp (maxSteps := 1000000) (disch := omega) only [cA, cB, cC, frz_us, binE, unE, boundE, newsE, blkQ, Nat.reduceEqDiff, Nat.reduceLT, Nat.reduceAdd, ↓reduceIte, reduceCtorEq, Nat.reduceLeDiff])
      exact W_ret (RetP_2 (.imm rfl) (.imm rfl))
  · have ho : okD D = false := by simpa using ho
    rw [ho] at c2 c3 ⊢
    simp only [Bool.false_eq_true, if_false] at c2 c3
    rw [Bool.false_and, if_neg (by decide)]
    rw [uintR_small (by decide)] at c3
    repeat (first | refine W_seq ?_ | refine W_reg ?_ | refine W_regd ?_ | refine W_block ?_ | refine And.intro (by omega) ?_ | simp (maxSteps := 1000000) (disch := omega) only [cA, cB, cC, frz_us, binE, unE, boundE, newsE, blkQ, Nat.reduceEqDiff, Nat.reduceLT, Nat.reduceAdd, ↓reduceIte, reduceCtorEq, Nat.reduceLeDiff] | refine callC_pure (c1) rfl ?_ | refine callC_pure (c2) rfl ?_ | refine callC_pure (c3) rfl ?_ | exact W_ret (RetP_1 (.imm rfl)) | exact W_ret (RetP_c rfl rfl rfl (.imm rfl)))
    refine W_cond rfl (fun _ => ?_) (fun h => by cases h)
    repeat (first | refine W_seq ?_ | refine W_reg ?_ | refine W_regd ?_ | refine W_block ?_ | refine And.intro (by omega) ?_ | simp (maxSteps := 1000000) (disch := omega) only [cA, cB, cC, frz_us, binE, unE, boundE, newsE, blkQ, Nat.reduceEqDiff, Nat.reduceLT, Nat.reduceAdd, ↓reduceIte, reduceCtorEq, Nat.reduceLeDiff])
    exact W_ret (RetP_2 (.imm rfl) (.imm rfl))
end Go.Proofs.YteiagmmfapbaiaaGreatDoor
namespace Go.Proofs.YteiagmmfapbaiaaGreatDoor
open Go Go.Dat Go.Proofs Nat32 Go.RowKit
open Go.Lib (decDigits)
def pairR (r : Option (Nat × Nat)) : DV := match r with
  | some p => .tup [.sl 1 (us (limbs p.1)), .sl 1 (us (limbs p.2)), .bool true]
  | none => .tup [.sl 1 [], .sl 1 [], .bool false]
def tailU : DC := match codeq_unsigned with | .seq _ (.seq _ (.seq _ (.seq _ t))) => t | _ => .skip
theorem cut46 (m : List UInt8) (hl : m.length ≤ 100000) : PCalls Tryz.prog 107 [.str m, .str [46]] (.tup [.str (decN m), .str (decF m), .bool (decide (fi is46 m < m.length))]) := by
  have cc := strCut_calls m 46 hl
  rw [isC46] at cc
  unfold cutR at cc
  unfold decN decF
  by_cases h : fi is46 m < m.length
  · rw [if_pos h] at cc
    rw [decide_eq_true h]; exact cc
  · rw [if_neg h] at cc
    rw [decide_eq_false h, List.take_of_length_le (by omega), List.drop_eq_nil_of_le (by omega)]
    exact cc
set_option maxHeartbeats 2000000 in
theorem tail_W (m : List UInt8) (k : Int) (b : Bool) (hm : m.length ≤ 900) (hk : k.natAbs ≤ 40) :
    W fnq_unsigned tailU (RetP resq_unsigned (pairR (mantP m k))) [(0, .str m), (2, .nils), (3, .nils), (4, .bool b), (8, .int .i64 k)] [] := by
  have cc := cut46 m (by omega)
  have c2 := nParse_pn (decN m)
  have c3 := q_digits_calls (decF m) (by have := decN_len m; omega)
  have hNF := decN_len m
  have hfe : decide (fi is46 m = m.length) = !decide (fi is46 m < m.length) := by
    have := fi_le is46 m
    by_cases h : fi is46 m < m.length
    · rw [decide_eq_true h, decide_eq_false (by omega)]; rfl
    · rw [decide_eq_false h, decide_eq_true (by omega)]; rfl
  have hgood : decOk m = true → okD (sig (decN m ++ decF m)) = true ∧ dval 0 (sig (decN m ++ decF m)) = dval 0 (decN m ++ decF m) ∧ (limbs (dval 0 (decN m ++ decF m))).length ≤ 900 := fun h => by
    obtain ⟨h1, h2⟩ := decOk_all h
    obtain ⟨h3, h4⟩ := sig_ok h1 h2
    exact ⟨h3, h4, dval_le h1 (by rw [List.length_append]; omega)⟩
  have c5 := q_significant_calls (decN m ++ decF m)
  have c6 := nParse_pn (sig (decN m ++ decF m))
  have c7 := q_ten_calls (decF m).length (by omega)
  have c8 := q_ten_calls k.natAbs (by omega)
  have d4 : decide ((4000 : Int) < ((decN m).length : Int) + ((decF m).length : Int)) = false := decide_eq_false (by omega)
  have d4' : decide ((decN m).length + (decF m).length ≤ 4000) = true := decide_eq_true (by omega)
  have hdef : decOk m = (okD (decN m) && (decide (fi is46 m = m.length) || digs (decF m)) && decide ((decN m).length + (decF m).length ≤ 4000)) := rfl
  have hmant : mantP m k = if decOk m then (if k < 0 then some (dval 0 (decN m ++ decF m), 10 ^ (decF m).length * 10 ^ k.natAbs) else some (dval 0 (decN m ++ decF m) * 10 ^ k.natAbs, 10 ^ (decF m).length)) else none := rfl
  rw [hmant]
  rw [hfe, d4', Bool.and_true] at hdef
  clear hmant hfe d4'
  unfold tailU codeq_unsigned
  dsimp only
  generalize decOk m = ok at *
  generalize decide (fi is46 m < m.length) = pt at *
  generalize decN m = N at *
  generalize decF m = F at *
  by_cases ho : ok = true
  · obtain ⟨g1, g2, g3⟩ := hgood ho
    have t1 := ten_len F.length
    have t2 := ten_len k.natAbs
    unfold pn at c6
    rw [g1, if_pos rfl, g2] at c6
    subst ho
    rw [if_pos rfl]
    have hN : okD N = true := by
      cases h : okD N
      · rw [h] at hdef; simp at hdef
      · rfl
    have hP : pt = true → digs F = true := fun hpt => by
      cases h : digs F
      · rw [h, hpt] at hdef; simp at hdef
      · rfl
    rw [hN] at c2
    have m1 := nMulL (10 ^ F.length) (10 ^ k.natAbs) (by omega) (by omega)
    have m2 := nMulL (dval 0 (N ++ F)) (10 ^ k.natAbs) (by omega) (by omega)
    generalize dval 0 (N ++ F) = v at *
    generalize 10 ^ F.length = TF at *
    generalize 10 ^ k.natAbs = TK at *
    clear hgood hdef g1 g2 g3 t1 t2
    by_cases hk0 : k < 0
    · have dk : decide (k < 0) = true := decide_eq_true hk0
      have ek : (0 : Int) - k = (k.natAbs : Int) := by omega
      rw [if_pos hk0]
      cases pt
      · repeat (first | refine W_seq ?_ | refine W_reg ?_ | refine W_regd ?_ | refine W_block ?_ | refine And.intro (by omega) ?_ | simp (maxSteps := 1000000) (disch := omega) only [cA, cB, cC, frz_us, binE, unE, boundE, newsE, blkQ, Nat.reduceEqDiff, Nat.reduceLT, Nat.reduceAdd, ↓reduceIte, reduceCtorEq, Nat.reduceLeDiff, d4] | refine callC_pure (cc) rfl ?_ | refine callC_pure (c2) rfl ?_ | refine callC_pure (c3) rfl ?_ | exact W_ret (RetP_1 (.imm rfl)) | exact W_ret (RetP_c rfl rfl rfl (.imm rfl)))
        refine W_cond rfl (fun h => by cases h) (fun _ => W_skip ?_)
        repeat (first | refine W_seq ?_ | refine W_reg ?_ | refine W_regd ?_ | refine W_block ?_ | refine And.intro (by omega) ?_ | simp (maxSteps := 1000000) (disch := omega) only [cA, cB, cC, frz_us, binE, unE, boundE, newsE, blkQ, Nat.reduceEqDiff, Nat.reduceLT, Nat.reduceAdd, ↓reduceIte, reduceCtorEq, Nat.reduceLeDiff, dk] | refine callC_pure (c5) rfl ?_ | refine callC_pure (c6) rfl ?_ | refine callC_pure (c7) rfl ?_ | exact W_ret (RetP_1 (.imm rfl)) | exact W_ret (RetP_c rfl rfl rfl (.imm rfl)))
        refine W_cond rfl (fun _ => ?_) (fun h => by cases h)
        repeat (first | refine W_seq ?_ | refine W_reg ?_ | refine W_regd ?_ | refine W_block ?_ | refine And.intro (by omega) ?_ | simp (maxSteps := 1000000) (disch := omega) only [cA, cB, cC, frz_us, binE, unE, boundE, newsE, blkQ, Nat.reduceEqDiff, Nat.reduceLT, Nat.reduceAdd, ↓reduceIte, reduceCtorEq, Nat.reduceLeDiff, ek] | refine callC_pure (c8) rfl ?_ | refine callC_pure (m1) rfl ?_ | exact W_ret (RetP_1 (.imm rfl)) | exact W_ret (RetP_c rfl rfl rfl (.imm rfl)))
        exact W_ret (RetP_3 (.imm rfl) (.imm rfl) (.imm rfl))
      · rw [hP rfl] at c3
        repeat (first | refine W_seq ?_ | refine W_reg ?_ | refine W_regd ?_ | refine W_block ?_ | refine And.intro (by omega) ?_ | simp (maxSteps := 1000000) (disch := omega) only [cA, cB, cC, frz_us, binE, unE, boundE, newsE, blkQ, Nat.reduceEqDiff, Nat.reduceLT, Nat.reduceAdd, ↓reduceIte, reduceCtorEq, Nat.reduceLeDiff, d4] | refine callC_pure (cc) rfl ?_ | refine callC_pure (c2) rfl ?_ | refine callC_pure (c3) rfl ?_ | exact W_ret (RetP_1 (.imm rfl)) | exact W_ret (RetP_c rfl rfl rfl (.imm rfl)))
        refine W_cond rfl (fun h => by cases h) (fun _ => W_skip ?_)
        repeat (first | refine W_seq ?_ | refine W_reg ?_ | refine W_regd ?_ | refine W_block ?_ | refine And.intro (by omega) ?_ | simp (maxSteps := 1000000) (disch := omega) only [cA, cB, cC, frz_us, binE, unE, boundE, newsE, blkQ, Nat.reduceEqDiff, Nat.reduceLT, Nat.reduceAdd, ↓reduceIte, reduceCtorEq, Nat.reduceLeDiff, dk] | refine callC_pure (c5) rfl ?_ | refine callC_pure (c6) rfl ?_ | refine callC_pure (c7) rfl ?_ | exact W_ret (RetP_1 (.imm rfl)) | exact W_ret (RetP_c rfl rfl rfl (.imm rfl)))
        refine W_cond rfl (fun _ => ?_) (fun h => by cases h)
        repeat (first | refine W_seq ?_ | refine W_reg ?_ | refine W_regd ?_ | refine W_block ?_ | refine And.intro (by omega) ?_ | simp (maxSteps := 1000000) (disch := omega) only [cA, cB, cC, frz_us, binE, unE, boundE, newsE, blkQ, Nat.reduceEqDiff, Nat.reduceLT, Nat.reduceAdd, ↓reduceIte, reduceCtorEq, Nat.reduceLeDiff, ek] | refine callC_pure (c8) rfl ?_ | refine callC_pure (m1) rfl ?_ | exact W_ret (RetP_1 (.imm rfl)) | exact W_ret (RetP_c rfl rfl rfl (.imm rfl)))
        exact W_ret (RetP_3 (.imm rfl) (.imm rfl) (.imm rfl))
    · have dk : decide (k < 0) = false := decide_eq_false hk0
      rw [if_neg hk0]
      have ek : k = (k.natAbs : Int) := by omega
      generalize k.natAbs = kn at *
      subst ek
      cases pt
      · repeat (first | refine W_seq ?_ | refine W_reg ?_ | refine W_regd ?_ | refine W_block ?_ | refine And.intro (by omega) ?_ | simp (maxSteps := 1000000) (disch := omega) only [cA, cB, cC, frz_us, binE, unE, boundE, newsE, blkQ, Nat.reduceEqDiff, Nat.reduceLT, Nat.reduceAdd, ↓reduceIte, reduceCtorEq, Nat.reduceLeDiff, d4] | refine callC_pure (cc) rfl ?_ | refine callC_pure (c2) rfl ?_ | refine callC_pure (c3) rfl ?_ | exact W_ret (RetP_1 (.imm rfl)) | exact W_ret (RetP_c rfl rfl rfl (.imm rfl)))
        refine W_cond rfl (fun h => by cases h) (fun _ => W_skip ?_)
        repeat (first | refine W_seq ?_ | refine W_reg ?_ | refine W_regd ?_ | refine W_block ?_ | refine And.intro (by omega) ?_ | simp (maxSteps := 1000000) (disch := omega) only [cA, cB, cC, frz_us, binE, unE, boundE, newsE, blkQ, Nat.reduceEqDiff, Nat.reduceLT, Nat.reduceAdd, ↓reduceIte, reduceCtorEq, Nat.reduceLeDiff, dk] | refine callC_pure (c5) rfl ?_ | refine callC_pure (c6) rfl ?_ | refine callC_pure (c7) rfl ?_ | exact W_ret (RetP_1 (.imm rfl)) | exact W_ret (RetP_c rfl rfl rfl (.imm rfl)))
        refine W_cond rfl (fun h => by cases h) (fun _ => W_skip ?_)
        repeat (first | refine W_seq ?_ | refine W_reg ?_ | refine W_regd ?_ | refine W_block ?_ | refine And.intro (by omega) ?_ | simp (maxSteps := 1000000) (disch := omega) only [cA, cB, cC, frz_us, binE, unE, boundE, newsE, blkQ, Nat.reduceEqDiff, Nat.reduceLT, Nat.reduceAdd, ↓reduceIte, reduceCtorEq, Nat.reduceLeDiff] | refine callC_pure (c8) rfl ?_ | refine callC_pure (m2) rfl ?_ | exact W_ret (RetP_1 (.imm rfl)) | exact W_ret (RetP_c rfl rfl rfl (.imm rfl)))
        exact W_ret (RetP_3 (.imm rfl) (.imm rfl) (.imm rfl))
      · rw [hP rfl] at c3
        repeat (first | refine W_seq ?_ | refine W_reg ?_ | refine W_regd ?_ | refine W_block ?_ | refine And.intro (by omega) ?_ | simp (maxSteps := 1000000) (disch := omega) only [cA, cB, cC, frz_us, binE, unE, boundE, newsE, blkQ, Nat.reduceEqDiff, Nat.reduceLT, Nat.reduceAdd, ↓reduceIte, reduceCtorEq, Nat.reduceLeDiff, d4] | refine callC_pure (cc) rfl ?_ | refine callC_pure (c2) rfl ?_ | refine callC_pure (c3) rfl ?_ | exact W_ret (RetP_1 (.imm rfl)) | exact W_ret (RetP_c rfl rfl rfl (.imm rfl)))
        refine W_cond rfl (fun h => by cases h) (fun _ => W_skip ?_)
        repeat (first | refine W_seq ?_ | refine W_reg ?_ | refine W_regd ?_ | refine W_block ?_ | refine And.intro (by omega) ?_ | simp (maxSteps := 1000000) (disch := omega) only [cA, cB, cC, frz_us, binE, unE, boundE, newsE, blkQ, Nat.reduceEqDiff, Nat.reduceLT, Nat.reduceAdd, ↓reduceIte, reduceCtorEq, Nat.reduceLeDiff, dk] | refine callC_pure (c5) rfl ?_ | refine callC_pure (c6) rfl ?_ | refine callC_pure (c7) rfl ?_ | exact W_ret (RetP_1 (.imm rfl)) | exact W_ret (RetP_c rfl rfl rfl (.imm rfl)))
        refine W_cond rfl (fun h => by cases h) (fun _ => W_skip ?_)
        repeat (first | refine W_seq ?_ | refine W_reg ?_ | refine W_regd ?_ | refine W_block ?_ | refine And.intro (by omega) ?_ | simp (maxSteps := 1000000) (disch := omega) only [cA, cB, cC, frz_us, binE, unE, boundE, newsE, blkQ, Nat.reduceEqDiff, Nat.reduceLT, Nat.reduceAdd, ↓reduceIte, reduceCtorEq, Nat.reduceLeDiff] | refine callC_pure (c8) rfl ?_ | refine callC_pure (m2) rfl ?_ | exact W_ret (RetP_1 (.imm rfl)) | exact W_ret (RetP_c rfl rfl rfl (.imm rfl)))
        exact W_ret (RetP_3 (.imm rfl) (.imm rfl) (.imm rfl))
  · have ho' : ok = false := by simpa using ho
    rw [ho'] at hdef
    subst ho'
    rw [if_neg ho]
    clear hgood c5 c6 c7 c8
    cases hN : okD N
    · rw [hN] at c2
      repeat (first | refine W_seq ?_ | refine W_reg ?_ | refine W_regd ?_ | refine W_block ?_ | refine And.intro (by omega) ?_ | simp (maxSteps := 1000000) (disch := omega) only [cA, cB, cC, frz_us, binE, unE, boundE, newsE, blkQ, Nat.reduceEqDiff, Nat.reduceLT, Nat.reduceAdd, ↓reduceIte, reduceCtorEq, Nat.reduceLeDiff, d4] | refine callC_pure (cc) rfl ?_ | refine callC_pure (c2) rfl ?_ | refine callC_pure (c3) rfl ?_ | exact W_ret (RetP_1 (.imm rfl)) | exact W_ret (RetP_c rfl rfl rfl (.imm rfl)))
      refine W_cond rfl (fun _ => ?_) (fun h => by cases h)
      repeat (first | refine W_seq ?_ | refine W_reg ?_ | refine W_regd ?_ | refine W_block ?_ | refine And.intro (by omega) ?_ | simp (maxSteps := 1000000) (disch := omega) only [cA, cB, cC, frz_us, binE, unE, boundE, newsE, blkQ, Nat.reduceEqDiff, Nat.reduceLT, Nat.reduceAdd, ↓reduceIte, reduceCtorEq, Nat.reduceLeDiff])
      exact W_ret (RetP_3 (.nils _) (.nils _) (.imm rfl))
    · rw [hN] at c2 hdef
      have hpt : pt = true := by
        cases pt
        · simp at hdef
        · rfl
      subst hpt
      have hF : digs F = false := by simpa using hdef.symm
      rw [hF] at c3
      repeat (first | refine W_seq ?_ | refine W_reg ?_ | refine W_regd ?_ | refine W_block ?_ | refine And.intro (by omega) ?_ | simp (maxSteps := 1000000) (disch := omega) only [cA, cB, cC, frz_us, binE, unE, boundE, newsE, blkQ, Nat.reduceEqDiff, Nat.reduceLT, Nat.reduceAdd, ↓reduceIte, reduceCtorEq, Nat.reduceLeDiff, d4] | refine callC_pure (cc) rfl ?_ | refine callC_pure (c2) rfl ?_ | refine callC_pure (c3) rfl ?_ | exact W_ret (RetP_1 (.imm rfl)) | exact W_ret (RetP_c rfl rfl rfl (.imm rfl)))
      refine W_cond rfl (fun _ => ?_) (fun h => by cases h)
      repeat (first | refine W_seq ?_ | refine W_reg ?_ | refine W_regd ?_ | refine W_block ?_ | refine And.intro (by omega) ?_ | simp (maxSteps := 1000000) (disch := omega) only [cA, cB, cC, frz_us, binE, unE, boundE, newsE, blkQ, Nat.reduceEqDiff, Nat.reduceLT, Nat.reduceAdd, ↓reduceIte, reduceCtorEq, Nat.reduceLeDiff])
      exact W_ret (RetP_3 (.nils _) (.nils _) (.imm rfl))
def unsR (s : List UInt8) : DV :=
  if fi is47 s < s.length then .tup [.sl 1 (us (limbs (pn (s.take (fi is47 s))))), .sl 1 (us (limbs (pn (s.drop (fi is47 s + 1))))), .bool (okD (s.take (fi is47 s)) && (okD (s.drop (fi is47 s + 1)) && decide (0 < pn (s.drop (fi is47 s + 1)))))]
  else pairR (unsP s)
theorem unsR_some {s : List UInt8} {n d : Nat} (h : unsP s = some (n, d)) : unsR s = pairR (some (n, d)) := by
  unfold unsR
  by_cases h1 : fi is47 s < s.length
  · rw [if_pos h1]
    unfold unsP at h
    rw [if_pos h1] at h
    split at h
    · rename_i h2
      simp only [Bool.and_eq_true, decide_eq_true_eq] at h2
      simp only [Option.some.injEq, Prod.mk.injEq] at h
      unfold pn pairR
      simp only [h2.1.1, h2.1.2, if_true, Bool.true_and, h.1, h.2]
      rw [decide_eq_true (by rw [← h.2]; exact h2.2)]
    · cases h
  · rw [if_neg h1, h]
theorem unsR_none {s : List UInt8} (h : unsP s = none) : ∃ x y, unsR s = .tup [.sl 1 (us (limbs x)), .sl 1 (us (limbs y)), .bool false] := by
  unfold unsR
  by_cases h1 : fi is47 s < s.length
  · rw [if_pos h1]
    unfold unsP at h
    rw [if_pos h1] at h
    split at h
    · cases h
    · rename_i h2
      refine ⟨pn (s.take (fi is47 s)), pn (s.drop (fi is47 s + 1)), ?_⟩
      suffices hb : (okD (s.take (fi is47 s)) && (okD (s.drop (fi is47 s + 1)) && decide (0 < pn (s.drop (fi is47 s + 1))))) = false by rw [hb]
      rw [← Bool.not_eq_true]
      intro h3
      refine h2 ?_
      simp only [Bool.and_eq_true, decide_eq_true_eq] at h3 ⊢
      refine ⟨⟨h3.1, h3.2.1⟩, ?_⟩
      have := h3.2.2
      unfold pn at this
      rwa [h3.2.1, if_pos rfl] at this
  · rw [if_neg h1, h]
    exact ⟨0, 0, by rw [limbs_zero]; rfl⟩
set_option maxHeartbeats 2000000 in
theorem q_unsigned_calls (s : List UInt8) (hs : s.length ≤ 900) (h7 : A7 s) : PCalls Tryz.prog 61 [.str s] (unsR s) := by
  have cs := strCut_calls s 47 (by omega)
  rw [isC47] at cs
  unfold cutR at cs
  have hi := fi_le is47 s
  have hj := fi_le isE s
  refine PCalls_of isq_unsigned (by simp [fnq_unsigned]) ?_
  unfold unsR
  by_cases h1 : fi is47 s < s.length
  · rw [if_pos h1] at cs ⊢
    generalize s.take (fi is47 s) = A at *
    generalize s.drop (fi is47 s + 1) = B at *
    have c1 := nParse_pn A
    have c2 := nParse_pn B
    unfold codeq_unsigned
    cases hA : okD A
    · rw [hA] at c1
      simp only [Bool.false_and]
      repeat (first | refine W_seq ?_ | refine W_reg ?_ | refine W_regd ?_ | refine W_block ?_ | refine And.intro (by omega) ?_ | simp (maxSteps := 1000000) (disch := omega) only [cA, cB, cC, frz_us, binE, unE, boundE, newsE, blkQ, Nat.reduceEqDiff, Nat.reduceLT, Nat.reduceAdd, ↓reduceIte, reduceCtorEq, Nat.reduceLeDiff] | refine callC_pure (cs) rfl ?_ | exact W_ret (RetP_1 (.imm rfl)) | exact W_ret (RetP_c rfl rfl rfl (.imm rfl)))
      refine W_cond rfl (fun _ => ?_) (fun h => by cases h)
      repeat (first | refine W_seq ?_ | refine W_reg ?_ | refine W_regd ?_ | refine W_block ?_ | refine And.intro (by omega) ?_ | simp (maxSteps := 1000000) (disch := omega) only [cA, cB, cC, frz_us, binE, unE, boundE, newsE, blkQ, Nat.reduceEqDiff, Nat.reduceLT, Nat.reduceAdd, ↓reduceIte, reduceCtorEq, Nat.reduceLeDiff] | refine callC_pure (c1) rfl ?_ | refine callC_pure (c2) rfl ?_ | exact W_ret (RetP_1 (.imm rfl)) | exact W_ret (RetP_c rfl rfl rfl (.imm rfl)))
      exact W_ret (RetP_3 (.imm rfl) (.imm rfl) (.imm rfl))
    · rw [hA] at c1
      cases hB : okD B
      · rw [hB] at c2
        simp only [Bool.false_and, Bool.true_and]
        repeat (first | refine W_seq ?_ | refine W_reg ?_ | refine W_regd ?_ | refine W_block ?_ | refine And.intro (by omega) ?_ | simp (maxSteps := 1000000) (disch := omega) only [cA, cB, cC, frz_us, binE, unE, boundE, newsE, blkQ, Nat.reduceEqDiff, Nat.reduceLT, Nat.reduceAdd, ↓reduceIte, reduceCtorEq, Nat.reduceLeDiff] | refine callC_pure (cs) rfl ?_ | exact W_ret (RetP_1 (.imm rfl)) | exact W_ret (RetP_c rfl rfl rfl (.imm rfl)))
        refine W_cond rfl (fun _ => ?_) (fun h => by cases h)
        repeat (first | refine W_seq ?_ | refine W_reg ?_ | refine W_regd ?_ | refine W_block ?_ | refine And.intro (by omega) ?_ | simp (maxSteps := 1000000) (disch := omega) only [cA, cB, cC, frz_us, binE, unE, boundE, newsE, blkQ, Nat.reduceEqDiff, Nat.reduceLT, Nat.reduceAdd, ↓reduceIte, reduceCtorEq, Nat.reduceLeDiff] | refine callC_pure (c1) rfl ?_ | refine callC_pure (c2) rfl ?_ | exact W_ret (RetP_1 (.imm rfl)) | exact W_ret (RetP_c rfl rfl rfl (.imm rfl)))
        exact W_ret (RetP_3 (.imm rfl) (.imm rfl) (.imm rfl))
      · rw [hB] at c2
        simp only [Bool.true_and]
        repeat (first | refine W_seq ?_ | refine W_reg ?_ | refine W_regd ?_ | refine W_block ?_ | refine And.intro (by omega) ?_ | simp (maxSteps := 1000000) (disch := omega) only [cA, cB, cC, frz_us, binE, unE, boundE, newsE, blkQ, Nat.reduceEqDiff, Nat.reduceLT, Nat.reduceAdd, ↓reduceIte, reduceCtorEq, Nat.reduceLeDiff] | refine callC_pure (cs) rfl ?_ | exact W_ret (RetP_1 (.imm rfl)) | exact W_ret (RetP_c rfl rfl rfl (.imm rfl)))
        refine W_cond rfl (fun _ => ?_) (fun h => by cases h)
        repeat (first | refine W_seq ?_ | refine W_reg ?_ | refine W_regd ?_ | refine W_block ?_ | refine And.intro (by omega) ?_ | simp (maxSteps := 1000000) (disch := omega) only [cA, cB, cC, frz_us, binE, unE, boundE, newsE, blkQ, Nat.reduceEqDiff, Nat.reduceLT, Nat.reduceAdd, ↓reduceIte, reduceCtorEq, Nat.reduceLeDiff, us_length, len_gt] | refine callC_pure (c1) rfl ?_ | refine callC_pure (c2) rfl ?_ | exact W_ret (RetP_1 (.imm rfl)) | exact W_ret (RetP_c rfl rfl rfl (.imm rfl)))
        exact W_ret (RetP_3 (.imm rfl) (.imm rfl) (.imm rfl))
  · rw [if_neg h1] at cs ⊢
    have ci := indexAnyD s h7 (by omega)
    have hge := idx_ge isE s
    unfold unsP
    rw [if_neg h1]
    have htail := tail_W
    unfold tailU at htail
    unfold codeq_unsigned at htail ⊢
    dsimp only at htail
    by_cases h2 : fi isE s < s.length
    · rw [decide_eq_true h2] at hge
      rw [if_pos h2]
      rw [idx_of h2] at ci hge
      have c3 := q_exponent_calls (s.drop (fi isE s + 1)) (by rw [List.length_drop]; omega)
      have e1 : ((fi isE s : Int) + 1).toNat = fi isE s + 1 := by omega
      have e2 : (s.take s.length).drop (fi isE s + 1) = s.drop (fi isE s + 1) := by rw [List.take_length]
      have e3 : (s.take (fi isE s)).drop 0 = s.take (fi isE s) := rfl
      have ht := htail (s.take (fi isE s)) (expV (s.drop (fi isE s + 1))) true (by rw [List.length_take]; omega)
      unfold expR at c3
      have hex := @expOk_le (s.drop (fi isE s + 1))
      clear htail
      generalize expV (s.drop (fi isE s + 1)) = V at *
      cases h3 : expOk (s.drop (fi isE s + 1))
      · rw [h3, if_neg (by decide)] at c3
        rw [if_neg (by decide)]
        clear ht hex
        repeat (first | refine W_seq ?_ | refine W_reg ?_ | refine W_regd ?_ | refine W_block ?_ | refine And.intro (by omega) ?_ | simp (maxSteps := 1000000) (disch := omega) only [cA, cB, cC, frz_us, binE, unE, boundE, newsE, blkQ, Nat.reduceEqDiff, Nat.reduceLT, Nat.reduceAdd, ↓reduceIte, reduceCtorEq, Nat.reduceLeDiff] | refine callC_pure (cs) rfl ?_ | exact W_ret (RetP_1 (.imm rfl)) | exact W_ret (RetP_c rfl rfl rfl (.imm rfl)))
        refine W_cond rfl (fun h => by cases h) (fun _ => W_skip ?_)
        repeat (first | refine W_seq ?_ | refine W_reg ?_ | refine W_regd ?_ | refine W_block ?_ | refine And.intro (by omega) ?_ | simp (maxSteps := 1000000) (disch := omega) only [cA, cB, cC, frz_us, binE, unE, boundE, newsE, blkQ, Nat.reduceEqDiff, Nat.reduceLT, Nat.reduceAdd, ↓reduceIte, reduceCtorEq, Nat.reduceLeDiff, hge] | refine callC_pure (ci) rfl ?_ | exact W_ret (RetP_1 (.imm rfl)) | exact W_ret (RetP_c rfl rfl rfl (.imm rfl)))
        refine W_cond rfl (fun _ => ?_) (fun h => by cases h)
        repeat (first | refine W_seq ?_ | refine W_reg ?_ | refine W_regd ?_ | refine W_block ?_ | refine And.intro (by omega) ?_ | simp (maxSteps := 1000000) (disch := omega) only [cA, cB, cC, frz_us, binE, unE, boundE, newsE, blkQ, Nat.reduceEqDiff, Nat.reduceLT, Nat.reduceAdd, ↓reduceIte, reduceCtorEq, Nat.reduceLeDiff, e1, e2, List.take_length] | refine callC_pure (c3) rfl ?_ | exact W_ret (RetP_1 (.imm rfl)) | exact W_ret (RetP_c rfl rfl rfl (.imm rfl)))
        refine W_cond rfl (fun _ => ?_) (fun h => by cases h)
        repeat (first | refine W_seq ?_ | refine W_reg ?_ | refine W_regd ?_ | refine W_block ?_ | refine And.intro (by omega) ?_ | simp (maxSteps := 1000000) (disch := omega) only [cA, cB, cC, frz_us, binE, unE, boundE, newsE, blkQ, Nat.reduceEqDiff, Nat.reduceLT, Nat.reduceAdd, ↓reduceIte, reduceCtorEq, Nat.reduceLeDiff])
        exact W_ret (RetP_3 (.nils _) (.nils _) (.imm rfl))
      · rw [h3, if_pos rfl] at c3
        rw [if_pos rfl]
        have ht := ht (hex h3)
        clear hex
        repeat (first | refine W_seq ?_ | refine W_reg ?_ | refine W_regd ?_ | refine W_block ?_ | refine And.intro (by omega) ?_ | simp (maxSteps := 1000000) (disch := omega) only [cA, cB, cC, frz_us, binE, unE, boundE, newsE, blkQ, Nat.reduceEqDiff, Nat.reduceLT, Nat.reduceAdd, ↓reduceIte, reduceCtorEq, Nat.reduceLeDiff] | refine callC_pure (cs) rfl ?_ | exact W_ret (RetP_1 (.imm rfl)) | exact W_ret (RetP_c rfl rfl rfl (.imm rfl)))
        refine W_cond rfl (fun h => by cases h) (fun _ => W_skip ?_)
        repeat (first | refine W_seq ?_ | refine W_reg ?_ | refine W_regd ?_ | refine W_block ?_ | refine And.intro (by omega) ?_ | simp (maxSteps := 1000000) (disch := omega) only [cA, cB, cC, frz_us, binE, unE, boundE, newsE, blkQ, Nat.reduceEqDiff, Nat.reduceLT, Nat.reduceAdd, ↓reduceIte, reduceCtorEq, Nat.reduceLeDiff, hge] | refine callC_pure (ci) rfl ?_ | exact W_ret (RetP_1 (.imm rfl)) | exact W_ret (RetP_c rfl rfl rfl (.imm rfl)))
        refine W_cond rfl (fun _ => ?_) (fun h => by cases h)
        repeat (first | refine W_seq ?_ | refine W_reg ?_ | refine W_regd ?_ | refine W_block ?_ | refine And.intro (by omega) ?_ | simp (maxSteps := 1000000) (disch := omega) only [cA, cB, cC, frz_us, binE, unE, boundE, newsE, blkQ, Nat.reduceEqDiff, Nat.reduceLT, Nat.reduceAdd, ↓reduceIte, reduceCtorEq, Nat.reduceLeDiff, e1, e2, List.take_length] | refine callC_pure (c3) rfl ?_ | exact W_ret (RetP_1 (.imm rfl)) | exact W_ret (RetP_c rfl rfl rfl (.imm rfl)))
        refine W_cond rfl (fun h => by cases h) (fun _ => W_skip ?_)
        refine W_reg ?_
        simp (maxSteps := 1000000) (disch := omega) only [cA, cB, cC, frz_us, binE, unE, boundE, newsE, blkQ, Nat.reduceEqDiff, Nat.reduceLT, Nat.reduceAdd, ↓reduceIte, reduceCtorEq, Nat.reduceLeDiff, e3]
        repeat refine And.intro (by omega) ?_
        refine W_sub ?_ ht
        simp [subF, lk]
    · rw [decide_eq_false h2] at hge
      rw [if_neg h2]
      have ht := htail s 0 false hs (by decide)
      clear htail
      repeat (first | refine W_seq ?_ | refine W_reg ?_ | refine W_regd ?_ | refine W_block ?_ | refine And.intro (by omega) ?_ | simp (maxSteps := 1000000) (disch := omega) only [cA, cB, cC, frz_us, binE, unE, boundE, newsE, blkQ, Nat.reduceEqDiff, Nat.reduceLT, Nat.reduceAdd, ↓reduceIte, reduceCtorEq, Nat.reduceLeDiff] | refine callC_pure (cs) rfl ?_ | exact W_ret (RetP_1 (.imm rfl)) | exact W_ret (RetP_c rfl rfl rfl (.imm rfl)))
      refine W_cond rfl (fun h => by cases h) (fun _ => W_skip ?_)
      repeat (first | refine W_seq ?_ | refine W_reg ?_ | refine W_regd ?_ | refine W_block ?_ | refine And.intro (by omega) ?_ | simp (maxSteps := 1000000) (disch := omega) only [cA, cB, cC, frz_us, binE, unE, boundE, newsE, blkQ, Nat.reduceEqDiff, Nat.reduceLT, Nat.reduceAdd, ↓reduceIte, reduceCtorEq, Nat.reduceLeDiff, hge] | refine callC_pure (ci) rfl ?_ | exact W_ret (RetP_1 (.imm rfl)) | exact W_ret (RetP_c rfl rfl rfl (.imm rfl)))
      refine W_cond rfl (fun h => by cases h) (fun _ => W_skip ?_)
      refine W_sub ?_ ht
      simp [subF, lk]
theorem I_sgn (b : Bool) (n : Nat) : I (sgn b n) = .agg [.bool (b && decide (0 < n)), .sl 1 (us (limbs n))] := by
  unfold I; rw [sgn_lt, sgn_abs]
theorem qParse_calls (l : List UInt8) (hl : l.length ≤ 900) (h7 : A7 (expD l)) : PCalls Tryz.prog 18 [.str l] (resQ (parseQ l)) := by
  have c1 := cutPrefixD l
  have hel : (expD l).length ≤ 900 := by
    unfold expD; split
    · rw [List.length_tail]; omega
    · exact hl
  have c2 := q_unsigned_calls (expD l) hel h7
  rw [parseQ_P]
  refine PCalls_of isqParse (by simp [fnqParse]) ?_
  unfold codeqParse
  cases h : unsP (expD l) with
  | none =>
    obtain ⟨x, y, e⟩ := unsR_none h
    rw [e] at c2
    rw [Option.map_none]
    unfold resQ
    dsimp only
    rw [Q0]
    repeat (first | refine W_seq ?_ | refine W_reg ?_ | refine W_regd ?_ | refine W_block ?_ | refine And.intro (by omega) ?_ | simp (maxSteps := 1000000) (disch := omega) only [cA, cB, cC, frz_us, binE, unE, boundE, newsE, blkQ, Nat.reduceEqDiff, Nat.reduceLT, Nat.reduceAdd, ↓reduceIte, reduceCtorEq, Nat.reduceLeDiff, cS, cT, nbqParse] | refine callC_pure (c1) rfl ?_ | refine callC_pure (c2) rfl ?_ | exact W_ret (RetP_1 (.imm rfl)) | exact W_ret (RetP_c rfl rfl rfl (.imm rfl)))
    refine W_cond rfl (fun _ => ?_) (fun h => by cases h)
    repeat (first | refine W_seq ?_ | refine W_reg ?_ | refine W_regd ?_ | refine W_block ?_ | refine And.intro (by omega) ?_ | simp (maxSteps := 1000000) (disch := omega) only [cA, cB, cC, frz_us, binE, unE, boundE, newsE, blkQ, Nat.reduceEqDiff, Nat.reduceLT, Nat.reduceAdd, ↓reduceIte, reduceCtorEq, Nat.reduceLeDiff, cS, cT, nbqParse])
    exact W_ret (RetP_ct rfl rfl rfl (Exp_bnn _ _ _) (.imm rfl))
  | some p =>
    obtain ⟨n, d⟩ := p
    rw [unsR_some h] at c2
    unfold pairR at c2
    dsimp only at c2
    have hd := unsP_pos h
    obtain ⟨b1, b2⟩ := unsP_len h hel
    rw [Option.map_some]
    unfold resQ
    dsimp only
    have cl := q_lowest_calls (sgn (decide (l.head? = some 45)) n) d (by omega) (by unfold il; rw [sgn_abs]; omega) (by omega)
    rw [I_sgn] at cl
    clear h b1 b2 hel
    by_cases hn : l.head? = some 45
    · rw [decide_eq_true hn] at c1 cl ⊢
      rw [Bool.true_and] at cl
      repeat (first | refine W_seq ?_ | refine W_reg ?_ | refine W_regd ?_ | refine W_block ?_ | refine And.intro (by omega) ?_ | simp (maxSteps := 1000000) (disch := omega) only [cA, cB, cC, frz_us, binE, unE, boundE, newsE, blkQ, Nat.reduceEqDiff, Nat.reduceLT, Nat.reduceAdd, ↓reduceIte, reduceCtorEq, Nat.reduceLeDiff, cS, cT, nbqParse] | refine callC_pure (c1) rfl ?_ | refine callC_pure (c2) rfl ?_ | exact W_ret (RetP_1 (.imm rfl)) | exact W_ret (RetP_c rfl rfl rfl (.imm rfl)))
      refine W_cond rfl (fun h => by cases h) (fun _ => W_skip ?_)
      repeat (first | refine W_seq ?_ | refine W_reg ?_ | refine W_regd ?_ | refine W_block ?_ | refine And.intro (by omega) ?_ | simp (maxSteps := 1000000) (disch := omega) only [cA, cB, cC, frz_us, binE, unE, boundE, newsE, blkQ, Nat.reduceEqDiff, Nat.reduceLT, Nat.reduceAdd, ↓reduceIte, reduceCtorEq, Nat.reduceLeDiff, Q, cS, cT, nbqParse, us_length, len_gt] | refine callC_pure (cl) rfl ?_ | exact W_ret (RetP_1 (.imm rfl)) | exact W_ret (RetP_c rfl rfl rfl (.imm rfl)))
      exact W_ret (RetP_ct rfl rfl rfl (.imm rfl) (.imm rfl))
    · rw [decide_eq_false hn] at c1 cl ⊢
      rw [Bool.false_and] at cl
      repeat (first | refine W_seq ?_ | refine W_reg ?_ | refine W_regd ?_ | refine W_block ?_ | refine And.intro (by omega) ?_ | simp (maxSteps := 1000000) (disch := omega) only [cA, cB, cC, frz_us, binE, unE, boundE, newsE, blkQ, Nat.reduceEqDiff, Nat.reduceLT, Nat.reduceAdd, ↓reduceIte, reduceCtorEq, Nat.reduceLeDiff, cS, cT, nbqParse] | refine callC_pure (c1) rfl ?_ | refine callC_pure (c2) rfl ?_ | exact W_ret (RetP_1 (.imm rfl)) | exact W_ret (RetP_c rfl rfl rfl (.imm rfl)))
      refine W_cond rfl (fun h => by cases h) (fun _ => W_skip ?_)
      repeat (first | refine W_seq ?_ | refine W_reg ?_ | refine W_regd ?_ | refine W_block ?_ | refine And.intro (by omega) ?_ | simp (maxSteps := 1000000) (disch := omega) only [cA, cB, cC, frz_us, binE, unE, boundE, newsE, blkQ, Nat.reduceEqDiff, Nat.reduceLT, Nat.reduceAdd, ↓reduceIte, reduceCtorEq, Nat.reduceLeDiff, Q, cS, cT, nbqParse, us_length, len_gt] | refine callC_pure (cl) rfl ?_ | exact W_ret (RetP_1 (.imm rfl)) | exact W_ret (RetP_c rfl rfl rfl (.imm rfl)))
      exact W_ret (RetP_ct rfl rfl rfl (.imm rfl) (.imm rfl))
end Go.Proofs.YteiagmmfapbaiaaGreatDoor
