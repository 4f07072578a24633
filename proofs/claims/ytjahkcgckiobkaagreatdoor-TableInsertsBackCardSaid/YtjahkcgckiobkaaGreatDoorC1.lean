/- Lemmas of the walk; no conditions beyond those that each states. -/
import Derived.Test.YtjahkcgckiobkaaGreatDoorProg
import Derived.Shelf.Strings.Trim
import Derived.Shelf.Small.Utf8
import Derived.Shelf.Small.Bits
import Derived.Shelf.Small.Strs
import Derived.Shelf.Small.Wraps
import Derived.Shelf.Strings.Search1
import Derived.Shelf.Strings.Search2
import Derived.Shelf.Strings.Cut
import Derived.Shelf.LaysM
import Derived.Shelf.Strings.Shaped
import Derived.Shelf.Strings.Prefix
import Derived.Shelf.Unicode.Decode
import Derived.Shelf.Strings.Runes
import Derived.Shelf.Strings.IndexAny
import Derived.Shelf.Strings.AsciiSet
import Derived.Shelf.Strings.IndexAnyAll
import Derived.Shelf.Unicode.DecodeSlow
import Derived.Shelf.Unicode.DecodeAny
import Derived.Shelf.Slices.Turned
import Derived.Ground.Names2Prog
import Derived.Shelf.Slices.Clone
import Derived.Test.YtjahkcgckiobkaaGreatDoorD2
set_option linter.unusedSimpArgs false
set_option linter.unusedVariables false
set_option linter.unnecessarySimpa false
set_option maxHeartbeats 4000000
namespace Go.Proofs.YtjahkcgckiobkaaGreatDoor
open Go Go.Dat Go.Proofs
noncomputable def fnuSame : FnD := ⟨Tryz.prog,[0,1,2,3,4,5,6,7,21,26,66],[2000002,2000003,4000030,4000033,4000035,4000038],67,false⟩
def codeuSame : DC := (.seq (.reg [ox 2 (.boxi (.x 0)),ox 3 (.boxi (.x 1)),ox 4 (.mv (.c (.bool false)))]) (.seq (.seq (.reg [ot 8 (.fad 0 (.x 2)),ot 9 (.ld (.t 8)),ot 10 (.fad 0 (.x 3)),ot 11 (.ld (.t 10)),ot 12 (.bin .neq (.t 9) (.t 11)),ot 13 (.mv (.t 12)),og 14 (.fad 1 (.x 2)) 13 false,og 15 (.ld (.t 14)) 13 false,og 16 (.len 4 (.t 15)) 13 false,og 17 (.fad 1 (.x 3)) 13 false,og 18 (.ld (.t 17)) 13 false,og 19 (.len 4 (.t 18)) 13 false,og 20 (.bin .neq (.t 16) (.t 19)) 13 false,ox 21 (.pick (.t 13) (.c (.bool true)) (.t 20))]) (.cond (.x 21) (.seq (.reg [ox 4 (.mv (.c (.bool false)))]) .ret) .skip)) (.seq (.seq (.reg [ox 5 (.mv (oi 0))]) (.block 0 (.loop (.seq (.seq (.reg [om 22 5,ot 23 (.fad 1 (.x 2)),ot 24 (.ld (.t 23)),ot 25 (.len 4 (.t 24)),ox 26 (.bin .lss (.t 22) (.t 25))]) (.cond (.x 26) .skip (.exit 0))) (.seq (.block 1 (.seq (.regd [ot 29 (.fad 1 (.x 2)),ot 30 (.lde (.t 29)),om 31 5,ot 32 (.iad 4 (.t 30) (.t 31)),ot 33 (.ldne 4 (.t 32)),ot 34 (.fad 1 (.x 3)),ot 35 (.lde (.t 34)),om 36 5,ot 37 (.iad 4 (.t 35) (.t 36)),ot 38 (.ldne 4 (.t 37)),ox 6 (.alloc [(.str []),(.int .i64 0),.nils,.nils]),ox 7 (.alloc [(.str []),(.int .i64 0),.nils,.nils]),on (.stn 4 (.x 6) (.t 33)),on (.stn 4 (.x 7) (.t 38))]) (.seq (.reg [ot 39 (.fad 0 (.x 6)),ot 40 (.ld (.t 39)),ot 41 (.fad 0 (.x 7)),ot 42 (.ld (.t 41)),ot 43 (.bin .neq (.t 40) (.t 42)),ot 44 (.mv (.t 43)),og 45 (.fad 1 (.x 6)) 44 false,og 46 (.ld (.t 45)) 44 false,og 47 (.fad 1 (.x 7)) 44 false,og 48 (.ld (.t 47)) 44 false,og 49 (.bin .neq (.t 46) (.t 48)) 44 false,ot 50 (.pick (.t 44) (.c (.bool true)) (.t 49)),ot 51 (.mv (.t 50)),og 52 (.fad 2 (.x 6)) 51 false,og 53 (.ld (.t 52)) 51 false,og 54 (.fad 2 (.x 7)) 51 false,og 55 (.ld (.t 54)) 51 false,og 56 (.call 50 [.t 53,.t 55]) 51 false,og 57 (.un .not (.t 56)) 51 false,ot 58 (.pick (.t 51) (.c (.bool true)) (.t 57)),ot 59 (.mv (.t 58)),og 60 (.fad 3 (.x 6)) 59 false,og 61 (.ld (.t 60)) 59 false,og 62 (.fad 3 (.x 7)) 59 false,og 63 (.ld (.t 62)) 59 false,og 64 (.call 37 [.t 61,.t 63]) 59 false,og 65 (.un .not (.t 64)) 59 false,ox 66 (.pick (.t 59) (.c (.bool true)) (.t 65))]) (.cond (.x 66) (.seq (.reg [ox 4 (.mv (.c (.bool false)))]) .ret) .skip)))) (.reg [om 27 5,ot 28 (.bin .add (.t 27) (oi 1)),ow 5 28])))))) (.seq (.reg [ox 4 (.mv (.c (.bool true)))]) .ret))))
def resuSame : List RV := [.t 4]
theorem isuSame : IsFn fnuSame 15 codeuSame resuSame := .k Tryz.func15 rfl (by kernel_rfl)
noncomputable def fntName : FnD := ⟨Tryz.prog,[0,2,4,21,23,24,25,26,48],[],50,false⟩
def codetName : DC := (.seq (.reg [ox 2 (.mv (.c (.bool false)))]) (.seq (.seq (.reg [om 5 0,ot 6 (.bin .eql (.t 5) (.c (.str []))),ot 7 (.mv (.t 6)),og 8 (.mv (.x 0)) 7 false,og 9 (.lenS (.t 8)) 7 false,og 10 (.bin .gtr (.t 9) (oi 32)) 7 false,ot 11 (.pick (.t 7) (.c (.bool true)) (.t 10)),ot 12 (.mv (.t 11)),og 13 (.mv (.x 0)) 12 false,og 14 (.idx (.t 13) (oi 0)) 12 false,og 15 (.call 62 [.t 14]) 12 false,og 16 (.un .not (.t 15)) 12 false,ot 17 (.pick (.t 12) (.c (.bool true)) (.t 16)),ot 18 (.mv (.t 17)),og 19 (.mv (.x 0)) 18 false,og 20 (.bin .eql (.t 19) (.c (.str [112,111,119,101,114]))) 18 false,ox 21 (.pick (.t 18) (.c (.bool true)) (.t 20))]) (.cond (.x 21) (.seq (.reg [ox 2 (.mv (.c (.bool false)))]) .ret) .skip)) (.seq (.seq (.reg [om 22 0,ox 23 (.s2b (.t 22)),ox 24 (.len 1 (.x 23)),ox 25 (.mv (oi 0))]) (.block 0 (.loop (.seq (.reg [ox 26 (.bin .lss (.x 25) (.x 24))]) (.seq (.cond (.x 26) .skip (.exit 0)) (.seq (.block 1 (.seq (.reg [ot 27 (.iad 1 (.x 23) (.x 25)),ot 28 (.ld (.t 27)),ow 4 28]) (.seq (.reg [om 29 4,ot 30 (.call 62 [.t 29]),ot 31 (.un .not (.t 30)),ot 32 (.mv (.t 31)),og 33 (.mv (.x 4)) 32 true,og 34 (.bin .geq (.t 33) (.c (.int .u8 48))) 32 true,og 35 (.mv (.t 34)) 32 true,og 36 (.mv (.x 4)) 35 true,og 37 (.bin .leq (.t 36) (.c (.int .u8 57))) 35 true,og 38 (.pick (.t 35) (.t 37) (.c (.bool false))) 32 true,og 39 (.un .not (.t 38)) 32 true,ot 40 (.pick (.t 32) (.t 39) (.c (.bool false))),ot 41 (.mv (.t 40)),og 42 (.mv (.x 4)) 41 true,og 43 (.bin .neq (.t 42) (.c (.int .u8 95))) 41 true,ot 44 (.pick (.t 41) (.t 43) (.c (.bool false))),ot 45 (.mv (.t 44)),og 46 (.mv (.x 4)) 45 true,og 47 (.bin .neq (.t 46) (.c (.int .u8 46))) 45 true,ox 48 (.pick (.t 45) (.t 47) (.c (.bool false)))]) (.cond (.x 48) (.seq (.reg [ox 2 (.mv (.c (.bool false)))]) .ret) .skip)))) (.reg [ot 49 (.bin .add (.x 25) (oi 1)),ow 25 49]))))))) (.seq (.reg [ox 2 (.mv (.c (.bool true)))]) .ret))))
def restName : List RV := [.t 2]
theorem istName : IsFn fntName 23 codetName restName := .k Tryz.func23 rfl (by kernel_rfl)
noncomputable def fntDelete : FnD := ⟨Tryz.prog,[0,1,2,3,4,5,6,11],[],27,false⟩
def codetDelete : DC := (.seq (.reg [ox 2 (.box (.x 0)),ox 3 (.box (.x 1)),ox 4 (.alloc [(.int .i64 0),.nils]),ox 5 (.mv (oi 0))]) (.seq (.block 0 (.seq (.reg [ot 7 (.ldn 2 (.x 2)),ot 8 (.call 21 [.t 7]),ot 9 (.un .not (.t 8)),ow 6 9]) (.cond (.x 6) (.seq (.reg [ot 10 (.build [(.int .i64 0),.nils] []),on (.stn 2 (.x 4) (.t 10)),ox 5 (.mv (oi 4))]) .ret) (.seq (.reg [ot 12 (.ld (.x 3)),ot 13 (.bin .lss (.t 12) (oi 0)),ot 14 (.mv (.t 13)),og 15 (.ld (.x 3)) 14 false,og 16 (.fad 0 (.x 2)) 14 false,og 17 (.ld (.t 16)) 14 false,og 18 (.bin .geq (.t 15) (.t 17)) 14 false,ot 19 (.pick (.t 14) (.c (.bool true)) (.t 18)),ow 11 19]) (.cond (.x 11) (.seq (.reg [ot 20 (.build [(.int .i64 0),.nils] []),on (.stn 2 (.x 4) (.t 20)),ox 5 (.mv (oi 1))]) .ret) .skip))))) (.seq (.reg [ot 21 (.ldn 2 (.x 2)),ot 22 (.fad 0 (.x 2)),ot 23 (.ld (.t 22)),ot 24 (.bin .sub (.t 23) (oi 1)),ot 25 (.mkf 82 [.x 3]),ot 26 (.call 76 [.t 21,.t 24,.t 25]),on (.stn 2 (.x 4) (.t 26)),ox 5 (.mv (oi 0))]) .ret)))
def restDelete : List RV := [.cn 2 4, .t 5]
theorem istDelete : IsFn fntDelete 35 codetDelete restDelete := .k Tryz.func35 rfl (by kernel_rfl)
noncomputable def fnpFraction : FnD := ⟨Tryz.prog,[0,1,4],[],10,false⟩
def codepFraction : DC := (.seq (.reg [ox 4 (.alloc [(.bool false),.nils,.nils])]) (.seq (.reg [om 5 0,ot 6 (.call 85 [.t 5]),om 7 1,ot 8 (.call 85 [.t 7]),ot 9 (.call 53 [.t 6,.t 8]),on (.stn 3 (.x 4) (.t 9))]) .ret))
def respFraction : List RV := [.cn 3 4]
theorem ispFraction : IsFn fnpFraction 39 codepFraction respFraction := .k Tryz.func39 rfl (by kernel_rfl)
noncomputable def fntBuild1 : FnD := ⟨Tryz.prog,[0,1,2],[],6,false⟩
def codetBuild1 : DC := (.seq (.reg [ox 1 (.box (.x 0)),ox 2 (.mv (.c (.bool false)))]) (.seq (.reg [ot 3 (.ldn 6 (.x 1)),ot 4 (.call 44 [.t 3]),ot 5 (.un .not (.t 4)),ow 2 5]) .ret))
def restBuild1 : List RV := [.t 2]
theorem istBuild1 : IsFn fntBuild1 43 codetBuild1 restBuild1 := .k Tryz.func43 rfl (by kernel_rfl)
noncomputable def fntBuild2 : FnD := ⟨Tryz.prog,[0,1,2],[],6,false⟩
def codetBuild2 : DC := (.seq (.reg [ox 1 (.box (.x 0)),ox 2 (.mv (.c (.bool false)))]) (.seq (.reg [ot 3 (.fad 1 (.x 1)),ot 4 (.ld (.t 3)),ot 5 (.bin .eql (.t 4) (oi 3)),ow 2 5]) .ret))
def restBuild2 : List RV := [.t 2]
theorem istBuild2 : IsFn fntBuild2 47 codetBuild2 restBuild2 := .k Tryz.func47 rfl (by kernel_rfl)
noncomputable def fnsSign : FnD := ⟨Tryz.prog,[0,1,2,5,8],[],13,false⟩
def codesSign : DC := (.seq (.reg [ox 1 (.box (.x 0)),ox 2 (.mv (oi 0))]) (.seq (.reg [ot 3 (.ldn 2 (.x 1)),ot 4 (.call 96 [.t 3]),on (.stn 2 (.x 1) (.t 4))]) (.seq (.block 0 (.seq (.reg [ot 6 (.fad 0 (.x 1)),ot 7 (.ld (.t 6)),ow 5 7]) (.cond (.x 5) (.seq (.reg [ox 2 (.mv (oi (-1)))]) .ret) (.seq (.reg [ot 9 (.fad 1 (.x 1)),ot 10 (.ld (.t 9)),ot 11 (.len 1 (.t 10)),ot 12 (.bin .gtr (.t 11) (oi 0)),ow 8 12]) (.cond (.x 8) (.seq (.reg [ox 2 (.mv (oi 1))]) .ret) .skip))))) (.seq (.reg [ox 2 (.mv (oi 0))]) .ret))))
def ressSign : List RV := [.t 2]
theorem nbsSign : fnsSign.nb = 0 := rfl
theorem issSign : IsFn fnsSign 51 codesSign ressSign := .k Tryz.func51 rfl (by kernel_rfl)
noncomputable def fnslCFCol : FnD := ⟨Tryz.prog,[0,1,4],[],9,false⟩
def codeslCFCol : DC := (.seq (.reg [ox 4 (.mv (.c (.bool false)))]) (.seq (.reg [om 5 0,om 6 1,ot 7 (.call 92 [.t 5,.t 6]),ot 8 (.bin .geq (.t 7) (oi 0)),ow 4 8]) .ret))
def resslCFCol : List RV := [.t 4]
theorem isslCFCol : IsFn fnslCFCol 59 codeslCFCol resslCFCol := .k Tryz.func59 rfl (by kernel_rfl)
noncomputable def fnuLetter : FnD := ⟨Tryz.prog,[0,2],[],17,false⟩
def codeuLetter : DC := (.seq (.reg [ox 2 (.mv (.c (.bool false)))]) (.seq (.reg [om 3 0,ot 4 (.bin .geq (.t 3) (.c (.int .u8 97))),ot 5 (.mv (.t 4)),og 6 (.mv (.x 0)) 5 true,og 7 (.bin .leq (.t 6) (.c (.int .u8 122))) 5 true,ot 8 (.pick (.t 5) (.t 7) (.c (.bool false))),ot 9 (.mv (.t 8)),og 10 (.mv (.x 0)) 9 false,og 11 (.bin .geq (.t 10) (.c (.int .u8 65))) 9 false,og 12 (.mv (.t 11)) 9 false,og 13 (.mv (.x 0)) 12 true,og 14 (.bin .leq (.t 13) (.c (.int .u8 90))) 12 true,og 15 (.pick (.t 12) (.t 14) (.c (.bool false))) 9 false,ot 16 (.pick (.t 9) (.c (.bool true)) (.t 15)),ow 2 16]) .ret))
def resuLetter : List RV := [.t 2]
theorem isuLetter : IsFn fnuLetter 63 codeuLetter resuLetter := .k Tryz.func63 rfl (by kernel_rfl)
noncomputable def fnu_column : FnD := ⟨Tryz.prog,[0,1,2,4,5,6,38,43,56,59,69],[],70,false⟩
def codeu_column : DC := (.seq (.reg [ox 2 (.box (.x 0)),ox 4 (.mv (.c (.bool false)))]) (.seq (.seq (.reg [ot 7 (.fad 1 (.x 2)),ot 8 (.ld (.t 7)),ot 9 (.bin .neq (.t 8) (oi 1)),ot 10 (.mv (.t 9)),og 11 (.fad 1 (.x 2)) 10 true,og 12 (.ld (.t 11)) 10 true,og 13 (.bin .neq (.t 12) (oi 2)) 10 true,ot 14 (.pick (.t 10) (.t 13) (.c (.bool false))),ot 15 (.mv (.t 14)),og 16 (.fad 3 (.x 2)) 15 false,og 17 (.ld (.t 16)) 15 false,og 18 (.len 5 (.t 17)) 15 false,og 19 (.mv (.x 1)) 15 false,og 20 (.bin .neq (.t 18) (.t 19)) 15 false,ot 21 (.pick (.t 15) (.c (.bool true)) (.t 20)),ot 22 (.mv (.t 21)),og 23 (.fad 2 (.x 2)) 22 false,og 24 (.ld (.t 23)) 22 false,og 25 (.len 1 (.t 24)) 22 false,og 26 (.bin .gtr (.t 25) (oi 32)) 22 false,ot 27 (.pick (.t 22) (.c (.bool true)) (.t 26)),ot 28 (.mv (.t 27)),og 29 (.fad 1 (.x 2)) 28 false,og 30 (.ld (.t 29)) 28 false,og 31 (.bin .eql (.t 30) (oi 1)) 28 false,og 32 (.mv (.t 31)) 28 false,og 33 (.fad 2 (.x 2)) 32 true,og 34 (.ld (.t 33)) 32 true,og 35 (.len 1 (.t 34)) 32 true,og 36 (.bin .gtr (.t 35) (oi 0)) 32 true,og 37 (.pick (.t 32) (.t 36) (.c (.bool false))) 28 false,ox 38 (.pick (.t 28) (.c (.bool true)) (.t 37))]) (.cond (.x 38) (.seq (.reg [ox 4 (.mv (.c (.bool false)))]) .ret) .skip)) (.seq (.seq (.reg [ox 5 (.mv (oi 0))]) (.block 0 (.loop (.seq (.seq (.reg [om 39 5,ot 40 (.fad 2 (.x 2)),ot 41 (.ld (.t 40)),ot 42 (.len 1 (.t 41)),ox 43 (.bin .lss (.t 39) (.t 42))]) (.cond (.x 43) .skip (.exit 0))) (.seq (.block 1 (.seq (.regd [ot 46 (.fad 2 (.x 2)),ot 47 (.ld (.t 46)),om 48 5,ot 49 (.slc 1 (.t 47) none (some (.t 48))),ot 50 (.fad 2 (.x 2)),ot 51 (.ld (.t 50)),om 52 5,ot 53 (.iad 1 (.t 51) (.t 52)),ot 54 (.ld (.t 53)),ot 55 (.call 94 [.t 49,.t 54]),ox 56 (.bin .geq (.t 55) (oi 0))]) (.cond (.x 56) (.seq (.reg [ox 4 (.mv (.c (.bool false)))]) .ret) .skip))) (.reg [om 44 5,ot 45 (.bin .add (.t 44) (oi 1)),ow 5 45])))))) (.seq (.seq (.reg [ox 6 (.mv (oi 0))]) (.block 2 (.loop (.seq (.seq (.reg [om 57 6,om 58 1,ox 59 (.bin .lss (.t 57) (.t 58))]) (.cond (.x 59) .skip (.exit 2))) (.seq (.block 3 (.seq (.regd [ot 62 (.ldn 4 (.x 2)),ot 63 (.fad 3 (.x 2)),ot 64 (.ld (.t 63)),om 65 6,ot 66 (.iad 5 (.t 64) (.t 65)),ot 67 (.ldn 5 (.t 66)),ot 68 (.call 107 [.t 62,.t 67]),ox 69 (.un .not (.t 68))]) (.cond (.x 69) (.seq (.reg [ox 4 (.mv (.c (.bool false)))]) .ret) .skip))) (.reg [om 60 6,ot 61 (.bin .add (.t 60) (oi 1)),ow 6 61])))))) (.seq (.reg [ox 4 (.mv (.c (.bool true)))]) .ret)))))
def resu_column : List RV := [.t 4]
theorem isu_column : IsFn fnu_column 71 codeu_column resu_column := .k Tryz.func71 rfl (by kernel_rfl)
noncomputable def fnslIFField : FnD := ⟨Tryz.prog,[0,1,4,5,7,8,9,16],[],19,false⟩
def codeslIFField : DC := (.seq (.reg [ox 4 (.mv (oi 0))]) (.seq (.seq (.reg [om 6 0,ox 7 (.len 6 (.t 6)),ox 8 (.mv (oi 0))]) (.block 0 (.loop (.seq (.reg [ox 9 (.bin .lss (.x 8) (.x 7))]) (.seq (.cond (.x 9) .skip (.exit 0)) (.seq (.block 1 (.seq (.reg [om 10 8,ow 5 10]) (.seq (.reg [om 11 1,om 12 0,om 13 5,ot 14 (.iad 6 (.t 12) (.t 13)),ot 15 (.ldn 6 (.t 14)),ox 16 (.callv (.t 11) [.t 15])]) (.cond (.x 16) (.seq (.reg [om 17 5,ow 4 17]) .ret) .skip)))) (.reg [ot 18 (.bin .add (.x 8) (oi 1)),ow 8 18]))))))) (.seq (.reg [ox 4 (.mv (oi (-1)))]) .ret)))
def resslIFField : List RV := [.t 4]
theorem isslIFField : IsFn fnslIFField 87 codeslIFField resslIFField := .k Tryz.func87 rfl (by kernel_rfl)
noncomputable def fnqMul : FnD := ⟨Tryz.prog,[0,1,2,3,4,18],[],36,false⟩
def codeqMul : DC := (.seq (.reg [ox 2 (.box (.x 0)),ox 3 (.box (.x 1)),ox 4 (.alloc [(.bool false),.nils,.nils])]) (.seq (.regd [ot 5 (.ldn 3 (.x 2)),ot 6 (.call 120 [.t 5]),ot 7 (.ldn 3 (.x 3)),ot 8 (.call 120 [.t 7]),on (.stn 3 (.x 2) (.t 6)),on (.stn 3 (.x 3) (.t 8))]) (.seq (.seq (.reg [ot 9 (.fad 2 (.x 2)),ot 10 (.ld (.t 9)),ot 11 (.len 1 (.t 10)),ot 12 (.bin .eql (.t 11) (oi 0)),ot 13 (.mv (.t 12)),og 14 (.fad 2 (.x 3)) 13 true,og 15 (.ld (.t 14)) 13 true,og 16 (.len 1 (.t 15)) 13 true,og 17 (.bin .eql (.t 16) (oi 0)) 13 true,ox 18 (.pick (.t 13) (.t 17) (.c (.bool false)))]) (.cond (.x 18) (.seq (.reg [ot 19 (.fad 0 (.x 2)),ot 20 (.ldn 2 (.t 19)),ot 21 (.fad 0 (.x 3)),ot 22 (.ldn 2 (.t 21)),ot 23 (.call 124 [.t 20,.t 22]),ot 24 (.build [(.bool false),.nils,.nils] [(0,2,.t 23)]),on (.stn 3 (.x 4) (.t 24))]) .ret) .skip)) (.seq (.regd [ot 25 (.fad 0 (.x 2)),ot 26 (.ldn 2 (.t 25)),ot 27 (.fad 0 (.x 3)),ot 28 (.ldn 2 (.t 27)),ot 29 (.call 124 [.t 26,.t 28]),ot 30 (.ldn 3 (.x 2)),ot 31 (.call 126 [.t 30]),ot 32 (.ldn 3 (.x 3)),ot 33 (.call 126 [.t 32]),ot 34 (.call 125 [.t 31,.t 33]),ot 35 (.call 123 [.t 29,.t 34]),on (.stn 3 (.x 4) (.t 35))]) .ret))))
def resqMul : List RV := [.cn 3 4]
theorem nbqMul : fnqMul.nb = 0 := rfl
theorem isqMul : IsFn fnqMul 91 codeqMul resqMul := .k Tryz.func91 rfl (by kernel_rfl)
noncomputable def fnsGcd : FnD := ⟨Tryz.prog,[0,1,2,3,4],[],12,false⟩
def codesGcd : DC := (.seq (.reg [ox 2 (.box (.x 0)),ox 3 (.box (.x 1)),ox 4 (.mv (.c .nils))]) (.seq (.regd [ot 5 (.ldn 2 (.x 2)),ot 6 (.call 96 [.t 5]),ot 7 (.fld 1 (.t 6)),ot 8 (.ldn 2 (.x 3)),ot 9 (.call 96 [.t 8]),ot 10 (.fld 1 (.t 9)),ot 11 (.call 129 [.t 7,.t 10]),ow 4 11]) .ret))
def ressGcd : List RV := [.t 4]
theorem nbsGcd : fnsGcd.nb = 0 := rfl
theorem issGcd : IsFn fnsGcd 99 codesGcd ressGcd := .k Tryz.func99 rfl (by kernel_rfl)
noncomputable def fnuFits : FnD := ⟨Tryz.prog,[0,1,2,3,4,5,10,19],[],45,false⟩
def codeuFits : DC := (.seq (.reg [ox 2 (.box (.x 0)),ox 3 (.box (.x 1)),ox 4 (.mv (.c (.bool false)))]) (.seq (.reg [ot 6 (.fad 1 (.x 3)),ot 7 (.ldn 3 (.t 6)),ot 8 (.build [(.bool false),.nils,.nils] []),ot 9 (.call 20 [.t 7,.t 8]),ow 5 9]) (.seq (.block 0 (.seq (.reg [ot 11 (.fad 0 (.x 3)),ot 12 (.ld (.t 11)),ow 10 12]) (.cond (.x 10) (.seq (.reg [om 13 5,ot 14 (.mv (.t 13)),og 15 (.fad 4 (.x 3)) 14 true,og 16 (.ld (.t 15)) 14 true,og 17 (.bin .eql (.t 16) (oi 0)) 14 true,ot 18 (.pick (.t 14) (.t 17) (.c (.bool false))),ow 4 18]) .ret) (.seq (.reg [ot 20 (.fad 1 (.x 2)),ot 21 (.ld (.t 20)),ot 22 (.bin .eql (.t 21) (oi 1)),ow 19 22]) (.cond (.x 19) (.seq (.reg [ot 23 (.fad 1 (.x 3)),ot 24 (.ldn 3 (.t 23)),ot 25 (.call 93 [.t 24]),ot 26 (.mv (.t 25)),og 27 (.fad 4 (.x 3)) 26 true,og 28 (.ld (.t 27)) 26 true,og 29 (.bin .eql (.t 28) (oi 0)) 26 true,ot 30 (.pick (.t 26) (.t 29) (.c (.bool false))),ow 4 30]) .ret) .skip))))) (.seq (.reg [om 31 5,ot 32 (.mv (.t 31)),og 33 (.fad 4 (.x 3)) 32 true,og 34 (.ld (.t 33)) 32 true,og 35 (.bin .geq (.t 34) (oi 0)) 32 true,ot 36 (.pick (.t 32) (.t 35) (.c (.bool false))),ot 37 (.mv (.t 36)),og 38 (.fad 4 (.x 3)) 37 true,og 39 (.ld (.t 38)) 37 true,og 40 (.fad 2 (.x 2)) 37 true,og 41 (.ld (.t 40)) 37 true,og 42 (.len 1 (.t 41)) 37 true,og 43 (.bin .lss (.t 39) (.t 42)) 37 true,ot 44 (.pick (.t 37) (.t 43) (.c (.bool false))),ow 4 44]) .ret))))
def resuFits : List RV := [.t 4]
theorem isuFits : IsFn fnuFits 107 codeuFits resuFits := .k Tryz.func107 rfl (by kernel_rfl)
noncomputable def fnrAdd : FnD := ⟨Tryz.prog,[0,1,4,5,6,7,8,19],[],40,false⟩
def coderAdd : DC := (.seq (.reg [ox 4 (.mv (.c .nils))]) (.seq (.reg [om 9 0,ot 10 (.call 97 [.t 9]),om 11 1,ot 12 (.call 97 [.t 11]),ow 0 10,ow 1 12]) (.seq (.reg [ox 5 (.mv (.c .nils))]) (.seq (.reg [ox 6 (.mv (.c (.int .u64 0)))]) (.seq (.seq (.reg [ox 7 (.mv (oi 0))]) (.block 0 (.loop (.seq (.seq (.reg [om 13 7,om 14 0,ot 15 (.len 1 (.t 14)),om 16 1,ot 17 (.len 1 (.t 16)),ot 18 (.max2 (.t 15) (.t 17)),ox 19 (.bin .leq (.t 13) (.t 18))]) (.cond (.x 19) .skip (.exit 0))) (.seq (.block 1 (.seq (.reg [om 22 0,om 23 7,ot 24 (.call 145 [.t 22,.t 23]),om 25 1,om 26 7,ot 27 (.call 145 [.t 25,.t 26]),ot 28 (.bin .add (.t 24) (.t 27)),om 29 6,ot 30 (.bin .add (.t 28) (.t 29)),ow 8 30]) (.reg [om 31 5,om 32 8,ot 33 (.conv .u32 (.t 32)),ot 34 (.bsl 1 [(.int .u32 0)] [(0,1,.t 33)]),ot 35 (.app 127 1 4 (.t 31) (.t 34)),om 36 8,ot 37 (.bin .shr (.t 36) (.c (.int .u64 32))),ow 5 35,ow 6 37]))) (.reg [om 20 7,ot 21 (.bin .add (.t 20) (oi 1)),ow 7 21])))))) (.seq (.reg [om 38 5,ot 39 (.call 146 [.t 38]),ow 4 39]) .ret))))))
def resrAdd : List RV := [.t 4]
theorem nbrAdd : fnrAdd.nb = 0 := rfl
theorem isrAdd : IsFn fnrAdd 112 coderAdd resrAdd := .k Tryz.func112 rfl (by kernel_rfl)
noncomputable def fnnCmp : FnD := ⟨Tryz.prog,[0,1,4,5,14,19,24,27,37],[],47,false⟩
def codenCmp : DC := (.seq (.reg [ox 4 (.mv (oi 0))]) (.seq (.reg [om 6 0,ot 7 (.call 147 [.t 6]),om 8 1,ot 9 (.call 147 [.t 8]),ow 0 7,ow 1 9]) (.seq (.seq (.reg [om 10 0,ot 11 (.len 1 (.t 10)),om 12 1,ot 13 (.len 1 (.t 12)),ox 14 (.bin .neq (.t 11) (.t 13))]) (.cond (.x 14) (.seq (.seq (.reg [om 15 0,ot 16 (.len 1 (.t 15)),om 17 1,ot 18 (.len 1 (.t 17)),ox 19 (.bin .lss (.t 16) (.t 18))]) (.cond (.x 19) (.seq (.reg [ox 4 (.mv (oi (-1)))]) .ret) .skip)) (.seq (.reg [ox 4 (.mv (oi 1))]) .ret)) .skip)) (.seq (.seq (.reg [om 20 0,ot 21 (.len 1 (.t 20)),ot 22 (.bin .sub (.t 21) (oi 1)),ow 5 22]) (.block 0 (.loop (.seq (.seq (.reg [om 23 5,ox 24 (.bin .geq (.t 23) (oi 0))]) (.cond (.x 24) .skip (.exit 0))) (.seq (.block 1 (.block 2 (.seq (.regd [om 28 0,om 29 5,ot 30 (.iad 1 (.t 28) (.t 29)),ot 31 (.ld (.t 30)),om 32 1,om 33 5,ot 34 (.iad 1 (.t 32) (.t 33)),ot 35 (.ld (.t 34)),ot 36 (.bin .lss (.t 31) (.t 35)),ow 27 36]) (.cond (.x 27) (.seq (.reg [ox 4 (.mv (oi (-1)))]) .ret) (.seq (.regd [om 38 0,om 39 5,ot 40 (.iad 1 (.t 38) (.t 39)),ot 41 (.ld (.t 40)),om 42 1,om 43 5,ot 44 (.iad 1 (.t 42) (.t 43)),ot 45 (.ld (.t 44)),ot 46 (.bin .gtr (.t 41) (.t 45)),ow 37 46]) (.cond (.x 37) (.seq (.reg [ox 4 (.mv (oi 1))]) .ret) .skip)))))) (.reg [om 25 5,ot 26 (.bin .sub (.t 25) (oi 1)),ow 5 26])))))) (.seq (.reg [ox 4 (.mv (oi 0))]) .ret)))))
def resnCmp : List RV := [.t 4]
theorem isnCmp : IsFn fnnCmp 116 codenCmp resnCmp := .k Tryz.func116 rfl (by kernel_rfl)
noncomputable def fnq_value : FnD := ⟨Tryz.prog,[0,1,2,4],[],7,false⟩
def codeq_value : DC := (.seq (.reg [ox 1 (.box (.x 0)),ox 2 (.alloc [(.bool false),.nils,.nils])]) (.seq (.seq (.reg [ot 3 (.ldn 3 (.x 1)),ox 4 (.call 88 [.t 3])]) (.cond (.x 4) (.seq (.reg [ot 5 (.ldn 3 (.x 1)),on (.stn 3 (.x 2) (.t 5))]) .ret) .skip)) (.seq (.reg [ot 6 (.build [(.bool false),.nils,.nils] []),on (.stn 3 (.x 2) (.t 6))]) .ret)))
def resq_value : List RV := [.cn 3 2]
theorem nbq_value : fnq_value.nb = 0 := rfl
theorem isq_value : IsFn fnq_value 120 codeq_value resq_value := .k Tryz.func120 rfl (by kernel_rfl)
noncomputable def fniMul : FnD := ⟨Tryz.prog,[0,1,2,3,4],[],20,false⟩
def codeiMul : DC := (.seq (.reg [ox 2 (.box (.x 0)),ox 3 (.box (.x 1)),ox 4 (.alloc [(.bool false),.nils])]) (.seq (.regd [ot 5 (.ldn 2 (.x 2)),ot 6 (.call 152 [.t 5]),ot 7 (.ldn 2 (.x 3)),ot 8 (.call 152 [.t 7]),on (.stn 2 (.x 2) (.t 6)),on (.stn 2 (.x 3) (.t 8))]) (.seq (.regd [ot 9 (.fad 0 (.x 2)),ot 10 (.ld (.t 9)),ot 11 (.fad 0 (.x 3)),ot 12 (.ld (.t 11)),ot 13 (.beq true (.t 10) (.t 12)),ot 14 (.fad 1 (.x 2)),ot 15 (.ld (.t 14)),ot 16 (.fad 1 (.x 3)),ot 17 (.ld (.t 16)),ot 18 (.call 125 [.t 15,.t 17]),ot 19 (.call 140 [.t 13,.t 18]),on (.stn 2 (.x 4) (.t 19))]) .ret)))
def resiMul : List RV := [.cn 2 4]
theorem nbiMul : fniMul.nb = 0 := rfl
theorem isiMul : IsFn fniMul 124 codeiMul resiMul := .k Tryz.func124 rfl (by kernel_rfl)
noncomputable def fnrValid : FnD := ⟨Tryz.prog,[0,2],[],15,false⟩
def coderValid : DC := (.seq (.reg [ox 2 (.mv (.c (.bool false)))]) (.seq (.reg [om 3 0,ot 4 (.len 1 (.t 3)),ot 5 (.bin .eql (.t 4) (oi 0)),ot 6 (.mv (.t 5)),og 7 (.mv (.x 0)) 6 false,og 8 (.mv (.x 0)) 6 false,og 9 (.len 1 (.t 8)) 6 false,og 10 (.bin .sub (.t 9) (oi 1)) 6 false,og 11 (.iad 1 (.t 7) (.t 10)) 6 false,og 12 (.ld (.t 11)) 6 false,og 13 (.bin .neq (.t 12) (.c (.int .u32 0))) 6 false,ot 14 (.pick (.t 6) (.c (.bool true)) (.t 13)),ow 2 14]) .ret))
def resrValid : List RV := [.t 2]
theorem isrValid : IsFn fnrValid 128 coderValid resrValid := .k Tryz.func128 rfl (by kernel_rfl)
noncomputable def fnrDiv : FnD := ⟨Tryz.prog,[0,1,4,5,6,7,8,9,10,11,18,24,38],[],46,false⟩
def coderDiv : DC := (.seq (.reg [ox 4 (.mv (.c .nils)),ox 5 (.mv (.c .nils)),ox 6 (.mv (.c (.bool false)))]) (.seq (.reg [om 12 0,ot 13 (.call 97 [.t 12]),om 14 1,ot 15 (.call 97 [.t 14]),ow 0 13,ow 1 15]) (.seq (.seq (.reg [om 16 1,ot 17 (.len 1 (.t 16)),ox 18 (.bin .eql (.t 17) (oi 0))]) (.cond (.x 18) (.seq (.reg [ox 4 (.mv (.c .nils)),ox 5 (.mv (.c .nils)),ox 6 (.mv (.c (.bool false)))]) .ret) .skip)) (.seq (.reg [ox 7 (.mv (.c .nils)),ox 8 (.mv (.c .nils))]) (.seq (.seq (.reg [om 19 0,ot 20 (.len 1 (.t 19)),ot 21 (.bin .mul (oi 32) (.t 20)),ot 22 (.bin .sub (.t 21) (oi 1)),ow 9 22]) (.block 0 (.loop (.seq (.seq (.reg [om 23 9,ox 24 (.bin .geq (.t 23) (oi 0))]) (.cond (.x 24) .skip (.exit 0))) (.seq (.block 1 (.seq (.reg [om 27 8,om 28 0,om 29 9,ot 30 (.call 167 [.t 28,.t 29]),ot 31 (.call 166 [.t 27,.t 30]),ow 8 31]) (.seq (.reg [om 33 8,om 34 1,ot 35 (.call 137 [.t 33,.t 34]),ot 32 (.mv (.t 35)),ot 36 (.ext (.t 32) 0),ot 37 (.ext (.t 32) 1),ow 10 36,ow 11 37]) (.seq (.reg [ox 38 (.mv (.x 11))]) (.cond (.x 38) (.reg [om 39 10,om 40 7,ot 41 (.call 166 [.t 40,(.c (.int .u32 1))]),ow 8 39,ow 7 41]) (.reg [om 42 7,ot 43 (.call 166 [.t 42,(.c (.int .u32 0))]),ow 7 43])))))) (.reg [om 25 9,ot 26 (.bin .sub (.t 25) (oi 1)),ow 9 26])))))) (.seq (.reg [om 44 7,om 45 8,ow 4 44,ow 5 45,ox 6 (.mv (.c (.bool true)))]) .ret))))))
def resrDiv : List RV := [.t 4, .t 5, .t 6]
theorem isrDiv : IsFn fnrDiv 136 coderDiv resrDiv := .k Tryz.func136 rfl (by kernel_rfl)
noncomputable def fni_signed : FnD := ⟨Tryz.prog,[0,1,4],[],13,false⟩
def codei_signed : DC := (.seq (.reg [ox 4 (.alloc [(.bool false),.nils])]) (.seq (.reg [om 5 0,ot 6 (.mv (.t 5)),og 7 (.mv (.x 1)) 6 true,og 8 (.len 1 (.t 7)) 6 true,og 9 (.bin .gtr (.t 8) (oi 0)) 6 true,ot 10 (.pick (.t 6) (.t 9) (.c (.bool false))),om 11 1,ot 12 (.build [(.bool false),.nils] [(0,1,.t 10),(1,1,.t 11)]),on (.stn 2 (.x 4) (.t 12))]) .ret))
def resi_signed : List RV := [.cn 2 4]
theorem nbi_signed : fni_signed.nb = 0 := rfl
theorem isi_signed : IsFn fni_signed 140 codei_signed resi_signed := .k Tryz.func140 rfl (by kernel_rfl)
noncomputable def fnq_times : FnD := ⟨Tryz.prog,[0,1,2,4],[],9,false⟩
def codeq_times : DC := (.seq (.reg [ox 2 (.box (.x 0)),ox 4 (.alloc [(.bool false),.nils])]) (.seq (.reg [ot 5 (.ldn 2 (.x 2)),om 6 1,ot 7 (.build [(.bool false),.nils] [(1,1,.t 6)]),ot 8 (.call 124 [.t 5,.t 7]),on (.stn 2 (.x 4) (.t 8))]) .ret))
def resq_times : List RV := [.cn 2 4]
theorem nbq_times : fnq_times.nb = 0 := rfl
theorem isq_times : IsFn fnq_times 144 codeq_times resq_times := .k Tryz.func144 rfl (by kernel_rfl)
noncomputable def fnnUint : FnD := ⟨Tryz.prog,[0,2,3,4,5,10,11,12,13,14],[],27,false⟩
def codenUint : DC := (.seq (.reg [ox 2 (.mv (.c (.int .u64 0))),ox 3 (.mv (.c (.bool false)))]) (.seq (.reg [om 6 0,ot 7 (.call 147 [.t 6]),ow 0 7]) (.seq (.seq (.reg [om 8 0,ot 9 (.len 1 (.t 8)),ox 10 (.bin .gtr (.t 9) (oi 2))]) (.cond (.x 10) (.seq (.reg [ox 2 (.mv (.c (.int .u64 0))),ox 3 (.mv (.c (.bool false)))]) .ret) .skip)) (.seq (.seq (.reg [ox 11 (.mv (.x 0)),ox 12 (.len 1 (.x 11)),ox 13 (.mv (oi 0))]) (.block 0 (.loop (.seq (.reg [ox 14 (.bin .lss (.x 13) (.x 12))]) (.seq (.cond (.x 14) .skip (.exit 0)) (.seq (.block 1 (.seq (.reg [om 15 13,ot 16 (.iad 1 (.x 11) (.x 13)),ot 17 (.ld (.t 16)),ow 4 15,ow 5 17]) (.reg [om 18 2,om 19 5,ot 20 (.conv .u64 (.t 19)),om 21 4,ot 22 (.bin .mul (oi 32) (.t 21)),ot 23 (.bin .shl (.t 20) (.t 22)),ot 24 (.bin .or (.t 18) (.t 23)),ow 2 24]))) (.reg [ot 25 (.bin .add (.x 13) (oi 1)),ow 13 25]))))))) (.seq (.reg [om 26 2,ow 2 26,ox 3 (.mv (.c (.bool true)))]) .ret)))))
def resnUint : List RV := [.t 2, .t 3]
theorem isnUint : IsFn fnnUint 148 codenUint resnUint := .k Tryz.func148 rfl (by kernel_rfl)
noncomputable def fni_value : FnD := ⟨Tryz.prog,[0,1,2,4],[],7,false⟩
def codei_value : DC := (.seq (.reg [ox 1 (.box (.x 0)),ox 2 (.alloc [(.bool false),.nils])]) (.seq (.seq (.reg [ot 3 (.ldn 2 (.x 1)),ox 4 (.call 114 [.t 3])]) (.cond (.x 4) (.seq (.reg [ot 5 (.ldn 2 (.x 1)),on (.stn 2 (.x 2) (.t 5))]) .ret) .skip)) (.seq (.reg [ot 6 (.build [(.bool false),.nils] []),on (.stn 2 (.x 2) (.t 6))]) .ret)))
def resi_value : List RV := [.cn 2 2]
theorem nbi_value : fni_value.nb = 0 := rfl
theorem isi_value : IsFn fni_value 152 codei_value resi_value := .k Tryz.func152 rfl (by kernel_rfl)
noncomputable def fnq_digits : FnD := ⟨Tryz.prog,[0,2,4,6,7,8,9,17],[],21,false⟩
def codeq_digits : DC := (.seq (.reg [ox 2 (.mv (.c (.bool false)))]) (.seq (.seq (.reg [om 5 0,ox 6 (.s2b (.t 5)),ox 7 (.len 1 (.x 6)),ox 8 (.mv (oi 0))]) (.block 0 (.loop (.seq (.reg [ox 9 (.bin .lss (.x 8) (.x 7))]) (.seq (.cond (.x 9) .skip (.exit 0)) (.seq (.block 1 (.seq (.reg [ot 10 (.iad 1 (.x 6) (.x 8)),ot 11 (.ld (.t 10)),ow 4 11]) (.seq (.reg [om 12 4,ot 13 (.bin .lss (.t 12) (.c (.int .u8 48))),ot 14 (.mv (.t 13)),og 15 (.mv (.x 4)) 14 false,og 16 (.bin .gtr (.t 15) (.c (.int .u8 57))) 14 false,ox 17 (.pick (.t 14) (.c (.bool true)) (.t 16))]) (.cond (.x 17) (.seq (.reg [ox 2 (.mv (.c (.bool false)))]) .ret) .skip)))) (.reg [ot 18 (.bin .add (.x 8) (oi 1)),ow 8 18]))))))) (.seq (.reg [om 19 0,ot 20 (.bin .neq (.t 19) (.c (.str []))),ow 2 20]) .ret)))
def resq_digits : List RV := [.t 2]
theorem isq_digits : IsFn fnq_digits 158 codeq_digits resq_digits := .k Tryz.func158 rfl (by kernel_rfl)
noncomputable def fnrDouble : FnD := ⟨Tryz.prog,[0,1,4,5,9],[],14,false⟩
def coderDouble : DC := (.seq (.reg [ox 4 (.mv (.c .nils))]) (.seq (.reg [om 6 0,ot 7 (.call 138 [.t 6,(.c (.int .u32 2)),(oi 0)]),ow 5 7]) (.seq (.seq (.reg [om 8 1,ox 9 (.bin .eql (.t 8) (.c (.int .u32 1)))]) (.cond (.x 9) (.reg [om 10 5,ot 11 (.bsl 1 [(.int .u32 0)] [(0,1,(.c (.int .u32 1)))]),ot 12 (.call 112 [.t 10,.t 11]),ow 5 12]) .skip)) (.seq (.reg [om 13 5,ow 4 13]) .ret))))
def resrDouble : List RV := [.t 4]
theorem isrDouble : IsFn fnrDouble 166 coderDouble resrDouble := .k Tryz.func166 rfl (by kernel_rfl)
noncomputable def fnnAdd : FnD := ⟨Tryz.prog,[0,1,4,5,6,7,8,9,18,25,26,27,28,35],[],58,false⟩
def codenAdd : DC := (.seq (.reg [ox 4 (.mv (.c .nils))]) (.seq (.reg [om 10 0,ot 11 (.call 147 [.t 10]),om 12 1,ot 13 (.call 147 [.t 12]),ow 0 11,ow 1 13]) (.seq (.seq (.reg [om 14 0,ot 15 (.len 1 (.t 14)),om 16 1,ot 17 (.len 1 (.t 16)),ox 18 (.bin .lss (.t 15) (.t 17))]) (.cond (.x 18) (.reg [om 19 1,om 20 0,ow 0 19,ow 1 20]) .skip)) (.seq (.reg [om 21 0,ot 22 (.len 1 (.t 21)),ot 23 (.bin .add (.t 22) (oi 1)),ot 24 (.mks 1 4 [(.int .u32 0)] (.t 23) (.t 23)),ow 5 24]) (.seq (.reg [ox 6 (.mv (.c (.int .u32 0)))]) (.seq (.seq (.reg [ox 25 (.mv (.x 0)),ox 26 (.len 1 (.x 25)),ox 27 (.mv (oi 0))]) (.block 0 (.loop (.seq (.reg [ox 28 (.bin .lss (.x 27) (.x 26))]) (.seq (.cond (.x 28) .skip (.exit 0)) (.seq (.block 1 (.seq (.reg [om 29 27,ot 30 (.iad 1 (.x 25) (.x 27)),ot 31 (.ld (.t 30)),ow 7 29,ow 8 31]) (.seq (.reg [ox 9 (.mv (.c (.int .u32 0)))]) (.seq (.seq (.reg [om 32 7,om 33 1,ot 34 (.len 1 (.t 33)),ox 35 (.bin .lss (.t 32) (.t 34))]) (.cond (.x 35) (.reg [om 36 1,om 37 7,ot 38 (.iad 1 (.t 36) (.t 37)),ot 39 (.ld (.t 38)),ow 9 39]) .skip)) (.reg [om 41 5,om 42 7,om 43 8,om 44 9,om 45 6,ot 46 (.call 182 [.t 43,.t 44,.t 45]),ot 40 (.mv (.t 46)),ot 47 (.ext (.t 40) 0),ot 48 (.ext (.t 40) 1),ot 49 (.iad 1 (.t 41) (.t 42)),on (.st (.t 49) (.t 47)),ow 6 48]))))) (.reg [ot 50 (.bin .add (.x 27) (oi 1)),ow 27 50]))))))) (.seq (.reg [om 51 5,om 52 0,ot 53 (.len 1 (.t 52)),om 54 6,ot 55 (.iad 1 (.t 51) (.t 53)),on (.st (.t 55) (.t 54))]) (.seq (.reg [om 56 5,ot 57 (.call 161 [.t 56]),ow 4 57]) .ret))))))))
def resnAdd : List RV := [.t 4]
theorem nbnAdd : fnnAdd.nb = 0 := rfl
theorem isnAdd : IsFn fnnAdd 170 codenAdd resnAdd := .k Tryz.func170 rfl (by kernel_rfl)
noncomputable def fnSub32 : FnD := ⟨Tryz.prog,[0,1,2,6,7],[],25,false⟩
def codeSub32 : DC := (.seq (.reg [ox 6 (.mv (.c (.int .u32 0))),ox 7 (.mv (.c (.int .u32 0)))]) (.seq (.reg [om 8 0,om 9 1,ot 10 (.bin .sub (.t 8) (.t 9)),om 11 2,ot 12 (.bin .sub (.t 10) (.t 11)),ow 6 12]) (.seq (.reg [om 13 0,ot 14 (.un .xor (.t 13)),om 15 1,ot 16 (.bin .and (.t 14) (.t 15)),om 17 0,om 18 1,ot 19 (.bin .xor (.t 17) (.t 18)),ot 20 (.un .xor (.t 19)),om 21 6,ot 22 (.bin .and (.t 20) (.t 21)),ot 23 (.bin .or (.t 16) (.t 22)),ot 24 (.bin .shr (.t 23) (.c (.int .u64 31))),ow 7 24]) .ret)))
def resSub32 : List RV := [.t 6, .t 7]
theorem isSub32 : IsFn fnSub32 183 codeSub32 resSub32 := .k Tryz.func183 rfl (by kernel_rfl)
noncomputable def fnnGuess : FnD := ⟨Tryz.prog,[0,1,2,3,4,10,11,12,13,45],[],53,false⟩
def codenGuess : DC := (.seq (.reg [ox 10 (.mv (.c (.int .u64 0)))]) (.seq (.reg [om 14 0,ot 15 (.conv .u64 (.t 14)),ot 16 (.bin .shl (.t 15) (.c (.int .u64 32))),om 17 1,ot 18 (.conv .u64 (.t 17)),ot 19 (.bin .or (.t 16) (.t 18)),ow 11 19]) (.seq (.regd [om 20 11,om 21 3,ot 22 (.conv .u64 (.t 21)),ot 23 (.bin .quo (.t 20) (.t 22)),om 24 11,om 25 3,ot 26 (.conv .u64 (.t 25)),ot 27 (.bin .rem (.t 24) (.t 26)),ow 12 23,ow 13 27]) (.seq (.block 0 (.loop (.seq (.seq (.reg [om 28 13,ot 29 (.bin .lss (.t 28) (.c (.int .u64 4294967296))),ot 30 (.mv (.t 29)),og 31 (.mv (.x 12)) 30 true,og 32 (.bin .geq (.t 31) (.c (.int .u64 4294967296))) 30 true,og 33 (.mv (.t 32)) 30 true,og 34 (.mv (.x 12)) 33 false,og 35 (.mv (.x 4)) 33 false,og 36 (.conv .u64 (.t 35)) 33 false,og 37 (.bin .mul (.t 34) (.t 36)) 33 false,og 38 (.mv (.x 13)) 33 false,og 39 (.bin .shl (.t 38) (.c (.int .u64 32))) 33 false,og 40 (.mv (.x 2)) 33 false,og 41 (.conv .u64 (.t 40)) 33 false,og 42 (.bin .or (.t 39) (.t 41)) 33 false,og 43 (.bin .gtr (.t 37) (.t 42)) 33 false,og 44 (.pick (.t 33) (.c (.bool true)) (.t 43)) 30 true,ox 45 (.pick (.t 30) (.t 44) (.c (.bool false)))]) (.cond (.x 45) .skip (.exit 0))) (.block 1 (.seq (.reg [om 46 12,ot 47 (.bin .sub (.t 46) (.c (.int .u64 1))),ow 12 47]) (.reg [om 48 13,om 49 3,ot 50 (.conv .u64 (.t 49)),ot 51 (.bin .add (.t 48) (.t 50)),ow 13 51])))))) (.seq (.reg [om 52 12,ow 10 52]) .ret)))))
def resnGuess : List RV := [.t 10]
theorem isnGuess : IsFn fnnGuess 187 codenGuess resnGuess := .k Tryz.func187 rfl (by kernel_rfl)
noncomputable def fnlt_awake : FnD := ⟨Tryz.prog,[0,1,2,4],[],72,false⟩
def codelt_awake : DC := (.seq (.reg [ox 0 (.mv (.c (.bool false)))]) (.seq (.reg [ot 5 (.bsl 1 [(.str [])] [(0,1,(.c (.str [78,65])))]),ot 6 (.call 39 [(oi 1),(oi 100)]),ot 7 (.build [(.str []),(.int .i64 0),.nils,(.bool false),.nils,.nils] [(0,1,(.c (.str [120]))),(1,1,(oi 1)),(2,1,.t 5),(3,3,.t 6)]),ot 8 (.build [(.str []),(.int .i64 0),.nils,(.bool false),.nils,.nils] [(0,1,(.c (.str [103]))),(1,1,(oi 2))]),ot 9 (.bsl 6 [(.str []),(.int .i64 0),.nils,(.bool false),.nils,.nils,(.str []),(.int .i64 0),.nils,(.bool false),.nils,.nils] [(0,6,.t 7),(6,6,.t 8)]),ow 1 9]) (.seq (.reg [om 11 1,ot 12 (.bsl 1 [(.str []),(.str [])] [(0,1,(.c (.str [50,53,48]))),(1,1,(.c (.str [97])))]),ot 13 (.bsl 1 [(.str []),(.str [])] [(0,1,(.c (.str [78,65]))),(1,1,(.c (.str [98])))]),ot 14 (.bsl 1 [.nils,.nils] [(0,1,.t 12),(1,1,.t 13)]),ot 15 (.call 13 [.t 11,.t 14]),ot 10 (.mv (.t 15)),ot 16 (.ext (.t 10) 0),ot 17 (.ext (.t 10) 1),ot 18 (.ext (.t 10) 2),ox 2 (.alloc [(.int .i64 0),.nils]),on (.stn 2 (.x 2) (.t 16)),ot 3 (.mv (.t 17)),ow 4 18]) (.seq (.regd [om 19 4,ot 20 (.bin .eql (.t 19) (oi 0)),ot 21 (.mv (.t 20)),og 22 (.fad 0 (.x 2)) 21 true,og 23 (.ld (.t 22)) 21 true,og 24 (.bin .eql (.t 23) (oi 2)) 21 true,ot 25 (.pick (.t 21) (.t 24) (.c (.bool false))),ot 26 (.mv (.t 25)),og 27 (.fad 1 (.x 2)) 26 true,og 28 (.ld (.t 27)) 26 true,og 29 (.len 4 (.t 28)) 26 true,og 30 (.bin .eql (.t 29) (oi 2)) 26 true,ot 31 (.pick (.t 26) (.t 30) (.c (.bool false))),ot 32 (.mv (.t 31)),og 33 (.fad 1 (.x 2)) 32 true,og 34 (.ld (.t 33)) 32 true,og 35 (.iad 4 (.t 34) (oi 0)) 32 true,og 36 (.fad 3 (.t 35)) 32 true,og 37 (.ld (.t 36)) 32 true,og 38 (.len 5 (.t 37)) 32 true,og 39 (.bin .eql (.t 38) (oi 2)) 32 true,ot 40 (.pick (.t 32) (.t 39) (.c (.bool false))),ot 41 (.mv (.t 40)),og 42 (.fad 1 (.x 2)) 41 true,og 43 (.ld (.t 42)) 41 true,og 44 (.iad 4 (.t 43) (oi 0)) 41 true,og 45 (.fad 3 (.t 44)) 41 true,og 46 (.ld (.t 45)) 41 true,og 47 (.iad 5 (.t 46) (oi 0)) 41 true,og 48 (.fad 1 (.t 47)) 41 true,og 49 (.ldn 3 (.t 48)) 41 true,og 50 (.call 39 [(oi 5),(oi 2)]) 41 true,og 51 (.call 20 [.t 49,.t 50]) 41 true,ot 52 (.pick (.t 41) (.t 51) (.c (.bool false))),ot 53 (.mv (.t 52)),og 54 (.fad 1 (.x 2)) 53 true,og 55 (.ld (.t 54)) 53 true,og 56 (.iad 4 (.t 55) (oi 0)) 53 true,og 57 (.fad 3 (.t 56)) 53 true,og 58 (.ld (.t 57)) 53 true,og 59 (.iad 5 (.t 58) (oi 1)) 53 true,og 60 (.fad 0 (.t 59)) 53 true,og 61 (.ld (.t 60)) 53 true,ot 62 (.pick (.t 53) (.t 61) (.c (.bool false))),ot 63 (.mv (.t 62)),og 64 (.fad 1 (.x 2)) 63 true,og 65 (.ld (.t 64)) 63 true,og 66 (.iad 4 (.t 65) (oi 1)) 63 true,og 67 (.fad 2 (.t 66)) 63 true,og 68 (.ld (.t 67)) 63 true,og 69 (.len 1 (.t 68)) 63 true,og 70 (.bin .eql (.t 69) (oi 2)) 63 true,ot 71 (.pick (.t 63) (.t 70) (.c (.bool false))),ow 0 71]) .ret))))
def reslt_awake : List RV := [.t 0]
theorem islt_awake : IsFn fnlt_awake 12 codelt_awake reslt_awake := .k Tryz.func12 rfl (by kernel_rfl)
noncomputable def fnmdMod : FnD := ⟨Tryz.prog,[0,1,4,5,10],[],15,false⟩
def codemdMod : DC := (.seq (.reg [ox 4 (.mv (oi 0))]) (.seq (.reg [om 6 0,om 7 1,ot 8 (.bin .rem (.t 6) (.t 7)),ow 5 8]) (.seq (.seq (.reg [om 9 5,ox 10 (.bin .lss (.t 9) (oi 0))]) (.cond (.x 10) (.reg [om 11 5,om 12 1,ot 13 (.bin .add (.t 11) (.t 12)),ow 5 13]) .skip)) (.seq (.reg [om 14 5,ow 4 14]) .ret))))
def resmdMod : List RV := [.t 4]
theorem ismdMod : IsFn fnmdMod 16 codemdMod resmdMod := .k Tryz.func16 rfl (by kernel_rfl)
noncomputable def fnpSame : FnD := ⟨Tryz.prog,[0,1,2,3,4],[],17,false⟩
def codepSame : DC := (.seq (.reg [ox 2 (.box (.x 0)),ox 3 (.box (.x 1)),ox 4 (.mv (.c (.bool false)))]) (.seq (.reg [ot 5 (.fad 0 (.x 2)),ot 6 (.ldn 2 (.t 5)),ot 7 (.fad 0 (.x 3)),ot 8 (.ldn 2 (.t 7)),ot 9 (.call 56 [.t 6,.t 8]),ot 10 (.mv (.t 9)),og 11 (.fad 2 (.x 2)) 10 true,og 12 (.ld (.t 11)) 10 true,og 13 (.fad 2 (.x 3)) 10 true,og 14 (.ld (.t 13)) 10 true,og 15 (.call 57 [.t 12,.t 14]) 10 true,ot 16 (.pick (.t 10) (.t 15) (.c (.bool false))),ow 4 16]) .ret))
def respSame : List RV := [.t 4]
theorem nbpSame : fnpSame.nb = 0 := rfl
theorem ispSame : IsFn fnpSame 20 codepSame respSame := .k Tryz.func20 rfl (by kernel_rfl)
noncomputable def fnuName : FnD := ⟨Tryz.prog,[0,2,3,21,25,32],[],33,false⟩
def codeuName : DC := (.seq (.reg [ox 2 (.mv (.c (.bool false)))]) (.seq (.seq (.reg [om 4 0,ot 5 (.lenS (.t 4)),ot 6 (.bin .lss (.t 5) (oi 1)),ot 7 (.mv (.t 6)),og 8 (.mv (.x 0)) 7 false,og 9 (.lenS (.t 8)) 7 false,og 10 (.bin .gtr (.t 9) (oi 32)) 7 false,ot 11 (.pick (.t 7) (.c (.bool true)) (.t 10)),ot 12 (.mv (.t 11)),og 13 (.mv (.x 0)) 12 false,og 14 (.idx (.t 13) (oi 0)) 12 false,og 15 (.call 63 [.t 14]) 12 false,og 16 (.un .not (.t 15)) 12 false,ot 17 (.pick (.t 12) (.c (.bool true)) (.t 16)),ot 18 (.mv (.t 17)),og 19 (.mv (.x 0)) 18 false,og 20 (.bin .eql (.t 19) (.c (.str [112,111,119,101,114]))) 18 false,ox 21 (.pick (.t 18) (.c (.bool true)) (.t 20))]) (.cond (.x 21) (.seq (.reg [ox 2 (.mv (.c (.bool false)))]) .ret) .skip)) (.seq (.seq (.reg [ox 3 (.mv (oi 1))]) (.block 0 (.loop (.seq (.seq (.reg [om 22 3,om 23 0,ot 24 (.lenS (.t 23)),ox 25 (.bin .lss (.t 22) (.t 24))]) (.cond (.x 25) .skip (.exit 0))) (.seq (.block 1 (.seq (.reg [om 28 0,om 29 3,ot 30 (.idx (.t 28) (.t 29)),ot 31 (.call 64 [.t 30]),ox 32 (.un .not (.t 31))]) (.cond (.x 32) (.seq (.reg [ox 2 (.mv (.c (.bool false)))]) .ret) .skip))) (.reg [om 26 3,ot 27 (.bin .add (.t 26) (oi 1)),ow 3 27])))))) (.seq (.reg [ox 2 (.mv (.c (.bool true)))]) .ret))))
def resuName : List RV := [.t 2]
theorem isuName : IsFn fnuName 24 codeuName resuName := .k Tryz.func24 rfl (by kernel_rfl)
noncomputable def fnlt_light : FnD := ⟨Tryz.prog,[0,1,2,3,7,12,42],[],43,false⟩
def codelt_light : DC := (.seq (.reg [ox 1 (.box (.x 0)),ox 2 (.mv (.c (.bool false)))]) (.seq (.seq (.reg [ot 4 (.fad 1 (.x 1)),ot 5 (.ld (.t 4)),ot 6 (.len 4 (.t 5)),ox 7 (.bin .gtr (.t 6) (oi 40))]) (.cond (.x 7) (.seq (.reg [ox 2 (.mv (.c (.bool false)))]) .ret) .skip)) (.seq (.seq (.reg [ox 3 (.mv (oi 0))]) (.block 0 (.loop (.seq (.seq (.reg [om 8 3,ot 9 (.fad 1 (.x 1)),ot 10 (.ld (.t 9)),ot 11 (.len 4 (.t 10)),ox 12 (.bin .lss (.t 8) (.t 11))]) (.cond (.x 12) .skip (.exit 0))) (.seq (.block 1 (.seq (.reg [ot 15 (.fad 1 (.x 1)),ot 16 (.ld (.t 15)),om 17 3,ot 18 (.iad 4 (.t 16) (.t 17)),ot 19 (.fad 0 (.t 18)),ot 20 (.ld (.t 19)),ot 21 (.lenS (.t 20)),ot 22 (.bin .gtr (.t 21) (oi 60)),ot 23 (.mv (.t 22)),og 24 (.fad 1 (.x 1)) 23 false,og 25 (.ld (.t 24)) 23 false,og 26 (.mv (.x 3)) 23 false,og 27 (.iad 4 (.t 25) (.t 26)) 23 false,og 28 (.fad 2 (.t 27)) 23 false,og 29 (.ld (.t 28)) 23 false,og 30 (.call 22 [.t 29]) 23 false,og 31 (.un .not (.t 30)) 23 false,ot 32 (.pick (.t 23) (.c (.bool true)) (.t 31)),ot 33 (.mv (.t 32)),og 34 (.fad 1 (.x 1)) 33 false,og 35 (.ld (.t 34)) 33 false,og 36 (.mv (.x 3)) 33 false,og 37 (.iad 4 (.t 35) (.t 36)) 33 false,og 38 (.fad 3 (.t 37)) 33 false,og 39 (.ld (.t 38)) 33 false,og 40 (.call 33 [.t 39]) 33 false,og 41 (.un .not (.t 40)) 33 false,ox 42 (.pick (.t 33) (.c (.bool true)) (.t 41))]) (.cond (.x 42) (.seq (.reg [ox 2 (.mv (.c (.bool false)))]) .ret) .skip))) (.reg [om 13 3,ot 14 (.bin .add (.t 13) (oi 1)),ow 3 14])))))) (.seq (.reg [ox 2 (.mv (.c (.bool true)))]) .ret))))
def reslt_light : List RV := [.t 2]
theorem islt_light : IsFn fnlt_light 28 codelt_light reslt_light := .k Tryz.func28 rfl (by kernel_rfl)
noncomputable def fntRow : FnD := ⟨Tryz.prog,[0,1,2,4,5,6,8,11,19,21,22,23,24],[],38,false⟩
def codetRow : DC := (.seq (.reg [ox 2 (.box (.x 0)),ox 4 (.mv (.c .nils)),ox 5 (.mv (oi 0))]) (.seq (.seq (.reg [ot 9 (.ldn 2 (.x 2)),ot 10 (.call 21 [.t 9]),ox 11 (.un .not (.t 10))]) (.cond (.x 11) (.seq (.reg [ox 4 (.mv (.c .nils)),ox 5 (.mv (oi 4))]) .ret) .skip)) (.seq (.seq (.reg [om 12 1,ot 13 (.bin .lss (.t 12) (oi 0)),ot 14 (.mv (.t 13)),og 15 (.mv (.x 1)) 14 false,og 16 (.fad 0 (.x 2)) 14 false,og 17 (.ld (.t 16)) 14 false,og 18 (.bin .geq (.t 15) (.t 17)) 14 false,ox 19 (.pick (.t 14) (.c (.bool true)) (.t 18))]) (.cond (.x 19) (.seq (.reg [ox 4 (.mv (.c .nils)),ox 5 (.mv (oi 1))]) .ret) .skip)) (.seq (.reg [ox 6 (.mv (.c .nils))]) (.seq (.seq (.reg [ot 20 (.fad 1 (.x 2)),ox 21 (.ld (.t 20)),ox 22 (.len 4 (.x 21)),ox 23 (.mv (oi 0))]) (.block 0 (.loop (.seq (.reg [ox 24 (.bin .lss (.x 23) (.x 22))]) (.seq (.cond (.x 24) .skip (.exit 0)) (.seq (.block 1 (.seq (.reg [ot 25 (.iad 4 (.x 21) (.x 23)),ot 26 (.ldn 4 (.t 25)),ox 8 (.alloc [(.str []),(.int .i64 0),.nils,.nils]),on (.stn 4 (.x 8) (.t 26))]) (.reg [om 27 6,ot 28 (.fad 3 (.x 8)),ot 29 (.ld (.t 28)),om 30 1,ot 31 (.iad 5 (.t 29) (.t 30)),ot 32 (.ldn 5 (.t 31)),ot 33 (.call 84 [.t 32]),ot 34 (.bsl 5 [(.bool false),(.bool false),.nils,.nils,(.int .i64 0)] [(0,5,.t 33)]),ot 35 (.app 51 5 72 (.t 27) (.t 34)),ow 6 35]))) (.reg [ot 36 (.bin .add (.x 23) (oi 1)),ow 23 36]))))))) (.seq (.reg [om 37 6,ow 4 37,ox 5 (.mv (oi 0))]) .ret))))))
def restRow : List RV := [.t 4, .t 5]
theorem istRow : IsFn fntRow 36 codetRow restRow := .k Tryz.func36 rfl (by kernel_rfl)
noncomputable def fntNames : FnD := ⟨Tryz.prog,[0,2,3,4,5,6,7,8,21],[],23,false⟩
def codetNames : DC := (.seq (.reg [ox 2 (.mv (.c (.bool false)))]) (.seq (.seq (.reg [ox 5 (.mv (.x 0)),ox 6 (.len 1 (.x 5)),ox 7 (.mv (oi 0))]) (.block 0 (.loop (.seq (.reg [ox 8 (.bin .lss (.x 7) (.x 6))]) (.seq (.cond (.x 8) .skip (.exit 0)) (.seq (.block 1 (.seq (.reg [om 9 7,ot 10 (.iad 1 (.x 5) (.x 7)),ot 11 (.ld (.t 10)),ow 3 9,ow 4 11]) (.seq (.reg [om 12 4,ot 13 (.call 23 [.t 12]),ot 14 (.un .not (.t 13)),ot 15 (.mv (.t 14)),og 16 (.mv (.x 0)) 15 false,og 17 (.mv (.x 3)) 15 false,og 18 (.slc 1 (.t 16) none (some (.t 17))) 15 false,og 19 (.mv (.x 4)) 15 false,og 20 (.call 86 [.t 18,.t 19]) 15 false,ox 21 (.pick (.t 15) (.c (.bool true)) (.t 20))]) (.cond (.x 21) (.seq (.reg [ox 2 (.mv (.c (.bool false)))]) .ret) .skip)))) (.reg [ot 22 (.bin .add (.x 7) (oi 1)),ow 7 22]))))))) (.seq (.reg [ox 2 (.mv (.c (.bool true)))]) .ret)))
def restNames : List RV := [.t 2]
theorem istNames : IsFn fntNames 40 codetNames restNames := .k Tryz.func40 rfl (by kernel_rfl)
noncomputable def fntReadable : FnD := ⟨Tryz.prog,[0,1,2,4,5,16],[],19,false⟩
def codetReadable : DC := (.seq (.reg [ox 1 (.box (.x 0)),ox 2 (.mv (.c (.bool false)))]) (.seq (.seq (.reg [ot 3 (.fad 1 (.x 1)),ox 4 (.ld (.t 3))]) (.block 0 (.seq (.reg [ot 6 (.bin .eql (.x 4) (oi 1)),ow 5 6]) (.cond (.x 5) (.seq (.reg [ot 7 (.fad 3 (.x 1)),ot 8 (.ldn 3 (.t 7)),ot 9 (.call 88 [.t 8]),ot 10 (.mv (.t 9)),og 11 (.fad 3 (.x 1)) 10 true,og 12 (.ldn 3 (.t 11)) 10 true,og 13 (.call 89 [.t 12]) 10 true,og 14 (.bin .neq (.t 13) (oi 0)) 10 true,ot 15 (.pick (.t 10) (.t 14) (.c (.bool false))),ow 2 15]) .ret) (.seq (.seq (.reg [ot 17 (.bin .eql (.x 4) (oi 2)),ow 16 17]) (.cond (.x 16) .skip (.reg [ot 18 (.bin .eql (.x 4) (oi 3)),ow 16 18]))) (.cond (.x 16) (.seq (.reg [ox 2 (.mv (.c (.bool true)))]) .ret) .skip)))))) (.seq (.reg [ox 2 (.mv (.c (.bool false)))]) .ret)))
def restReadable : List RV := [.t 2]
theorem istReadable : IsFn fntReadable 44 codetReadable restReadable := .k Tryz.func44 rfl (by kernel_rfl)
noncomputable def fnsSame : FnD := ⟨Tryz.prog,[0,1,2,3,4],[],17,false⟩
def codesSame : DC := (.seq (.reg [ox 2 (.box (.x 0)),ox 3 (.box (.x 1)),ox 4 (.mv (.c (.bool false)))]) (.seq (.reg [ot 5 (.fad 0 (.x 2)),ot 6 (.ld (.t 5)),ot 7 (.fad 0 (.x 3)),ot 8 (.ld (.t 7)),ot 9 (.beq false (.t 6) (.t 8)),ot 10 (.mv (.t 9)),og 11 (.fad 1 (.x 2)) 10 true,og 12 (.ld (.t 11)) 10 true,og 13 (.fad 1 (.x 3)) 10 true,og 14 (.ld (.t 13)) 10 true,og 15 (.call 57 [.t 12,.t 14]) 10 true,ot 16 (.pick (.t 10) (.t 15) (.c (.bool false))),ow 4 16]) .ret))
def ressSame : List RV := [.t 4]
theorem nbsSame : fnsSame.nb = 0 := rfl
theorem issSame : IsFn fnsSame 56 codesSame ressSame := .k Tryz.func56 rfl (by kernel_rfl)
noncomputable def fntValid1 : FnD := ⟨Tryz.prog,[0,1,2,3],[],9,false⟩
def codetValid1 : DC := (.seq (.reg [ox 2 (.box (.x 0)),ox 3 (.mv (.c (.bool false)))]) (.seq (.reg [ot 4 (.ldn 4 (.x 2)),ot 5 (.fad 0 (.x 1)),ot 6 (.ld (.t 5)),ot 7 (.call 61 [.t 4,.t 6]),ot 8 (.un .not (.t 7)),ow 3 8]) .ret))
def restValid1 : List RV := [.t 3]
theorem istValid1 : IsFn fntValid1 60 codetValid1 restValid1 := .k Tryz.func60 rfl (by kernel_rfl)
noncomputable def fnuInner : FnD := ⟨Tryz.prog,[0,2],[],21,false⟩
def codeuInner : DC := (.seq (.reg [ox 2 (.mv (.c (.bool false)))]) (.seq (.reg [om 3 0,ot 4 (.call 63 [.t 3]),ot 5 (.mv (.t 4)),og 6 (.mv (.x 0)) 5 false,og 7 (.bin .geq (.t 6) (.c (.int .u8 48))) 5 false,og 8 (.mv (.t 7)) 5 false,og 9 (.mv (.x 0)) 8 true,og 10 (.bin .leq (.t 9) (.c (.int .u8 57))) 8 true,og 11 (.pick (.t 8) (.t 10) (.c (.bool false))) 5 false,ot 12 (.pick (.t 5) (.c (.bool true)) (.t 11)),ot 13 (.mv (.t 12)),og 14 (.mv (.x 0)) 13 false,og 15 (.bin .eql (.t 14) (.c (.int .u8 95))) 13 false,ot 16 (.pick (.t 13) (.c (.bool true)) (.t 15)),ot 17 (.mv (.t 16)),og 18 (.mv (.x 0)) 17 false,og 19 (.bin .eql (.t 18) (.c (.int .u8 46))) 17 false,ot 20 (.pick (.t 17) (.c (.bool true)) (.t 19)),ow 2 20]) .ret))
def resuInner : List RV := [.t 2]
theorem isuInner : IsFn fnuInner 64 codeuInner resuInner := .k Tryz.func64 rfl (by kernel_rfl)
noncomputable def fnu_names : FnD := ⟨Tryz.prog,[0,2,3,7,26],[],27,false⟩
def codeu_names : DC := (.seq (.reg [ox 2 (.mv (.c (.bool false)))]) (.seq (.seq (.reg [ox 3 (.mv (oi 0))]) (.block 0 (.loop (.seq (.seq (.reg [om 4 3,om 5 0,ot 6 (.len 1 (.t 5)),ox 7 (.bin .lss (.t 4) (.t 6))]) (.cond (.x 7) .skip (.exit 0))) (.seq (.block 1 (.seq (.regd [om 10 0,om 11 3,ot 12 (.iad 1 (.t 10) (.t 11)),ot 13 (.ld (.t 12)),ot 14 (.call 24 [.t 13]),ot 15 (.un .not (.t 14)),ot 16 (.mv (.t 15)),og 17 (.mv (.x 0)) 16 false,og 18 (.mv (.x 3)) 16 false,og 19 (.slc 1 (.t 17) none (some (.t 18))) 16 false,og 20 (.mv (.x 0)) 16 false,og 21 (.mv (.x 3)) 16 false,og 22 (.iad 1 (.t 20) (.t 21)) 16 false,og 23 (.ld (.t 22)) 16 false,og 24 (.call 94 [.t 19,.t 23]) 16 false,og 25 (.bin .geq (.t 24) (oi 0)) 16 false,ox 26 (.pick (.t 16) (.c (.bool true)) (.t 25))]) (.cond (.x 26) (.seq (.reg [ox 2 (.mv (.c (.bool false)))]) .ret) .skip))) (.reg [om 8 3,ot 9 (.bin .add (.t 8) (oi 1)),ow 3 9])))))) (.seq (.reg [ox 2 (.mv (.c (.bool true)))]) .ret)))
def resu_names : List RV := [.t 2]
theorem isu_names : IsFn fnu_names 68 codeu_names resu_names := .k Tryz.func68 rfl (by kernel_rfl)
noncomputable def fnslIndexS : FnD := ⟨Tryz.prog,[0,1,4,5,7,8,9,16],[],19,false⟩
def codeslIndexS : DC := (.seq (.reg [ox 4 (.mv (oi 0))]) (.seq (.seq (.reg [om 6 0,ox 7 (.len 1 (.t 6)),ox 8 (.mv (oi 0))]) (.block 0 (.loop (.seq (.reg [ox 9 (.bin .lss (.x 8) (.x 7))]) (.seq (.cond (.x 9) .skip (.exit 0)) (.seq (.block 1 (.seq (.reg [om 10 8,ow 5 10]) (.seq (.reg [om 11 1,om 12 0,om 13 5,ot 14 (.iad 1 (.t 12) (.t 13)),ot 15 (.ld (.t 14)),ox 16 (.bin .eql (.t 11) (.t 15))]) (.cond (.x 16) (.seq (.reg [om 17 5,ow 4 17]) .ret) .skip)))) (.reg [ot 18 (.bin .add (.x 8) (oi 1)),ow 8 18]))))))) (.seq (.reg [ox 4 (.mv (oi (-1)))]) .ret)))
def resslIndexS : List RV := [.t 4]
theorem isslIndexS : IsFn fnslIndexS 72 codeslIndexS resslIndexS := .k Tryz.func72 rfl (by kernel_rfl)
noncomputable def fntWith : FnD := ⟨Tryz.prog,[0,1,2,3,6,7,8,9,10,12,16,17,18,19,34,35,36,37],[],56,false⟩
def codetWith : DC := (.seq (.reg [ox 3 (.box (.x 0)),ox 6 (.alloc [(.int .i64 0),.nils])]) (.seq (.reg [om 13 1,ot 14 (.build [(.int .i64 0),.nils] [(0,1,.t 13)]),ox 7 (.alloc [(.int .i64 0),.nils]),on (.stn 2 (.x 7) (.t 14))]) (.seq (.seq (.reg [ot 15 (.fad 1 (.x 3)),ox 16 (.ld (.t 15)),ox 17 (.len 4 (.x 16)),ox 18 (.mv (oi 0))]) (.block 0 (.loop (.seq (.reg [ox 19 (.bin .lss (.x 18) (.x 17))]) (.seq (.cond (.x 19) .skip (.exit 0)) (.seq (.block 1 (.seq (.reg [om 20 18,ot 21 (.iad 4 (.x 16) (.x 18)),ot 22 (.ldn 4 (.t 21)),ox 9 (.alloc [(.str []),(.int .i64 0),.nils,.nils]),ow 8 20,on (.stn 4 (.x 9) (.t 22))]) (.seq (.regd [ot 23 (.fad 0 (.x 9)),ot 24 (.ld (.t 23)),ot 25 (.fad 1 (.x 9)),ot 26 (.ld (.t 25)),ot 27 (.fad 2 (.x 9)),ot 28 (.ld (.t 27)),ot 29 (.call 65 [.t 28]),ot 30 (.build [(.str []),(.int .i64 0),.nils,.nils] [(0,1,.t 24),(1,1,.t 26),(2,1,.t 29)]),ox 10 (.alloc [(.str []),(.int .i64 0),.nils,.nils]),on (.stn 4 (.x 10) (.t 30))]) (.seq (.seq (.reg [om 31 2,om 32 8,ot 33 (.ldn 4 (.x 9)),ox 34 (.callv (.t 31) [.t 32,.t 33]),ox 35 (.len 5 (.x 34)),ox 36 (.mv (oi 0))]) (.block 2 (.loop (.seq (.reg [ox 37 (.bin .lss (.x 36) (.x 35))]) (.seq (.cond (.x 37) .skip (.exit 2)) (.seq (.block 3 (.seq (.reg [ot 38 (.iad 5 (.x 34) (.x 36)),ot 39 (.ldn 5 (.t 38)),ox 12 (.alloc [(.bool false),(.bool false),.nils,.nils,(.int .i64 0)]),on (.stn 5 (.x 12) (.t 39))]) (.regd [ot 40 (.fad 3 (.x 10)),ot 41 (.ld (.t 40)),ot 42 (.ldn 5 (.x 12)),ot 43 (.call 84 [.t 42]),ot 44 (.bsl 5 [(.bool false),(.bool false),.nils,.nils,(.int .i64 0)] [(0,5,.t 43)]),ot 45 (.app 51 5 72 (.t 41) (.t 44)),ot 46 (.fad 3 (.x 10)),on (.st (.t 46) (.t 45))]))) (.reg [ot 47 (.bin .add (.x 36) (oi 1)),ow 36 47]))))))) (.reg [ot 48 (.fad 1 (.x 7)),ot 49 (.ld (.t 48)),ot 50 (.ldn 4 (.x 10)),ot 51 (.bsl 4 [(.str []),(.int .i64 0),.nils,.nils] [(0,4,.t 50)]),ot 52 (.app 49 4 72 (.t 49) (.t 51)),ot 53 (.fad 1 (.x 7)),on (.st (.t 53) (.t 52))]))))) (.reg [ot 54 (.bin .add (.x 18) (oi 1)),ow 18 54]))))))) (.seq (.reg [ot 55 (.ldn 2 (.x 7)),on (.stn 2 (.x 6) (.t 55))]) .ret))))
def restWith : List RV := [.cn 2 6]
theorem istWith : IsFn fntWith 76 codetWith restWith := .k Tryz.func76 rfl (by kernel_rfl)
noncomputable def fntCell : FnD := ⟨Tryz.prog,[0,1,2],[],9,false⟩
def codetCell : DC := (.seq (.reg [ox 1 (.box (.x 0)),ox 2 (.alloc [(.bool false),(.bool false),.nils,.nils,(.int .i64 0)])]) (.seq (.reg [ot 3 (.fad 1 (.x 1)),ot 4 (.ldn 3 (.t 3)),ot 5 (.build [(.bool false),.nils,.nils] []),ot 6 (.call 111 [.t 4,.t 5]),ot 7 (.fad 1 (.x 1)),on (.stn 3 (.t 7) (.t 6))]) (.seq (.reg [ot 8 (.ldn 5 (.x 1)),on (.stn 5 (.x 2) (.t 8))]) .ret)))
def restCell : List RV := [.cn 5 2]
theorem istCell : IsFn fntCell 84 codetCell restCell := .k Tryz.func84 rfl (by kernel_rfl)
noncomputable def fnqValid : FnD := ⟨Tryz.prog,[0,1,2,3,14,19],[],41,false⟩
def codeqValid : DC := (.seq (.reg [ox 1 (.box (.x 0)),ox 2 (.mv (.c (.bool false)))]) (.seq (.block 0 (.seq (.reg [ot 4 (.fad 0 (.x 1)),ot 5 (.ldn 2 (.t 4)),ot 6 (.call 114 [.t 5]),ot 7 (.un .not (.t 6)),ot 8 (.mv (.t 7)),og 9 (.fad 2 (.x 1)) 8 false,og 10 (.ld (.t 9)) 8 false,og 11 (.call 115 [.t 10]) 8 false,og 12 (.un .not (.t 11)) 8 false,ot 13 (.pick (.t 8) (.c (.bool true)) (.t 12)),ow 3 13]) (.cond (.x 3) (.seq (.reg [ox 2 (.mv (.c (.bool false)))]) .ret) (.seq (.reg [ot 15 (.fad 2 (.x 1)),ot 16 (.ld (.t 15)),ot 17 (.len 1 (.t 16)),ot 18 (.bin .eql (.t 17) (oi 0)),ow 14 18]) (.cond (.x 14) (.seq (.reg [ox 2 (.mv (.c (.bool true)))]) .ret) (.seq (.regd [ot 20 (.fad 0 (.x 1)),ot 21 (.fad 1 (.t 20)),ot 22 (.ld (.t 21)),ot 23 (.len 1 (.t 22)),ot 24 (.bin .eql (.t 23) (oi 0)),ot 25 (.mv (.t 24)),og 26 (.fad 2 (.x 1)) 25 false,og 27 (.ld (.t 26)) 25 false,og 28 (.call 117 []) 25 false,og 29 (.call 116 [.t 27,.t 28]) 25 false,og 30 (.bin .eql (.t 29) (oi 0)) 25 false,ot 31 (.pick (.t 25) (.c (.bool true)) (.t 30)),ow 19 31]) (.cond (.x 19) (.seq (.reg [ox 2 (.mv (.c (.bool false)))]) .ret) .skip))))))) (.seq (.reg [ot 32 (.fad 0 (.x 1)),ot 33 (.fad 1 (.t 32)),ot 34 (.ld (.t 33)),ot 35 (.fad 2 (.x 1)),ot 36 (.ld (.t 35)),ot 37 (.call 118 [.t 34,.t 36]),ot 38 (.call 117 []),ot 39 (.call 116 [.t 37,.t 38]),ot 40 (.bin .eql (.t 39) (oi 0)),ow 2 40]) .ret)))
def resqValid : List RV := [.t 2]
theorem nbqValid : fnqValid.nb = 0 := rfl
theorem isqValid : IsFn fnqValid 88 codeqValid resqValid := .k Tryz.func88 rfl (by kernel_rfl)
noncomputable def fnslIFCol : FnD := ⟨Tryz.prog,[0,1,4,5,7,8,9,16],[],19,false⟩
def codeslIFCol : DC := (.seq (.reg [ox 4 (.mv (oi 0))]) (.seq (.seq (.reg [om 6 0,ox 7 (.len 4 (.t 6)),ox 8 (.mv (oi 0))]) (.block 0 (.loop (.seq (.reg [ox 9 (.bin .lss (.x 8) (.x 7))]) (.seq (.cond (.x 9) .skip (.exit 0)) (.seq (.block 1 (.seq (.reg [om 10 8,ow 5 10]) (.seq (.reg [om 11 1,om 12 0,om 13 5,ot 14 (.iad 4 (.t 12) (.t 13)),ot 15 (.ldn 4 (.t 14)),ox 16 (.callv (.t 11) [.t 15])]) (.cond (.x 16) (.seq (.reg [om 17 5,ow 4 17]) .ret) .skip)))) (.reg [ot 18 (.bin .add (.x 8) (oi 1)),ow 8 18]))))))) (.seq (.reg [ox 4 (.mv (oi (-1)))]) .ret)))
def resslIFCol : List RV := [.t 4]
theorem isslIFCol : IsFn fnslIFCol 92 codeslIFCol resslIFCol := .k Tryz.func92 rfl (by kernel_rfl)
noncomputable def fnsTake : FnD := ⟨Tryz.prog,[0,1,2,5],[],13,false⟩
def codesTake : DC := (.seq (.reg [ox 1 (.box (.x 0)),ox 2 (.alloc [(.bool false),.nils])]) (.seq (.seq (.reg [ot 3 (.ldn 2 (.x 1)),ot 4 (.call 127 [.t 3]),ox 5 (.un .not (.t 4))]) (.cond (.x 5) (.seq (.reg [ot 6 (.build [(.bool false),.nils] []),on (.stn 2 (.x 2) (.t 6))]) .ret) .skip)) (.seq (.regd [ot 7 (.fad 0 (.x 1)),ot 8 (.ld (.t 7)),ot 9 (.fad 1 (.x 1)),ot 10 (.ld (.t 9)),ot 11 (.call 97 [.t 10]),ot 12 (.build [(.bool false),.nils] [(0,1,.t 8),(1,1,.t 11)]),on (.stn 2 (.x 2) (.t 12))]) .ret)))
def ressTake : List RV := [.cn 2 2]
theorem nbsTake : fnsTake.nb = 0 := rfl
theorem issTake : IsFn fnsTake 96 codesTake ressTake := .k Tryz.func96 rfl (by kernel_rfl)
noncomputable def fnsDiv : FnD := ⟨Tryz.prog,[0,1,2,3,4,5,6,7,8,9,24,33],[],53,false⟩
def codesDiv : DC := (.seq (.reg [ox 2 (.box (.x 0)),ox 3 (.box (.x 1)),ox 4 (.alloc [(.bool false),.nils]),ox 5 (.alloc [(.bool false),.nils]),ox 6 (.mv (.c (.bool false)))]) (.seq (.regd [ot 10 (.ldn 2 (.x 2)),ot 11 (.call 96 [.t 10]),ot 12 (.ldn 2 (.x 3)),ot 13 (.call 96 [.t 12]),on (.stn 2 (.x 2) (.t 11)),on (.stn 2 (.x 3) (.t 13))]) (.seq (.reg [ot 15 (.fad 1 (.x 2)),ot 16 (.ld (.t 15)),ot 17 (.fad 1 (.x 3)),ot 18 (.ld (.t 17)),ot 19 (.call 136 [.t 16,.t 18]),ot 14 (.mv (.t 19)),ot 20 (.ext (.t 14) 0),ot 21 (.ext (.t 14) 1),ot 22 (.ext (.t 14) 2),ow 7 20,ow 8 21,ow 9 22]) (.seq (.seq (.reg [om 23 9,ox 24 (.un .not (.t 23))]) (.cond (.x 24) (.seq (.reg [ot 25 (.build [(.bool false),.nils] []),ot 26 (.build [(.bool false),.nils] []),on (.stn 2 (.x 4) (.t 25)),on (.stn 2 (.x 5) (.t 26)),ox 6 (.mv (.c (.bool false)))]) .ret) .skip)) (.seq (.seq (.reg [ot 27 (.fad 0 (.x 2)),ot 28 (.ld (.t 27)),ot 29 (.mv (.t 28)),og 30 (.mv (.x 8)) 29 true,og 31 (.len 1 (.t 30)) 29 true,og 32 (.bin .gtr (.t 31) (oi 0)) 29 true,ox 33 (.pick (.t 29) (.t 32) (.c (.bool false)))]) (.cond (.x 33) (.seq (.reg [om 34 7,ot 35 (.bsl 1 [(.int .u32 0)] [(0,1,(.c (.int .u32 1)))]),ot 36 (.call 112 [.t 34,.t 35]),ow 7 36]) (.reg [ot 38 (.fad 1 (.x 3)),ot 39 (.ld (.t 38)),om 40 8,ot 41 (.call 137 [.t 39,.t 40]),ot 37 (.mv (.t 41)),ot 42 (.ext (.t 37) 0),ot 43 (.ext (.t 37) 1),ow 8 42])) .skip)) (.seq (.reg [ot 44 (.fad 0 (.x 2)),ot 45 (.ld (.t 44)),ot 46 (.fad 0 (.x 3)),ot 47 (.ld (.t 46)),ot 48 (.beq true (.t 45) (.t 47)),om 49 7,ot 50 (.call 102 [.t 48,.t 49]),om 51 8,ot 52 (.call 102 [(.c (.bool false)),.t 51]),on (.stn 2 (.x 4) (.t 50)),on (.stn 2 (.x 5) (.t 52)),ox 6 (.mv (.c (.bool true)))]) .ret))))))
def ressDiv : List RV := [.cn 2 4, .cn 2 5, .t 6]
theorem nbsDiv : fnsDiv.nb = 0 := rfl
theorem issDiv : IsFn fnsDiv 100 codesDiv ressDiv := .k Tryz.func100 rfl (by kernel_rfl)
noncomputable def fnslCFCell : FnD := ⟨Tryz.prog,[0,1,4],[],9,false⟩
def codeslCFCell : DC := (.seq (.reg [ox 4 (.mv (.c (.bool false)))]) (.seq (.reg [om 5 0,om 6 1,ot 7 (.call 139 [.t 5,.t 6]),ot 8 (.bin .geq (.t 7) (oi 0)),ow 4 8]) .ret))
def resslCFCell : List RV := [.t 4]
theorem isslCFCell : IsFn fnslCFCell 104 codeslCFCell resslCFCell := .k Tryz.func104 rfl (by kernel_rfl)
noncomputable def fnrFromUint : FnD := ⟨Tryz.prog,[0,2],[],10,false⟩
def coderFromUint : DC := (.seq (.reg [ox 2 (.mv (.c .nils))]) (.seq (.reg [om 3 0,ot 4 (.conv .u32 (.t 3)),om 5 0,ot 6 (.bin .shr (.t 5) (.c (.int .u64 32))),ot 7 (.conv .u32 (.t 6)),ot 8 (.bsl 1 [(.int .u32 0),(.int .u32 0)] [(0,1,.t 4),(1,1,.t 7)]),ot 9 (.call 146 [.t 8]),ow 2 9]) .ret))
def resrFromUint : List RV := [.t 2]
theorem isrFromUint : IsFn fnrFromUint 113 coderFromUint resrFromUint := .k Tryz.func113 rfl (by kernel_rfl)
noncomputable def fnq_one : FnD := ⟨Tryz.prog,[0],[],2,false⟩
def codeq_one : DC := (.seq (.reg [ox 0 (.mv (.c .nils))]) (.seq (.reg [ot 1 (.bsl 1 [(.int .u32 0)] [(0,1,(.c (.int .u32 1)))]),ow 0 1]) .ret))
def resq_one : List RV := [.t 0]
theorem isq_one : IsFn fnq_one 117 codeq_one resq_one := .k Tryz.func117 rfl (by kernel_rfl)
noncomputable def fnnMul : FnD := ⟨Tryz.prog,[0,1,4,5,6,7,8,9,10,21,22,23,24,28,29,30,31],[],71,false⟩
def codenMul : DC := (.seq (.reg [ox 4 (.mv (.c .nils))]) (.seq (.reg [om 11 0,ot 12 (.call 147 [.t 11]),om 13 1,ot 14 (.call 147 [.t 13]),ow 0 12,ow 1 14]) (.seq (.reg [om 15 0,ot 16 (.len 1 (.t 15)),om 17 1,ot 18 (.len 1 (.t 17)),ot 19 (.bin .add (.t 16) (.t 18)),ot 20 (.mks 1 4 [(.int .u32 0)] (.t 19) (.t 19)),ow 5 20]) (.seq (.seq (.reg [ox 21 (.mv (.x 0)),ox 22 (.len 1 (.x 21)),ox 23 (.mv (oi 0))]) (.block 0 (.loop (.seq (.reg [ox 24 (.bin .lss (.x 23) (.x 22))]) (.seq (.cond (.x 24) .skip (.exit 0)) (.seq (.block 1 (.seq (.reg [om 25 23,ot 26 (.iad 1 (.x 21) (.x 23)),ot 27 (.ld (.t 26)),ow 6 25,ow 7 27]) (.seq (.reg [ox 8 (.mv (.c (.int .u64 0)))]) (.seq (.seq (.reg [ox 28 (.mv (.x 1)),ox 29 (.len 1 (.x 28)),ox 30 (.mv (oi 0))]) (.block 2 (.loop (.seq (.reg [ox 31 (.bin .lss (.x 30) (.x 29))]) (.seq (.cond (.x 31) .skip (.exit 2)) (.seq (.block 3 (.seq (.reg [om 32 30,ot 33 (.iad 1 (.x 28) (.x 30)),ot 34 (.ld (.t 33)),ow 9 32,ow 10 34]) (.seq (.reg [om 35 8,om 36 7,ot 37 (.conv .u64 (.t 36)),om 38 10,ot 39 (.conv .u64 (.t 38)),ot 40 (.bin .mul (.t 37) (.t 39)),om 41 5,om 42 6,om 43 9,ot 44 (.bin .add (.t 42) (.t 43)),ot 45 (.iad 1 (.t 41) (.t 44)),ot 46 (.ld (.t 45)),ot 47 (.conv .u64 (.t 46)),ot 48 (.bin .add (.t 40) (.t 47)),ot 49 (.bin .add (.t 35) (.t 48)),ow 8 49]) (.seq (.reg [om 50 5,om 51 6,om 52 9,ot 53 (.bin .add (.t 51) (.t 52)),om 54 8,ot 55 (.conv .u32 (.t 54)),ot 56 (.iad 1 (.t 50) (.t 53)),on (.st (.t 56) (.t 55))]) (.reg [om 57 8,ot 58 (.bin .shr (.t 57) (.c (.int .u64 32))),ow 8 58]))))) (.reg [ot 59 (.bin .add (.x 30) (oi 1)),ow 30 59]))))))) (.reg [om 60 5,om 61 6,om 62 1,ot 63 (.len 1 (.t 62)),ot 64 (.bin .add (.t 61) (.t 63)),om 65 8,ot 66 (.conv .u32 (.t 65)),ot 67 (.iad 1 (.t 60) (.t 64)),on (.st (.t 67) (.t 66))]))))) (.reg [ot 68 (.bin .add (.x 23) (oi 1)),ow 23 68]))))))) (.seq (.reg [om 69 5,ot 70 (.call 161 [.t 69]),ow 4 70]) .ret)))))
def resnMul : List RV := [.t 4]
theorem nbnMul : fnnMul.nb = 0 := rfl
theorem isnMul : IsFn fnnMul 125 codenMul resnMul := .k Tryz.func125 rfl (by kernel_rfl)
noncomputable def fnrGcd : FnD := ⟨Tryz.prog,[0,1,4,6,14],[],25,false⟩
def coderGcd : DC := (.seq (.reg [ox 4 (.mv (.c .nils))]) (.seq (.reg [om 8 0,ot 9 (.call 97 [.t 8]),om 10 1,ot 11 (.call 97 [.t 10]),ow 0 9,ow 1 11]) (.seq (.block 0 (.loop (.seq (.seq (.reg [om 12 1,ot 13 (.len 1 (.t 12)),ox 14 (.bin .gtr (.t 13) (oi 0))]) (.cond (.x 14) .skip (.exit 0))) (.block 1 (.seq (.reg [om 16 0,om 17 1,ot 18 (.call 136 [.t 16,.t 17]),ot 15 (.mv (.t 18)),ot 19 (.ext (.t 15) 0),ot 20 (.ext (.t 15) 1),ot 21 (.ext (.t 15) 2),ot 5 (.mv (.t 19)),ow 6 20,ot 7 (.mv (.t 21))]) (.reg [om 22 1,om 23 6,ow 0 22,ow 1 23])))))) (.seq (.reg [om 24 0,ow 4 24]) .ret))))
def resrGcd : List RV := [.t 4]
theorem isrGcd : IsFn fnrGcd 129 coderGcd resrGcd := .k Tryz.func129 rfl (by kernel_rfl)
noncomputable def fnrSub : FnD := ⟨Tryz.prog,[0,1,4,5,6,7,8,9,17,21],[],44,false⟩
def coderSub : DC := (.seq (.reg [ox 4 (.mv (.c .nils)),ox 5 (.mv (.c (.bool false)))]) (.seq (.reg [om 10 0,ot 11 (.call 97 [.t 10]),om 12 1,ot 13 (.call 97 [.t 12]),ow 0 11,ow 1 13]) (.seq (.seq (.reg [om 14 0,om 15 1,ot 16 (.call 168 [.t 14,.t 15]),ox 17 (.bin .lss (.t 16) (oi 0))]) (.cond (.x 17) (.seq (.reg [ox 4 (.mv (.c .nils)),ox 5 (.mv (.c (.bool false)))]) .ret) .skip)) (.seq (.reg [ox 6 (.mv (.c .nils))]) (.seq (.reg [ox 7 (.mv (.c (.int .u64 0)))]) (.seq (.seq (.reg [ox 8 (.mv (oi 0))]) (.block 0 (.loop (.seq (.seq (.reg [om 18 8,om 19 0,ot 20 (.len 1 (.t 19)),ox 21 (.bin .lss (.t 18) (.t 20))]) (.cond (.x 21) .skip (.exit 0))) (.seq (.block 1 (.seq (.reg [om 24 0,om 25 8,ot 26 (.call 145 [.t 24,.t 25]),ot 27 (.bin .add (.t 26) (.c (.int .u64 4294967296))),om 28 1,om 29 8,ot 30 (.call 145 [.t 28,.t 29]),ot 31 (.bin .sub (.t 27) (.t 30)),om 32 7,ot 33 (.bin .sub (.t 31) (.t 32)),ow 9 33]) (.reg [om 34 6,om 35 9,ot 36 (.conv .u32 (.t 35)),ot 37 (.bsl 1 [(.int .u32 0)] [(0,1,.t 36)]),ot 38 (.app 127 1 4 (.t 34) (.t 37)),om 39 9,ot 40 (.bin .shr (.t 39) (.c (.int .u64 32))),ot 41 (.bin .sub (.c (.int .u64 1)) (.t 40)),ow 6 38,ow 7 41]))) (.reg [om 22 8,ot 23 (.bin .add (.t 22) (oi 1)),ow 8 23])))))) (.seq (.reg [om 42 6,ot 43 (.call 146 [.t 42]),ow 4 43,ox 5 (.mv (.c (.bool true)))]) .ret)))))))
def resrSub : List RV := [.t 4, .t 5]
theorem nbrSub : fnrSub.nb = 0 := rfl
theorem isrSub : IsFn fnrSub 137 coderSub resrSub := .k Tryz.func137 rfl (by kernel_rfl)
noncomputable def fnnFromUint : FnD := ⟨Tryz.prog,[0,2],[],10,false⟩
def codenFromUint : DC := (.seq (.reg [ox 2 (.mv (.c .nils))]) (.seq (.reg [om 3 0,ot 4 (.conv .u32 (.t 3)),om 5 0,ot 6 (.bin .shr (.t 5) (.c (.int .u64 32))),ot 7 (.conv .u32 (.t 6)),ot 8 (.bsl 1 [(.int .u32 0),(.int .u32 0)] [(0,1,.t 4),(1,1,.t 7)]),ot 9 (.call 161 [.t 8]),ow 2 9]) .ret))
def resnFromUint : List RV := [.t 2]
theorem isnFromUint : IsFn fnnFromUint 141 codenFromUint resnFromUint := .k Tryz.func141 rfl (by kernel_rfl)
noncomputable def fnrLimb : FnD := ⟨Tryz.prog,[0,1,4,8],[],14,false⟩
def coderLimb : DC := (.seq (.reg [ox 4 (.mv (.c (.int .u64 0)))]) (.seq (.seq (.reg [om 5 1,om 6 0,ot 7 (.len 1 (.t 6)),ox 8 (.bin .geq (.t 5) (.t 7))]) (.cond (.x 8) (.seq (.reg [ox 4 (.mv (.c (.int .u64 0)))]) .ret) .skip)) (.seq (.reg [om 9 0,om 10 1,ot 11 (.iad 1 (.t 9) (.t 10)),ot 12 (.ld (.t 11)),ot 13 (.conv .u64 (.t 12)),ow 4 13]) .ret)))
def resrLimb : List RV := [.t 4]
theorem isrLimb : IsFn fnrLimb 145 coderLimb resrLimb := .k Tryz.func145 rfl (by kernel_rfl)
noncomputable def fnngcd : FnD := ⟨Tryz.prog,[0,1,4,6],[],12,false⟩
def codengcd : DC := (.seq (.reg [ox 4 (.mv (.c (.int .u64 0)))]) (.seq (.block 0 (.loop (.seq (.seq (.reg [om 5 1,ox 6 (.bin .neq (.t 5) (.c (.int .u64 0)))]) (.cond (.x 6) .skip (.exit 0))) (.block 1 (.regd [om 7 1,om 8 0,om 9 1,ot 10 (.bin .rem (.t 8) (.t 9)),ow 0 7,ow 1 10]))))) (.seq (.reg [om 11 0,ow 4 11]) .ret)))
def resngcd : List RV := [.t 4]
theorem isngcd : IsFn fnngcd 149 codengcd resngcd := .k Tryz.func149 rfl (by kernel_rfl)
noncomputable def fnstrCut : FnD := ⟨Tryz.prog,[0,1,4,5,6],[],13,false⟩
def codestrCut : DC := (.seq (.reg [ox 4 (.mv (.c (.str []))),ox 5 (.mv (.c (.str []))),ox 6 (.mv (.c (.bool false)))]) (.seq (.reg [om 7 0,om 8 1,ot 9 (.call 175 [.t 7,.t 8]),ot 10 (.ext (.t 9) 0),ot 11 (.ext (.t 9) 1),ot 12 (.ext (.t 9) 2),ow 4 10,ow 5 11,ow 6 12]) .ret))
def resstrCut : List RV := [.t 4, .t 5, .t 6]
theorem isstrCut : IsFn fnstrCut 154 codestrCut resstrCut := .k Tryz.func154 rfl (by kernel_rfl)
noncomputable def fnq_significant : FnD := ⟨Tryz.prog,[0,2,6],[],8,false⟩
def codeq_significant : DC := (.seq (.reg [ox 2 (.mv (.c (.str [])))]) (.seq (.seq (.reg [om 3 0,ot 4 (.call 180 [.t 3,(.c (.str [48]))]),ow 0 4]) (.seq (.reg [om 5 0,ox 6 (.bin .eql (.t 5) (.c (.str [])))]) (.cond (.x 6) (.seq (.reg [ox 2 (.mv (.c (.str [48])))]) .ret) .skip))) (.seq (.reg [om 7 0,ow 2 7]) .ret)))
def resq_significant : List RV := [.t 2]
theorem isq_significant : IsFn fnq_significant 159 codeq_significant resq_significant := .k Tryz.func159 rfl (by kernel_rfl)
noncomputable def fnrBit : FnD := ⟨Tryz.prog,[0,1,4],[],15,false⟩
def coderBit : DC := (.seq (.reg [ox 4 (.mv (.c (.int .u32 0)))]) (.seq (.reg [om 5 0,om 6 1,ot 7 (.bin .quo (.t 6) (oi 32)),ot 8 (.iad 1 (.t 5) (.t 7)),ot 9 (.ld (.t 8)),om 10 1,ot 11 (.bin .rem (.t 10) (oi 32)),ot 12 (.conv .u64 (.t 11)),ot 13 (.bin .shr (.t 9) (.t 12)),ot 14 (.bin .and (.t 13) (.c (.int .u32 1))),ow 4 14]) .ret))
def resrBit : List RV := [.t 4]
theorem isrBit : IsFn fnrBit 167 coderBit resrBit := .k Tryz.func167 rfl (by kernel_rfl)
noncomputable def fnnSub : FnD := ⟨Tryz.prog,[0,1,4,5,6,7,8,9,10,18,22,23,24,25,32],[],50,false⟩
def codenSub : DC := (.seq (.reg [ox 4 (.mv (.c .nils)),ox 5 (.mv (.c (.bool false)))]) (.seq (.reg [om 11 0,ot 12 (.call 147 [.t 11]),om 13 1,ot 14 (.call 147 [.t 13]),ow 0 12,ow 1 14]) (.seq (.seq (.reg [om 15 0,om 16 1,ot 17 (.call 116 [.t 15,.t 16]),ox 18 (.bin .lss (.t 17) (oi 0))]) (.cond (.x 18) (.seq (.reg [ox 4 (.mv (.c .nils)),ox 5 (.mv (.c (.bool false)))]) .ret) .skip)) (.seq (.reg [om 19 0,ot 20 (.len 1 (.t 19)),ot 21 (.mks 1 4 [(.int .u32 0)] (.t 20) (.t 20)),ow 6 21]) (.seq (.reg [ox 7 (.mv (.c (.int .u32 0)))]) (.seq (.seq (.reg [ox 22 (.mv (.x 0)),ox 23 (.len 1 (.x 22)),ox 24 (.mv (oi 0))]) (.block 0 (.loop (.seq (.reg [ox 25 (.bin .lss (.x 24) (.x 23))]) (.seq (.cond (.x 25) .skip (.exit 0)) (.seq (.block 1 (.seq (.reg [om 26 24,ot 27 (.iad 1 (.x 22) (.x 24)),ot 28 (.ld (.t 27)),ow 8 26,ow 9 28]) (.seq (.reg [ox 10 (.mv (.c (.int .u32 0)))]) (.seq (.seq (.reg [om 29 8,om 30 1,ot 31 (.len 1 (.t 30)),ox 32 (.bin .lss (.t 29) (.t 31))]) (.cond (.x 32) (.reg [om 33 1,om 34 8,ot 35 (.iad 1 (.t 33) (.t 34)),ot 36 (.ld (.t 35)),ow 10 36]) .skip)) (.reg [om 38 6,om 39 8,om 40 9,om 41 10,om 42 7,ot 43 (.call 183 [.t 40,.t 41,.t 42]),ot 37 (.mv (.t 43)),ot 44 (.ext (.t 37) 0),ot 45 (.ext (.t 37) 1),ot 46 (.iad 1 (.t 38) (.t 39)),on (.st (.t 46) (.t 44)),ow 7 45]))))) (.reg [ot 47 (.bin .add (.x 24) (oi 1)),ow 24 47]))))))) (.seq (.reg [om 48 6,ot 49 (.call 161 [.t 48]),ow 4 49,ox 5 (.mv (.c (.bool true)))]) .ret)))))))
def resnSub : List RV := [.t 4, .t 5]
theorem nbnSub : fnnSub.nb = 0 := rfl
theorem isnSub : IsFn fnnSub 171 codenSub resnSub := .k Tryz.func171 rfl (by kernel_rfl)
noncomputable def fnislCut : FnD := ⟨Tryz.prog,[0,1,4,5,6,7,12],[],23,false⟩
def codeislCut : DC := (.seq (.reg [ox 4 (.mv (.c (.str []))),ox 5 (.mv (.c (.str []))),ox 6 (.mv (.c (.bool false)))]) (.seq (.seq (.reg [om 8 0,om 9 1,ot 10 (.call 190 [.t 8,.t 9]),ow 7 10]) (.seq (.reg [om 11 7,ox 12 (.bin .geq (.t 11) (oi 0))]) (.cond (.x 12) (.seq (.regd [om 13 0,om 14 7,ot 15 (.slcS (.t 13) none (some (.t 14))),om 16 0,om 17 7,om 18 1,ot 19 (.lenS (.t 18)),ot 20 (.bin .add (.t 17) (.t 19)),ot 21 (.slcS (.t 16) (some (.t 20)) none),ow 4 15,ow 5 21,ox 6 (.mv (.c (.bool true)))]) .ret) .skip))) (.seq (.reg [om 22 0,ow 4 22,ox 5 (.mv (.c (.str []))),ox 6 (.mv (.c (.bool false)))]) .ret)))
def resislCut : List RV := [.t 4, .t 5, .t 6]
theorem isislCut : IsFn fnislCut 175 codeislCut resislCut := .k Tryz.func175 rfl (by kernel_rfl)
noncomputable def fnDiv32 : FnD := ⟨Tryz.prog,[0,1,2,6,7,8,15],[],33,false⟩
def codeDiv32 : DC := (.seq (.reg [ox 6 (.mv (.c (.int .u32 0))),ox 7 (.mv (.c (.int .u32 0)))]) (.seq (.seq (.reg [om 9 2,ot 10 (.bin .neq (.t 9) (.c (.int .u32 0))),ot 11 (.mv (.t 10)),og 12 (.mv (.x 2)) 11 true,og 13 (.mv (.x 0)) 11 true,og 14 (.bin .leq (.t 12) (.t 13)) 11 true,ox 15 (.pick (.t 11) (.t 14) (.c (.bool false)))]) (.cond (.x 15) (.reg [ot 16 (.ld (.c .undef)),on (.pan (.t 16))]) .skip)) (.seq (.reg [om 17 0,ot 18 (.conv .u64 (.t 17)),ot 19 (.bin .shl (.t 18) (.c (.int .u64 32))),om 20 1,ot 21 (.conv .u64 (.t 20)),ot 22 (.bin .or (.t 19) (.t 21)),ow 8 22]) (.seq (.regd [om 23 8,om 24 2,ot 25 (.conv .u64 (.t 24)),ot 26 (.bin .quo (.t 23) (.t 25)),ot 27 (.conv .u32 (.t 26)),om 28 8,om 29 2,ot 30 (.conv .u64 (.t 29)),ot 31 (.bin .rem (.t 28) (.t 30)),ot 32 (.conv .u32 (.t 31)),ow 6 27,ow 7 32]) .ret))))
def resDiv32 : List RV := [.t 6, .t 7]
theorem isDiv32 : IsFn fnDiv32 184 codeDiv32 resDiv32 := .k Tryz.func184 rfl (by kernel_rfl)
noncomputable def fnnReduce : FnD := ⟨Tryz.prog,[0,1,2,6,7,8,9,10,12,13,14,19],[],49,false⟩
def codenReduce : DC := (.seq (.reg [ox 6 (.mv (.c (.bool false)))]) (.seq (.reg [ox 7 (.mv (.c (.int .u64 0))),ox 8 (.mv (.c (.int .u32 0)))]) (.seq (.seq (.reg [om 11 0,ox 12 (.len 1 (.t 11)),ox 13 (.mv (oi 0))]) (.block 0 (.loop (.seq (.reg [ox 14 (.bin .lss (.x 13) (.x 12))]) (.seq (.cond (.x 14) .skip (.exit 0)) (.seq (.block 1 (.seq (.reg [om 15 13,ow 9 15]) (.seq (.reg [ox 10 (.mv (.c (.int .u64 0)))]) (.seq (.seq (.reg [om 16 9,om 17 1,ot 18 (.len 1 (.t 17)),ox 19 (.bin .lss (.t 16) (.t 18))]) (.cond (.x 19) (.reg [om 20 1,om 21 9,ot 22 (.iad 1 (.t 20) (.t 21)),ot 23 (.ld (.t 22)),ot 24 (.conv .u64 (.t 23)),ow 10 24]) .skip)) (.seq (.reg [om 25 7,om 26 2,om 27 10,ot 28 (.bin .mul (.t 26) (.t 27)),ot 29 (.bin .add (.t 25) (.t 28)),ow 7 29]) (.seq (.reg [om 31 0,om 32 9,om 33 0,om 34 9,ot 35 (.iad 1 (.t 33) (.t 34)),ot 36 (.ld (.t 35)),om 37 7,ot 38 (.conv .u32 (.t 37)),om 39 8,ot 40 (.call 183 [.t 36,.t 38,.t 39]),ot 30 (.mv (.t 40)),ot 41 (.ext (.t 30) 0),ot 42 (.ext (.t 30) 1),ot 43 (.iad 1 (.t 31) (.t 32)),on (.st (.t 43) (.t 41)),ow 8 42]) (.reg [om 44 7,ot 45 (.bin .shr (.t 44) (.c (.int .u64 32))),ow 7 45]))))))) (.reg [ot 46 (.bin .add (.x 13) (oi 1)),ow 13 46]))))))) (.seq (.reg [om 47 8,ot 48 (.bin .neq (.t 47) (.c (.int .u32 0))),ow 6 48]) .ret))))
def resnReduce : List RV := [.t 6]
theorem isnReduce : IsFn fnnReduce 188 codenReduce resnReduce := .k Tryz.func188 rfl (by kernel_rfl)
noncomputable def fnltInserts : FnD := ⟨Tryz.prog,[0,1,2,3,6,7,8,9,10,11,12,13,14,15,16,17,18,36,51,81,85],[],124,false⟩
def codeltInserts : DC := (.seq (.reg [ox 3 (.box (.x 0)),ox 6 (.mv (.c (.bool false)))]) (.seq (.seq (.reg [ot 19 (.ldn 2 (.x 3)),ot 20 (.call 28 [.t 19]),ot 21 (.un .not (.t 20)),ot 22 (.mv (.t 21)),og 23 (.mv (.x 2)) 22 false,og 24 (.call 33 [.t 23]) 22 false,og 25 (.un .not (.t 24)) 22 false,ot 26 (.pick (.t 22) (.c (.bool true)) (.t 25)),ot 27 (.mv (.t 26)),og 28 (.ldn 2 (.x 3)) 27 false,og 29 (.call 29 [.t 28]) 27 false,og 30 (.un .not (.t 29)) 27 false,ot 31 (.pick (.t 27) (.c (.bool true)) (.t 30)),ot 32 (.mv (.t 31)),og 33 (.fad 0 (.x 3)) 32 false,og 34 (.ld (.t 33)) 32 false,og 35 (.bin .gtr (.t 34) (oi 40)) 32 false,ox 36 (.pick (.t 32) (.c (.bool true)) (.t 35))]) (.cond (.x 36) (.seq (.reg [ot 37 (.call 12 []),ow 6 37]) .ret) .skip)) (.seq (.reg [om 38 1,ot 39 (.fad 0 (.x 3)),ot 40 (.ld (.t 39)),ot 41 (.bin .add (.t 40) (oi 1)),ot 42 (.call 16 [.t 38,.t 41]),ow 1 42]) (.seq (.seq (.reg [ot 44 (.ldn 2 (.x 3)),om 45 1,om 46 2,ot 47 (.call 34 [.t 44,.t 45,.t 46]),ot 43 (.mv (.t 47)),ot 48 (.ext (.t 43) 0),ot 49 (.ext (.t 43) 1),ox 7 (.alloc [(.int .i64 0),.nils]),on (.stn 2 (.x 7) (.t 48)),ow 8 49]) (.seq (.reg [om 50 8,ox 51 (.bin .eql (.t 50) (oi 0))]) (.cond (.x 51) (.seq (.reg [ot 53 (.ldn 2 (.x 7)),om 54 1,ot 55 (.call 35 [.t 53,.t 54]),ot 52 (.mv (.t 55)),ot 56 (.ext (.t 52) 0),ot 57 (.ext (.t 52) 1),ox 9 (.alloc [(.int .i64 0),.nils]),on (.stn 2 (.x 9) (.t 56)),ow 10 57]) (.seq (.reg [ot 59 (.ldn 2 (.x 7)),om 60 1,ot 61 (.call 36 [.t 59,.t 60]),ot 58 (.mv (.t 61)),ot 62 (.ext (.t 58) 0),ot 63 (.ext (.t 58) 1),ow 11 62,ow 12 63]) (.seq (.reg [om 64 10,ot 65 (.bin .neq (.t 64) (oi 0)),ot 66 (.mv (.t 65)),og 67 (.mv (.x 12)) 66 false,og 68 (.bin .neq (.t 67) (oi 0)) 66 false,ot 69 (.pick (.t 66) (.c (.bool true)) (.t 68)),ot 70 (.mv (.t 69)),og 71 (.ldn 2 (.x 9)) 70 false,og 72 (.ldn 2 (.x 3)) 70 false,og 73 (.call 15 [.t 71,.t 72]) 70 false,og 74 (.un .not (.t 73)) 70 false,ot 75 (.pick (.t 70) (.c (.bool true)) (.t 74)),ot 76 (.mv (.t 75)),og 77 (.mv (.x 11)) 76 false,og 78 (.mv (.x 2)) 76 false,og 79 (.call 37 [.t 77,.t 78]) 76 false,og 80 (.un .not (.t 79)) 76 false,ox 81 (.pick (.t 76) (.c (.bool true)) (.t 80))]) (.cond (.x 81) (.seq (.reg [ox 6 (.mv (.c (.bool false)))]) .ret) .skip)))) .skip))) (.seq (.seq (.reg [om 82 1,ot 83 (.fad 0 (.x 3)),ot 84 (.ld (.t 83)),ox 85 (.bin .eql (.t 82) (.t 84))]) (.cond (.x 85) (.seq (.reg [ot 86 (.call 12 []),ow 6 86]) .ret) .skip)) (.seq (.reg [ot 88 (.ldn 2 (.x 3)),om 89 1,ot 90 (.call 36 [.t 88,.t 89]),ot 87 (.mv (.t 90)),ot 91 (.ext (.t 87) 0),ot 92 (.ext (.t 87) 1),ow 13 91,ow 14 92]) (.seq (.reg [ot 94 (.ldn 2 (.x 3)),om 95 1,ot 96 (.call 35 [.t 94,.t 95]),ot 93 (.mv (.t 96)),ot 97 (.ext (.t 93) 0),ot 98 (.ext (.t 93) 1),ox 15 (.alloc [(.int .i64 0),.nils]),on (.stn 2 (.x 15) (.t 97)),ow 16 98]) (.seq (.reg [ot 100 (.ldn 2 (.x 15)),om 101 1,om 102 13,ot 103 (.call 34 [.t 100,.t 101,.t 102]),ot 99 (.mv (.t 103)),ot 104 (.ext (.t 99) 0),ot 105 (.ext (.t 99) 1),ox 17 (.alloc [(.int .i64 0),.nils]),on (.stn 2 (.x 17) (.t 104)),ow 18 105]) (.seq (.reg [ot 106 (.call 12 []),ot 107 (.mv (.t 106)),og 108 (.mv (.x 14)) 107 true,og 109 (.bin .eql (.t 108) (oi 0)) 107 true,ot 110 (.pick (.t 107) (.t 109) (.c (.bool false))),ot 111 (.mv (.t 110)),og 112 (.mv (.x 16)) 111 true,og 113 (.bin .eql (.t 112) (oi 0)) 111 true,ot 114 (.pick (.t 111) (.t 113) (.c (.bool false))),ot 115 (.mv (.t 114)),og 116 (.mv (.x 18)) 115 true,og 117 (.bin .eql (.t 116) (oi 0)) 115 true,ot 118 (.pick (.t 115) (.t 117) (.c (.bool false))),ot 119 (.mv (.t 118)),og 120 (.ldn 2 (.x 17)) 119 true,og 121 (.ldn 2 (.x 3)) 119 true,og 122 (.call 15 [.t 120,.t 121]) 119 true,ot 123 (.pick (.t 119) (.t 122) (.c (.bool false))),ow 6 123]) .ret)))))))))
def resltInserts : List RV := [.t 6]
theorem isltInserts : IsFn fnltInserts 9 codeltInserts resltInserts := .k Tryz.func9 rfl (by kernel_rfl)
noncomputable def fnuValid : FnD := ⟨Tryz.prog,[0,1,2,3,4,18,23,43],[],46,false⟩
def codeuValid : DC := (.seq (.reg [ox 1 (.box (.x 0)),ox 2 (.mv (.c (.bool false)))]) (.seq (.seq (.reg [ot 5 (.fad 0 (.x 1)),ot 6 (.ld (.t 5)),ot 7 (.bin .lss (.t 6) (oi 0)),ot 8 (.mv (.t 7)),og 9 (.fad 0 (.x 1)) 8 false,og 10 (.ld (.t 9)) 8 false,og 11 (.bin .gtr (.t 10) (oi 1024)) 8 false,ot 12 (.pick (.t 8) (.c (.bool true)) (.t 11)),ot 13 (.mv (.t 12)),og 14 (.fad 1 (.x 1)) 13 false,og 15 (.ld (.t 14)) 13 false,og 16 (.len 4 (.t 15)) 13 false,og 17 (.bin .gtr (.t 16) (oi 32)) 13 false,ox 18 (.pick (.t 13) (.c (.bool true)) (.t 17))]) (.cond (.x 18) (.seq (.reg [ox 2 (.mv (.c (.bool false)))]) .ret) .skip)) (.seq (.reg [ox 3 (.mv (.c .nils))]) (.seq (.seq (.reg [ox 4 (.mv (oi 0))]) (.block 0 (.loop (.seq (.seq (.reg [om 19 4,ot 20 (.fad 1 (.x 1)),ot 21 (.ld (.t 20)),ot 22 (.len 4 (.t 21)),ox 23 (.bin .lss (.t 19) (.t 22))]) (.cond (.x 23) .skip (.exit 0))) (.seq (.block 1 (.seq (.reg [om 26 3,ot 27 (.fad 1 (.x 1)),ot 28 (.ld (.t 27)),om 29 4,ot 30 (.iad 4 (.t 28) (.t 29)),ot 31 (.fad 0 (.t 30)),ot 32 (.ld (.t 31)),ot 33 (.bsl 1 [(.str [])] [(0,1,.t 32)]),ot 34 (.app 9 1 16 (.t 26) (.t 33)),ow 3 34]) (.seq (.regd [ot 35 (.fad 1 (.x 1)),ot 36 (.ld (.t 35)),om 37 4,ot 38 (.iad 4 (.t 36) (.t 37)),ot 39 (.ldn 4 (.t 38)),ot 40 (.fad 0 (.x 1)),ot 41 (.ld (.t 40)),ot 42 (.call 71 [.t 39,.t 41]),ox 43 (.un .not (.t 42))]) (.cond (.x 43) (.seq (.reg [ox 2 (.mv (.c (.bool false)))]) .ret) .skip)))) (.reg [om 24 4,ot 25 (.bin .add (.t 24) (oi 1)),ow 4 25])))))) (.seq (.reg [om 44 3,ot 45 (.call 68 [.t 44]),ow 2 45]) .ret)))))
def resuValid : List RV := [.t 2]
theorem isuValid : IsFn fnuValid 29 codeuValid resuValid := .k Tryz.func29 rfl (by kernel_rfl)
noncomputable def fnlt_cells : FnD := ⟨Tryz.prog,[0,2,3,6,10,19],[],20,false⟩
def codelt_cells : DC := (.seq (.reg [ox 2 (.mv (.c (.bool false)))]) (.seq (.seq (.reg [om 4 0,ot 5 (.len 5 (.t 4)),ox 6 (.bin .gtr (.t 5) (oi 40))]) (.cond (.x 6) (.seq (.reg [ox 2 (.mv (.c (.bool false)))]) .ret) .skip)) (.seq (.seq (.reg [ox 3 (.mv (oi 0))]) (.block 0 (.loop (.seq (.seq (.reg [om 7 3,om 8 0,ot 9 (.len 5 (.t 8)),ox 10 (.bin .lss (.t 7) (.t 9))]) (.cond (.x 10) .skip (.exit 0))) (.seq (.block 1 (.seq (.reg [om 13 0,om 14 3,ot 15 (.iad 5 (.t 13) (.t 14)),ot 16 (.fad 1 (.t 15)),ot 17 (.ldn 3 (.t 16)),ot 18 (.call 38 [.t 17]),ox 19 (.un .not (.t 18))]) (.cond (.x 19) (.seq (.reg [ox 2 (.mv (.c (.bool false)))]) .ret) .skip))) (.reg [om 11 3,ot 12 (.bin .add (.t 11) (oi 1)),ow 3 12])))))) (.seq (.reg [ox 2 (.mv (.c (.bool true)))]) .ret))))
def reslt_cells : List RV := [.t 2]
theorem islt_cells : IsFn fnlt_cells 33 codelt_cells reslt_cells := .k Tryz.func33 rfl (by kernel_rfl)
noncomputable def fnuSameCells : FnD := ⟨Tryz.prog,[0,1,4,5,10,14,54],[],55,false⟩
def codeuSameCells : DC := (.seq (.reg [ox 4 (.mv (.c (.bool false)))]) (.seq (.seq (.reg [om 6 0,ot 7 (.len 5 (.t 6)),om 8 1,ot 9 (.len 5 (.t 8)),ox 10 (.bin .neq (.t 7) (.t 9))]) (.cond (.x 10) (.seq (.reg [ox 4 (.mv (.c (.bool false)))]) .ret) .skip)) (.seq (.seq (.reg [ox 5 (.mv (oi 0))]) (.block 0 (.loop (.seq (.seq (.reg [om 11 5,om 12 0,ot 13 (.len 5 (.t 12)),ox 14 (.bin .lss (.t 11) (.t 13))]) (.cond (.x 14) .skip (.exit 0))) (.seq (.block 1 (.seq (.regd [om 17 0,om 18 5,ot 19 (.iad 5 (.t 17) (.t 18)),ot 20 (.fad 0 (.t 19)),ot 21 (.ld (.t 20)),om 22 1,om 23 5,ot 24 (.iad 5 (.t 22) (.t 23)),ot 25 (.fad 0 (.t 24)),ot 26 (.ld (.t 25)),ot 27 (.beq true (.t 21) (.t 26)),ot 28 (.mv (.t 27)),og 29 (.mv (.x 0)) 28 false,og 30 (.mv (.x 5)) 28 false,og 31 (.iad 5 (.t 29) (.t 30)) 28 false,og 32 (.fad 4 (.t 31)) 28 false,og 33 (.ld (.t 32)) 28 false,og 34 (.mv (.x 1)) 28 false,og 35 (.mv (.x 5)) 28 false,og 36 (.iad 5 (.t 34) (.t 35)) 28 false,og 37 (.fad 4 (.t 36)) 28 false,og 38 (.ld (.t 37)) 28 false,og 39 (.bin .neq (.t 33) (.t 38)) 28 false,ot 40 (.pick (.t 28) (.c (.bool true)) (.t 39)),ot 41 (.mv (.t 40)),og 42 (.mv (.x 0)) 41 false,og 43 (.mv (.x 5)) 41 false,og 44 (.iad 5 (.t 42) (.t 43)) 41 false,og 45 (.fad 1 (.t 44)) 41 false,og 46 (.ldn 3 (.t 45)) 41 false,og 47 (.mv (.x 1)) 41 false,og 48 (.mv (.x 5)) 41 false,og 49 (.iad 5 (.t 47) (.t 48)) 41 false,og 50 (.fad 1 (.t 49)) 41 false,og 51 (.ldn 3 (.t 50)) 41 false,og 52 (.call 20 [.t 46,.t 51]) 41 false,og 53 (.un .not (.t 52)) 41 false,ox 54 (.pick (.t 41) (.c (.bool true)) (.t 53))]) (.cond (.x 54) (.seq (.reg [ox 4 (.mv (.c (.bool false)))]) .ret) .skip))) (.reg [om 15 5,ot 16 (.bin .add (.t 15) (oi 1)),ow 5 16])))))) (.seq (.reg [ox 4 (.mv (.c (.bool true)))]) .ret))))
def resuSameCells : List RV := [.t 4]
theorem isuSameCells : IsFn fnuSameCells 37 codeuSameCells resuSameCells := .k Tryz.func37 rfl (by kernel_rfl)
noncomputable def fntFieldNames : FnD := ⟨Tryz.prog,[0,2,3,5,6,7,8,9],[],19,false⟩
def codetFieldNames : DC := (.seq (.reg [ox 2 (.mv (.c .nils))]) (.seq (.reg [ox 3 (.mv (.c .nils))]) (.seq (.seq (.reg [ox 6 (.mv (.x 0)),ox 7 (.len 6 (.x 6)),ox 8 (.mv (oi 0))]) (.block 0 (.loop (.seq (.reg [ox 9 (.bin .lss (.x 8) (.x 7))]) (.seq (.cond (.x 9) .skip (.exit 0)) (.seq (.block 1 (.seq (.reg [ot 10 (.iad 6 (.x 6) (.x 8)),ot 11 (.ldn 6 (.t 10)),ox 5 (.alloc [(.str []),(.int .i64 0),.nils,(.bool false),.nils,.nils]),on (.stn 6 (.x 5) (.t 11))]) (.reg [om 12 3,ot 13 (.fad 0 (.x 5)),ot 14 (.ld (.t 13)),ot 15 (.bsl 1 [(.str [])] [(0,1,.t 14)]),ot 16 (.app 9 1 16 (.t 12) (.t 15)),ow 3 16]))) (.reg [ot 17 (.bin .add (.x 8) (oi 1)),ow 8 17]))))))) (.seq (.reg [om 18 3,ow 2 18]) .ret))))
def restFieldNames : List RV := [.t 2]
theorem istFieldNames : IsFn fntFieldNames 41 codetFieldNames restFieldNames := .k Tryz.func41 rfl (by kernel_rfl)
noncomputable def fntRead : FnD := ⟨Tryz.prog,[0,1,2,4,6,7,8,9,13,26,33,55,61],[],88,false⟩
def codetRead : DC := (.seq (.reg [ox 4 (.box (.x 1)),ox 6 (.mv (oi 0))]) (.seq (.seq (.reg [ot 10 (.fad 2 (.x 4)),ot 11 (.ld (.t 10)),om 12 2,ox 13 (.call 86 [.t 11,.t 12])]) (.cond (.x 13) (.seq (.reg [om 14 0,om 15 0,ot 16 (.nilc (.t 15)),ot 17 (.fad 3 (.t 16)),ot 18 (.ld (.t 17)),ot 19 (.build [(.bool false),(.bool false),.nils,.nils,(.int .i64 0)] [(0,1,(.c (.bool true)))]),ot 20 (.bsl 5 [(.bool false),(.bool false),.nils,.nils,(.int .i64 0)] [(0,5,.t 19)]),ot 21 (.app 51 5 72 (.t 18) (.t 20)),ot 22 (.nilc (.t 14)),ot 23 (.fad 3 (.t 22)),on (.st (.t 23) (.t 21))]) (.seq (.reg [ox 6 (.mv (oi 0))]) .ret)) .skip)) (.seq (.seq (.reg [ot 24 (.fad 1 (.x 4)),ot 25 (.ld (.t 24)),ox 26 (.bin .eql (.t 25) (oi 1))]) (.cond (.x 26) (.seq (.reg [om 28 2,ot 29 (.call 90 [.t 28]),ot 27 (.mv (.t 29)),ot 30 (.ext (.t 27) 0),ot 31 (.ext (.t 27) 1),ox 7 (.alloc [(.bool false),.nils,.nils]),on (.stn 3 (.x 7) (.t 30)),ow 8 31]) (.seq (.seq (.reg [om 32 8,ox 33 (.un .not (.t 32))]) (.cond (.x 33) (.seq (.reg [ox 6 (.mv (oi 4))]) .ret) .skip)) (.seq (.regd [om 34 0,om 35 0,ot 36 (.nilc (.t 35)),ot 37 (.fad 3 (.t 36)),ot 38 (.ld (.t 37)),ot 39 (.ldn 3 (.x 7)),ot 40 (.fad 3 (.x 4)),ot 41 (.ldn 3 (.t 40)),ot 42 (.call 91 [.t 39,.t 41]),ot 43 (.build [(.bool false),(.bool false),.nils,.nils,(.int .i64 0)] [(1,3,.t 42)]),ot 44 (.bsl 5 [(.bool false),(.bool false),.nils,.nils,(.int .i64 0)] [(0,5,.t 43)]),ot 45 (.app 51 5 72 (.t 38) (.t 44)),ot 46 (.nilc (.t 34)),ot 47 (.fad 3 (.t 46)),on (.st (.t 47) (.t 45))]) (.seq (.reg [ox 6 (.mv (oi 0))]) .ret)))) .skip)) (.seq (.reg [om 48 0,ot 49 (.nilc (.t 48)),ot 50 (.fad 2 (.t 49)),ot 51 (.ld (.t 50)),om 52 2,ot 53 (.call 72 [.t 51,.t 52]),ow 9 53]) (.seq (.seq (.reg [om 54 9,ox 55 (.bin .lss (.t 54) (oi 0))]) (.cond (.x 55) (.seq (.seq (.reg [om 56 0,ot 57 (.nilc (.t 56)),ot 58 (.fad 2 (.t 57)),ot 59 (.ld (.t 58)),ot 60 (.len 1 (.t 59)),ox 61 (.bin .eql (.t 60) (oi 32))]) (.cond (.x 61) (.seq (.reg [ox 6 (.mv (oi 2))]) .ret) .skip)) (.seq (.reg [om 62 0,ot 63 (.nilc (.t 62)),ot 64 (.fad 2 (.t 63)),ot 65 (.ld (.t 64)),ot 66 (.len 1 (.t 65)),ow 9 66]) (.reg [om 67 0,om 68 0,ot 69 (.nilc (.t 68)),ot 70 (.fad 2 (.t 69)),ot 71 (.ld (.t 70)),om 72 2,ot 73 (.bsl 1 [(.str [])] [(0,1,.t 72)]),ot 74 (.app 9 1 16 (.t 71) (.t 73)),ot 75 (.nilc (.t 67)),ot 76 (.fad 2 (.t 75)),on (.st (.t 76) (.t 74))]))) .skip)) (.seq (.reg [om 77 0,om 78 0,ot 79 (.nilc (.t 78)),ot 80 (.fad 3 (.t 79)),ot 81 (.ld (.t 80)),om 82 9,ot 83 (.build [(.bool false),(.bool false),.nils,.nils,(.int .i64 0)] [(4,1,.t 82)]),ot 84 (.bsl 5 [(.bool false),(.bool false),.nils,.nils,(.int .i64 0)] [(0,5,.t 83)]),ot 85 (.app 51 5 72 (.t 81) (.t 84)),ot 86 (.nilc (.t 77)),ot 87 (.fad 3 (.t 86)),on (.st (.t 87) (.t 85))]) (.seq (.reg [ox 6 (.mv (oi 0))]) .ret)))))))
def restRead : List RV := [.t 6]
theorem istRead : IsFn fntRead 45 codetRead restRead := .k Tryz.func45 rfl (by kernel_rfl)
noncomputable def fnp_over : FnD := ⟨Tryz.prog,[0,1,2,3,4,5,6,9,14,39],[],45,false⟩
def codep_over : DC := (.seq (.reg [ox 2 (.box (.x 0)),ox 3 (.box (.x 1)),ox 4 (.alloc [(.bool false),.nils,.nils])]) (.seq (.seq (.reg [ot 12 (.ldn 2 (.x 3)),ot 13 (.call 51 [.t 12]),ox 14 (.bin .lss (.t 13) (oi 0))]) (.cond (.x 14) (.regd [ot 15 (.ldn 2 (.x 2)),ot 16 (.call 98 [.t 15]),ot 17 (.ldn 2 (.x 3)),ot 18 (.call 98 [.t 17]),on (.stn 2 (.x 2) (.t 16)),on (.stn 2 (.x 3) (.t 18))]) .skip)) (.seq (.reg [ot 19 (.ldn 2 (.x 2)),ot 20 (.ldn 2 (.x 3)),ot 21 (.call 99 [.t 19,.t 20]),ot 22 (.build [(.bool false),.nils] [(1,1,.t 21)]),ox 5 (.alloc [(.bool false),.nils]),on (.stn 2 (.x 5) (.t 22))]) (.seq (.reg [ot 24 (.ldn 2 (.x 2)),ot 25 (.ldn 2 (.x 5)),ot 26 (.call 100 [.t 24,.t 25]),ot 23 (.mv (.t 26)),ot 27 (.ext (.t 23) 0),ot 28 (.ext (.t 23) 1),ot 29 (.ext (.t 23) 2),ox 6 (.alloc [(.bool false),.nils]),ot 7 (.alloc [(.bool false),.nils]),on (.stn 2 (.x 6) (.t 27)),on (.stn 2 (.t 7) (.t 28)),ot 8 (.mv (.t 29))]) (.seq (.reg [ot 31 (.ldn 2 (.x 3)),ot 32 (.ldn 2 (.x 5)),ot 33 (.call 100 [.t 31,.t 32]),ot 30 (.mv (.t 33)),ot 34 (.ext (.t 30) 0),ot 35 (.ext (.t 30) 1),ot 36 (.ext (.t 30) 2),ox 9 (.alloc [(.bool false),.nils]),ot 10 (.alloc [(.bool false),.nils]),on (.stn 2 (.x 9) (.t 34)),on (.stn 2 (.t 10) (.t 35)),ot 11 (.mv (.t 36))]) (.seq (.seq (.reg [ot 37 (.fad 1 (.x 9)),ot 38 (.ld (.t 37)),ox 39 (.call 101 [.t 38])]) (.cond (.x 39) (.reg [ot 40 (.fad 1 (.x 9)),on (.st (.t 40) (.c .nils))]) .skip)) (.seq (.reg [ot 41 (.ldn 2 (.x 6)),ot 42 (.fad 1 (.x 9)),ot 43 (.ld (.t 42)),ot 44 (.build [(.bool false),.nils,.nils] [(0,2,.t 41),(2,1,.t 43)]),on (.stn 3 (.x 4) (.t 44))]) .ret)))))))
def resp_over : List RV := [.cn 3 4]
theorem nbp_over : fnp_over.nb = 0 := rfl
theorem isp_over : IsFn fnp_over 53 codep_over resp_over := .k Tryz.func53 rfl (by kernel_rfl)
noncomputable def fnrSame : FnD := ⟨Tryz.prog,[0,1,4,5,10,14,25],[],26,false⟩
def coderSame : DC := (.seq (.reg [ox 4 (.mv (.c (.bool false)))]) (.seq (.seq (.reg [om 6 0,ot 7 (.len 1 (.t 6)),om 8 1,ot 9 (.len 1 (.t 8)),ox 10 (.bin .neq (.t 7) (.t 9))]) (.cond (.x 10) (.seq (.reg [ox 4 (.mv (.c (.bool false)))]) .ret) .skip)) (.seq (.seq (.reg [ox 5 (.mv (oi 0))]) (.block 0 (.loop (.seq (.seq (.reg [om 11 5,om 12 0,ot 13 (.len 1 (.t 12)),ox 14 (.bin .lss (.t 11) (.t 13))]) (.cond (.x 14) .skip (.exit 0))) (.seq (.block 1 (.seq (.regd [om 17 0,om 18 5,ot 19 (.iad 1 (.t 17) (.t 18)),ot 20 (.ld (.t 19)),om 21 1,om 22 5,ot 23 (.iad 1 (.t 21) (.t 22)),ot 24 (.ld (.t 23)),ox 25 (.bin .neq (.t 20) (.t 24))]) (.cond (.x 25) (.seq (.reg [ox 4 (.mv (.c (.bool false)))]) .ret) .skip))) (.reg [om 15 5,ot 16 (.bin .add (.t 15) (oi 1)),ow 5 16])))))) (.seq (.reg [ox 4 (.mv (.c (.bool true)))]) .ret))))
def resrSame : List RV := [.t 4]
theorem isrSame : IsFn fnrSame 57 coderSame resrSame := .k Tryz.func57 rfl (by kernel_rfl)
noncomputable def fnsFromInt : FnD := ⟨Tryz.prog,[0,2,4],[],17,false⟩
def codesFromInt : DC := (.seq (.reg [ox 2 (.alloc [(.bool false),.nils])]) (.seq (.seq (.reg [om 3 0,ox 4 (.bin .lss (.t 3) (oi 0))]) (.cond (.x 4) (.seq (.reg [om 5 0,ot 6 (.bin .add (.t 5) (oi 1)),ot 7 (.un .neg (.t 6)),ot 8 (.conv .u64 (.t 7)),ot 9 (.call 113 [.t 8]),ot 10 (.bsl 1 [(.int .u32 0)] [(0,1,(.c (.int .u32 1)))]),ot 11 (.call 112 [.t 9,.t 10]),ot 12 (.call 102 [(.c (.bool true)),.t 11]),on (.stn 2 (.x 2) (.t 12))]) .ret) .skip)) (.seq (.reg [om 13 0,ot 14 (.conv .u64 (.t 13)),ot 15 (.call 113 [.t 14]),ot 16 (.call 102 [(.c (.bool false)),.t 15]),on (.stn 2 (.x 2) (.t 16))]) .ret)))
def ressFromInt : List RV := [.cn 2 2]
theorem nbsFromInt : fnsFromInt.nb = 0 := rfl
theorem issFromInt : IsFn fnsFromInt 85 codesFromInt ressFromInt := .k Tryz.func85 rfl (by kernel_rfl)
noncomputable def fnqSign : FnD := ⟨Tryz.prog,[0,1,2],[],7,false⟩
def codeqSign : DC := (.seq (.reg [ox 1 (.box (.x 0)),ox 2 (.mv (oi 0))]) (.seq (.reg [ot 3 (.ldn 3 (.x 1)),ot 4 (.call 120 [.t 3]),ot 5 (.fldn 0 2 (.t 4)),ot 6 (.call 119 [.t 5]),ow 2 6]) .ret))
def resqSign : List RV := [.t 2]
theorem nbqSign : fnqSign.nb = 0 := rfl
theorem isqSign : IsFn fnqSign 89 codeqSign resqSign := .k Tryz.func89 rfl (by kernel_rfl)
noncomputable def fnpValid : FnD := ⟨Tryz.prog,[0,1,2,17],[],38,false⟩
def codepValid : DC := (.seq (.reg [ox 1 (.box (.x 0)),ox 2 (.mv (.c (.bool false)))]) (.seq (.seq (.reg [ot 3 (.fad 0 (.x 1)),ot 4 (.ldn 2 (.t 3)),ot 5 (.call 127 [.t 4]),ot 6 (.un .not (.t 5)),ot 7 (.mv (.t 6)),og 8 (.fad 2 (.x 1)) 7 false,og 9 (.ld (.t 8)) 7 false,og 10 (.call 128 [.t 9]) 7 false,og 11 (.un .not (.t 10)) 7 false,ot 12 (.pick (.t 7) (.c (.bool true)) (.t 11)),ot 13 (.mv (.t 12)),og 14 (.fad 2 (.x 1)) 13 false,og 15 (.ld (.t 14)) 13 false,og 16 (.call 101 [.t 15]) 13 false,ox 17 (.pick (.t 13) (.c (.bool true)) (.t 16))]) (.cond (.x 17) (.seq (.reg [ox 2 (.mv (.c (.bool false)))]) .ret) .skip)) (.seq (.reg [ot 18 (.fad 2 (.x 1)),ot 19 (.ld (.t 18)),ot 20 (.len 1 (.t 19)),ot 21 (.bin .eql (.t 20) (oi 0)),ot 22 (.mv (.t 21)),og 23 (.fad 0 (.x 1)) 22 false,og 24 (.fad 1 (.t 23)) 22 false,og 25 (.ld (.t 24)) 22 false,og 26 (.len 1 (.t 25)) 22 false,og 27 (.bin .gtr (.t 26) (oi 0)) 22 false,og 28 (.mv (.t 27)) 22 false,og 29 (.fad 0 (.x 1)) 28 true,og 30 (.fad 1 (.t 29)) 28 true,og 31 (.ld (.t 30)) 28 true,og 32 (.fad 2 (.x 1)) 28 true,og 33 (.ld (.t 32)) 28 true,og 34 (.call 129 [.t 31,.t 33]) 28 true,og 35 (.call 101 [.t 34]) 28 true,og 36 (.pick (.t 28) (.t 35) (.c (.bool false))) 22 false,ot 37 (.pick (.t 22) (.c (.bool true)) (.t 36)),ow 2 37]) .ret)))
def respValid : List RV := [.t 2]
theorem nbpValid : fnpValid.nb = 0 := rfl
theorem ispValid : IsFn fnpValid 93 codepValid respValid := .k Tryz.func93 rfl (by kernel_rfl)
noncomputable def fnrTake : FnD := ⟨Tryz.prog,[0,2,5],[],8,false⟩
def coderTake : DC := (.seq (.reg [ox 2 (.mv (.c .nils))]) (.seq (.seq (.reg [om 3 0,ot 4 (.call 128 [.t 3]),ox 5 (.un .not (.t 4))]) (.cond (.x 5) (.seq (.reg [ox 2 (.mv (.c .nils))]) .ret) .skip)) (.seq (.reg [om 6 0,ot 7 (.app 127 1 4 (.c .nils) (.t 6)),ow 2 7]) .ret)))
def resrTake : List RV := [.t 2]
theorem nbrTake : fnrTake.nb = 0 := rfl
theorem isrTake : IsFn fnrTake 97 coderTake resrTake := .k Tryz.func97 rfl (by kernel_rfl)
noncomputable def fnp_one : FnD := ⟨Tryz.prog,[0,2],[],12,false⟩
def codep_one : DC := (.seq (.reg [ox 2 (.mv (.c (.bool false)))]) (.seq (.reg [om 3 0,ot 4 (.len 1 (.t 3)),ot 5 (.bin .eql (.t 4) (oi 1)),ot 6 (.mv (.t 5)),og 7 (.mv (.x 0)) 6 true,og 8 (.iad 1 (.t 7) (oi 0)) 6 true,og 9 (.ld (.t 8)) 6 true,og 10 (.bin .eql (.t 9) (.c (.int .u32 1))) 6 true,ot 11 (.pick (.t 6) (.t 10) (.c (.bool false))),ow 2 11]) .ret))
def resp_one : List RV := [.t 2]
theorem isp_one : IsFn fnp_one 101 codep_one resp_one := .k Tryz.func101 rfl (by kernel_rfl)
noncomputable def fntColumn1 : FnD := ⟨Tryz.prog,[0,1,2,3],[],8,false⟩
def codetColumn1 : DC := (.seq (.reg [ox 2 (.box (.x 0)),ox 3 (.mv (.c (.bool false)))]) (.seq (.reg [ot 4 (.ldn 4 (.x 1)),ot 5 (.ldn 5 (.x 2)),ot 6 (.call 78 [.t 4,.t 5]),ot 7 (.un .not (.t 6)),ow 3 7]) .ret))
def restColumn1 : List RV := [.t 3]
theorem istColumn1 : IsFn fntColumn1 105 codetColumn1 restColumn1 := .k Tryz.func105 rfl (by kernel_rfl)
noncomputable def fniValid : FnD := ⟨Tryz.prog,[0,1,2],[],17,false⟩
def codeiValid : DC := (.seq (.reg [ox 1 (.box (.x 0)),ox 2 (.mv (.c (.bool false)))]) (.seq (.reg [ot 3 (.fad 1 (.x 1)),ot 4 (.ld (.t 3)),ot 5 (.call 115 [.t 4]),ot 6 (.mv (.t 5)),og 7 (.fad 1 (.x 1)) 6 true,og 8 (.ld (.t 7)) 6 true,og 9 (.len 1 (.t 8)) 6 true,og 10 (.bin .gtr (.t 9) (oi 0)) 6 true,og 11 (.mv (.t 10)) 6 true,og 12 (.fad 0 (.x 1)) 11 false,og 13 (.ld (.t 12)) 11 false,og 14 (.un .not (.t 13)) 11 false,og 15 (.pick (.t 11) (.c (.bool true)) (.t 14)) 6 true,ot 16 (.pick (.t 6) (.t 15) (.c (.bool false))),ow 2 16]) .ret))
def resiValid : List RV := [.t 2]
theorem nbiValid : fniValid.nb = 0 := rfl
theorem isiValid : IsFn fniValid 114 codeiValid resiValid := .k Tryz.func114 rfl (by kernel_rfl)
noncomputable def fnnGcd : FnD := ⟨Tryz.prog,[0,1,4,5,6,7,8,10,18,32],[],48,false⟩
def codenGcd : DC := (.seq (.reg [ox 4 (.mv (.c .nils))]) (.seq (.reg [om 12 0,ot 13 (.call 147 [.t 12]),om 14 1,ot 15 (.call 147 [.t 14]),ow 0 13,ow 1 15]) (.seq (.block 0 (.loop (.seq (.seq (.reg [om 16 1,ot 17 (.len 1 (.t 16)),ox 18 (.bin .gtr (.t 17) (oi 0))]) (.cond (.x 18) .skip (.exit 0))) (.block 1 (.seq (.reg [om 20 0,ot 21 (.call 148 [.t 20]),ot 19 (.mv (.t 21)),ot 22 (.ext (.t 19) 0),ot 23 (.ext (.t 19) 1),ow 5 22,ow 6 23]) (.seq (.seq (.reg [om 25 1,ot 26 (.call 148 [.t 25]),ot 24 (.mv (.t 26)),ot 27 (.ext (.t 24) 0),ot 28 (.ext (.t 24) 1),ow 7 27,ow 8 28]) (.seq (.reg [om 29 6,ot 30 (.mv (.t 29)),og 31 (.mv (.x 8)) 30 true,ox 32 (.pick (.t 30) (.t 31) (.c (.bool false)))]) (.cond (.x 32) (.seq (.reg [om 33 5,om 34 7,ot 35 (.call 149 [.t 33,.t 34]),ot 36 (.call 141 [.t 35]),ow 4 36]) .ret) .skip))) (.seq (.reg [om 38 0,om 39 1,ot 40 (.call 150 [.t 38,.t 39]),ot 37 (.mv (.t 40)),ot 41 (.ext (.t 37) 0),ot 42 (.ext (.t 37) 1),ot 43 (.ext (.t 37) 2),ot 9 (.mv (.t 41)),ow 10 42,ot 11 (.mv (.t 43))]) (.reg [om 44 1,om 45 10,ow 0 44,ow 1 45])))))))) (.seq (.reg [om 46 0,ot 47 (.call 151 [.t 46]),ow 4 47]) .ret))))
def resnGcd : List RV := [.t 4]
theorem isnGcd : IsFn fnnGcd 118 codenGcd resnGcd := .k Tryz.func118 rfl (by kernel_rfl)
noncomputable def fnq_unsigned : FnD := ⟨Tryz.prog,[0,2,3,4,5,6,7,8,9,10,11,12,14,21,46,56,88,101],[],115,false⟩
def codeq_unsigned : DC := (.seq (.reg [ox 2 (.mv (.c .nils)),ox 3 (.mv (.c .nils)),ox 4 (.mv (.c (.bool false)))]) (.seq (.seq (.reg [om 16 0,ot 17 (.call 154 [.t 16,(.c (.str [47]))]),ot 15 (.mv (.t 17)),ot 18 (.ext (.t 15) 0),ot 19 (.ext (.t 15) 1),ot 20 (.ext (.t 15) 2),ow 5 18,ow 6 19,ow 7 20]) (.seq (.reg [ox 21 (.mv (.x 7))]) (.cond (.x 21) (.seq (.reg [om 23 5,ot 24 (.call 155 [.t 23]),ot 22 (.mv (.t 24)),ot 25 (.ext (.t 22) 0),ot 26 (.ext (.t 22) 1),ow 2 25,ow 4 26]) (.seq (.reg [om 28 6,ot 29 (.call 155 [.t 28]),ot 27 (.mv (.t 29)),ot 30 (.ext (.t 27) 0),ot 31 (.ext (.t 27) 1),ow 3 30,ow 7 31]) (.seq (.reg [om 32 2,om 33 3,om 34 4,ot 35 (.mv (.t 34)),og 36 (.mv (.x 7)) 35 true,ot 37 (.pick (.t 35) (.t 36) (.c (.bool false))),ot 38 (.mv (.t 37)),og 39 (.mv (.x 3)) 38 true,og 40 (.len 1 (.t 39)) 38 true,og 41 (.bin .gtr (.t 40) (oi 0)) 38 true,ot 42 (.pick (.t 38) (.t 41) (.c (.bool false))),ow 2 32,ow 3 33,ow 4 42]) .ret))) .skip))) (.seq (.reg [ox 8 (.mv (oi 0))]) (.seq (.seq (.reg [om 43 0,ot 44 (.call 156 [.t 43,(.c (.str [101,69]))]),ow 9 44]) (.seq (.reg [om 45 9,ox 46 (.bin .geq (.t 45) (oi 0))]) (.cond (.x 46) (.seq (.seq (.reg [om 48 0,om 49 9,ot 50 (.bin .add (.t 49) (oi 1)),ot 51 (.slcS (.t 48) (some (.t 50)) none),ot 52 (.call 157 [.t 51]),ot 47 (.mv (.t 52)),ot 53 (.ext (.t 47) 0),ot 54 (.ext (.t 47) 1),ow 8 53,ow 4 54]) (.seq (.reg [om 55 4,ox 56 (.un .not (.t 55))]) (.cond (.x 56) (.seq (.reg [ox 2 (.mv (.c .nils)),ox 3 (.mv (.c .nils)),ox 4 (.mv (.c (.bool false)))]) .ret) .skip))) (.reg [om 57 0,om 58 9,ot 59 (.slcS (.t 57) none (some (.t 58))),ow 0 59])) .skip))) (.seq (.reg [om 61 0,ot 62 (.call 154 [.t 61,(.c (.str [46]))]),ot 60 (.mv (.t 62)),ot 63 (.ext (.t 60) 0),ot 64 (.ext (.t 60) 1),ot 65 (.ext (.t 60) 2),ow 10 63,ow 11 64,ow 12 65]) (.seq (.seq (.reg [om 67 10,ot 68 (.call 155 [.t 67]),ot 66 (.mv (.t 68)),ot 69 (.ext (.t 66) 0),ot 70 (.ext (.t 66) 1),ot 13 (.mv (.t 69)),ow 14 70]) (.seq (.reg [om 71 14,ot 72 (.un .not (.t 71)),ot 73 (.mv (.t 72)),og 74 (.mv (.x 12)) 73 false,og 75 (.mv (.t 74)) 73 false,og 76 (.mv (.x 11)) 75 true,og 77 (.call 158 [.t 76]) 75 true,og 78 (.un .not (.t 77)) 75 true,og 79 (.pick (.t 75) (.t 78) (.c (.bool false))) 73 false,ot 80 (.pick (.t 73) (.c (.bool true)) (.t 79)),ot 81 (.mv (.t 80)),og 82 (.mv (.x 10)) 81 false,og 83 (.lenS (.t 82)) 81 false,og 84 (.mv (.x 11)) 81 false,og 85 (.lenS (.t 84)) 81 false,og 86 (.bin .add (.t 83) (.t 85)) 81 false,og 87 (.bin .gtr (.t 86) (oi 4000)) 81 false,ox 88 (.pick (.t 81) (.c (.bool true)) (.t 87))]) (.cond (.x 88) (.seq (.reg [ox 2 (.mv (.c .nils)),ox 3 (.mv (.c .nils)),ox 4 (.mv (.c (.bool false)))]) .ret) .skip))) (.seq (.reg [om 90 10,om 91 11,ot 92 (.bin .add (.t 90) (.t 91)),ot 93 (.call 159 [.t 92]),ot 94 (.call 155 [.t 93]),ot 89 (.mv (.t 94)),ot 95 (.ext (.t 89) 0),ot 96 (.ext (.t 89) 1),ow 2 95,ow 4 96]) (.seq (.reg [om 97 11,ot 98 (.lenS (.t 97)),ot 99 (.call 160 [.t 98]),ow 3 99]) (.seq (.seq (.reg [om 100 8,ox 101 (.bin .lss (.t 100) (oi 0))]) (.cond (.x 101) (.seq (.reg [om 102 2,om 103 3,om 104 8,ot 105 (.un .neg (.t 104)),ot 106 (.call 160 [.t 105]),ot 107 (.call 125 [.t 103,.t 106]),om 108 4,ow 2 102,ow 3 107,ow 4 108]) .ret) .skip)) (.seq (.reg [om 109 2,om 110 8,ot 111 (.call 160 [.t 110]),ot 112 (.call 125 [.t 109,.t 111]),om 113 3,om 114 4,ow 2 112,ow 3 113,ow 4 114]) .ret))))))))))
def resq_unsigned : List RV := [.t 2, .t 3, .t 4]
theorem isq_unsigned : IsFn fnq_unsigned 122 codeq_unsigned resq_unsigned := .k Tryz.func122 rfl (by kernel_rfl)
noncomputable def fnq_den : FnD := ⟨Tryz.prog,[0,1,2,6],[],10,false⟩
def codeq_den : DC := (.seq (.reg [ox 1 (.box (.x 0)),ox 2 (.mv (.c .nils))]) (.seq (.seq (.reg [ot 3 (.fad 2 (.x 1)),ot 4 (.ld (.t 3)),ot 5 (.len 1 (.t 4)),ox 6 (.bin .eql (.t 5) (oi 0))]) (.cond (.x 6) (.seq (.reg [ot 7 (.call 117 []),ow 2 7]) .ret) .skip)) (.seq (.reg [ot 8 (.fad 2 (.x 1)),ot 9 (.ld (.t 8)),ow 2 9]) .ret)))
def resq_den : List RV := [.t 2]
theorem nbq_den : fnq_den.nb = 0 := rfl
theorem isq_den : IsFn fnq_den 126 codeq_den resq_den := .k Tryz.func126 rfl (by kernel_rfl)
noncomputable def fnrTimes : FnD := ⟨Tryz.prog,[0,1,2,6,7,8,9,10,16],[],36,false⟩
def coderTimes : DC := (.seq (.reg [ox 6 (.mv (.c .nils))]) (.seq (.reg [om 11 2,ot 12 (.mks 1 4 [(.int .u32 0)] (.t 11) (.t 11)),ow 7 12]) (.seq (.reg [ox 8 (.mv (.c (.int .u64 0)))]) (.seq (.seq (.reg [ox 9 (.mv (oi 0))]) (.block 0 (.loop (.seq (.seq (.reg [om 13 9,om 14 0,ot 15 (.len 1 (.t 14)),ox 16 (.bin .leq (.t 13) (.t 15))]) (.cond (.x 16) .skip (.exit 0))) (.seq (.block 1 (.seq (.reg [om 19 0,om 20 9,ot 21 (.call 145 [.t 19,.t 20]),om 22 1,ot 23 (.conv .u64 (.t 22)),ot 24 (.bin .mul (.t 21) (.t 23)),om 25 8,ot 26 (.bin .add (.t 24) (.t 25)),ow 10 26]) (.reg [om 27 7,om 28 10,ot 29 (.conv .u32 (.t 28)),ot 30 (.bsl 1 [(.int .u32 0)] [(0,1,.t 29)]),ot 31 (.app 127 1 4 (.t 27) (.t 30)),om 32 10,ot 33 (.bin .shr (.t 32) (.c (.int .u64 32))),ow 7 31,ow 8 33]))) (.reg [om 17 9,ot 18 (.bin .add (.t 17) (oi 1)),ow 9 18])))))) (.seq (.reg [om 34 7,ot 35 (.call 146 [.t 34]),ow 6 35]) .ret)))))
def resrTimes : List RV := [.t 6]
theorem nbrTimes : fnrTimes.nb = 0 := rfl
theorem isrTimes : IsFn fnrTimes 138 coderTimes resrTimes := .k Tryz.func138 rfl (by kernel_rfl)
noncomputable def fnrTrim : FnD := ⟨Tryz.prog,[0,2,14],[],21,false⟩
def coderTrim : DC := (.seq (.reg [ox 2 (.mv (.c .nils))]) (.seq (.block 0 (.loop (.seq (.seq (.reg [om 3 0,ot 4 (.len 1 (.t 3)),ot 5 (.bin .gtr (.t 4) (oi 0)),ot 6 (.mv (.t 5)),og 7 (.mv (.x 0)) 6 true,og 8 (.mv (.x 0)) 6 true,og 9 (.len 1 (.t 8)) 6 true,og 10 (.bin .sub (.t 9) (oi 1)) 6 true,og 11 (.iad 1 (.t 7) (.t 10)) 6 true,og 12 (.ld (.t 11)) 6 true,og 13 (.bin .eql (.t 12) (.c (.int .u32 0))) 6 true,ox 14 (.pick (.t 6) (.t 13) (.c (.bool false)))]) (.cond (.x 14) .skip (.exit 0))) (.block 1 (.reg [om 15 0,om 16 0,ot 17 (.len 1 (.t 16)),ot 18 (.bin .sub (.t 17) (oi 1)),ot 19 (.slc 1 (.t 15) none (some (.t 18))),ow 0 19]))))) (.seq (.reg [om 20 0,ow 2 20]) .ret)))
def resrTrim : List RV := [.t 2]
theorem isrTrim : IsFn fnrTrim 146 coderTrim resrTrim := .k Tryz.func146 rfl (by kernel_rfl)
noncomputable def fnnDiv : FnD := ⟨Tryz.prog,[0,1,4,5,6,7,8,13,17,24],[],48,false⟩
def codenDiv : DC := (.seq (.reg [ox 4 (.mv (.c .nils)),ox 5 (.mv (.c .nils)),ox 6 (.mv (.c (.bool false)))]) (.seq (.reg [om 9 0,ot 10 (.call 147 [.t 9]),om 11 1,ot 12 (.call 147 [.t 11]),ow 0 10,ow 1 12]) (.seq (.block 0 (.seq (.reg [om 14 1,ot 15 (.len 1 (.t 14)),ot 16 (.bin .eql (.t 15) (oi 0)),ow 13 16]) (.cond (.x 13) (.seq (.reg [ox 4 (.mv (.c .nils)),ox 5 (.mv (.c .nils)),ox 6 (.mv (.c (.bool false)))]) .ret) (.seq (.reg [om 18 0,om 19 1,ot 20 (.call 116 [.t 18,.t 19]),ot 21 (.bin .lss (.t 20) (oi 0)),ow 17 21]) (.cond (.x 17) (.seq (.reg [om 22 0,ot 23 (.call 151 [.t 22]),ox 4 (.mv (.c .nils)),ow 5 23,ox 6 (.mv (.c (.bool true)))]) .ret) (.seq (.reg [om 25 1,ot 26 (.len 1 (.t 25)),ot 27 (.bin .eql (.t 26) (oi 1)),ow 24 27]) (.cond (.x 24) (.seq (.reg [om 29 0,om 30 1,ot 31 (.iad 1 (.t 30) (oi 0)),ot 32 (.ld (.t 31)),ot 33 (.call 172 [.t 29,.t 32]),ot 28 (.mv (.t 33)),ot 34 (.ext (.t 28) 0),ot 35 (.ext (.t 28) 1),ow 7 34,ow 8 35]) (.seq (.reg [om 36 7,om 37 8,ot 38 (.conv .u64 (.t 37)),ot 39 (.call 141 [.t 38]),ow 4 36,ow 5 39,ox 6 (.mv (.c (.bool true)))]) .ret)) .skip))))))) (.seq (.reg [om 41 0,om 42 1,ot 43 (.call 173 [.t 41,.t 42]),ot 40 (.mv (.t 43)),ot 44 (.ext (.t 40) 0),ot 45 (.ext (.t 40) 1),ow 4 44,ow 5 45]) (.seq (.reg [om 46 4,om 47 5,ow 4 46,ow 5 47,ox 6 (.mv (.c (.bool true)))]) .ret)))))
def resnDiv : List RV := [.t 4, .t 5, .t 6]
theorem isnDiv : IsFn fnnDiv 150 codenDiv resnDiv := .k Tryz.func150 rfl (by kernel_rfl)
noncomputable def fnnParse : FnD := ⟨Tryz.prog,[0,2,3,4,5,6,7,9,26,33,41,47,48,49,50,58],[],74,false⟩
def codenParse : DC := (.seq (.reg [ox 2 (.mv (.c .nils)),ox 3 (.mv (.c (.bool false)))]) (.seq (.seq (.reg [om 10 0,ot 11 (.bin .eql (.t 10) (.c (.str []))),ot 12 (.mv (.t 11)),og 13 (.mv (.x 0)) 12 false,og 14 (.lenS (.t 13)) 12 false,og 15 (.bin .gtr (.t 14) (oi 4000)) 12 false,ot 16 (.pick (.t 12) (.c (.bool true)) (.t 15)),ot 17 (.mv (.t 16)),og 18 (.mv (.x 0)) 17 false,og 19 (.idx (.t 18) (oi 0)) 17 false,og 20 (.bin .eql (.t 19) (.c (.int .u8 48))) 17 false,og 21 (.mv (.t 20)) 17 false,og 22 (.mv (.x 0)) 21 true,og 23 (.lenS (.t 22)) 21 true,og 24 (.bin .gtr (.t 23) (oi 1)) 21 true,og 25 (.pick (.t 21) (.t 24) (.c (.bool false))) 17 false,ox 26 (.pick (.t 17) (.c (.bool true)) (.t 25))]) (.cond (.x 26) (.seq (.reg [ox 2 (.mv (.c .nils)),ox 3 (.mv (.c (.bool false)))]) .ret) .skip)) (.seq (.reg [om 27 0,ot 28 (.lenS (.t 27)),ot 29 (.bin .rem (.t 28) (oi 9)),ow 4 29]) (.seq (.seq (.reg [ox 5 (.mv (oi 0))]) (.block 0 (.loop (.seq (.seq (.reg [om 30 5,om 31 0,ot 32 (.lenS (.t 31)),ox 33 (.bin .lss (.t 30) (.t 32))]) (.cond (.x 33) .skip (.exit 0))) (.block 1 (.seq (.reg [om 34 5,ot 35 (.bin .add (.t 34) (oi 9)),ow 6 35]) (.seq (.seq (.reg [om 36 5,ot 37 (.bin .eql (.t 36) (oi 0)),ot 38 (.mv (.t 37)),og 39 (.mv (.x 4)) 38 true,og 40 (.bin .gtr (.t 39) (oi 0)) 38 true,ox 41 (.pick (.t 38) (.t 40) (.c (.bool false)))]) (.cond (.x 41) (.reg [om 42 4,ow 6 42]) .skip)) (.seq (.reg [ox 7 (.mv (.c (.int .u64 0)))]) (.seq (.seq (.reg [om 43 0,om 44 5,om 45 6,ot 46 (.slcS (.t 43) (some (.t 44)) (some (.t 45))),ox 47 (.s2b (.t 46)),ox 48 (.len 1 (.x 47)),ox 49 (.mv (oi 0))]) (.block 2 (.loop (.seq (.reg [ox 50 (.bin .lss (.x 49) (.x 48))]) (.seq (.cond (.x 50) .skip (.exit 2)) (.seq (.block 3 (.seq (.reg [ot 51 (.iad 1 (.x 47) (.x 49)),ot 52 (.ld (.t 51)),ow 9 52]) (.seq (.seq (.reg [om 53 9,ot 54 (.bin .lss (.t 53) (.c (.int .u8 48))),ot 55 (.mv (.t 54)),og 56 (.mv (.x 9)) 55 false,og 57 (.bin .gtr (.t 56) (.c (.int .u8 57))) 55 false,ox 58 (.pick (.t 55) (.c (.bool true)) (.t 57))]) (.cond (.x 58) (.seq (.reg [ox 2 (.mv (.c .nils)),ox 3 (.mv (.c (.bool false)))]) .ret) .skip)) (.reg [om 59 7,ot 60 (.bin .mul (.c (.int .u64 10)) (.t 59)),om 61 9,ot 62 (.bin .sub (.t 61) (.c (.int .u8 48))),ot 63 (.conv .u64 (.t 62)),ot 64 (.bin .add (.t 60) (.t 63)),ow 7 64])))) (.reg [ot 65 (.bin .add (.x 49) (oi 1)),ow 49 65]))))))) (.seq (.reg [om 66 2,ot 67 (.bsl 1 [(.int .u32 0)] [(0,1,(.c (.int .u32 1000000000)))]),ot 68 (.call 125 [.t 66,.t 67]),om 69 7,ot 70 (.call 141 [.t 69]),ot 71 (.call 170 [.t 68,.t 70]),ow 2 71]) (.reg [om 72 6,ow 5 72]))))))))))) (.seq (.reg [om 73 2,ow 2 73,ox 3 (.mv (.c (.bool true)))]) .ret)))))
def resnParse : List RV := [.t 2, .t 3]
theorem isnParse : IsFn fnnParse 155 codenParse resnParse := .k Tryz.func155 rfl (by kernel_rfl)
noncomputable def fnq_ten : FnD := ⟨Tryz.prog,[0,2,3,6],[],18,false⟩
def codeq_ten : DC := (.seq (.reg [ox 2 (.mv (.c .nils))]) (.seq (.reg [ot 4 (.call 117 []),ow 3 4]) (.seq (.block 0 (.loop (.seq (.seq (.reg [om 5 0,ox 6 (.bin .gtr (.t 5) (oi 64))]) (.cond (.x 6) .skip (.exit 0))) (.seq (.block 1 (.reg [om 9 3,ot 10 (.bsl 1 [(.int .u32 0)] [(0,1,(.c (.int .u32 10)))]),ot 11 (.call 181 [.t 10,(oi 64)]),ot 12 (.call 125 [.t 9,.t 11]),ow 3 12])) (.reg [om 7 0,ot 8 (.bin .sub (.t 7) (oi 64)),ow 0 8]))))) (.seq (.reg [om 13 3,ot 14 (.bsl 1 [(.int .u32 0)] [(0,1,(.c (.int .u32 10)))]),om 15 0,ot 16 (.call 181 [.t 14,.t 15]),ot 17 (.call 125 [.t 13,.t 16]),ow 2 17]) .ret))))
def resq_ten : List RV := [.t 2]
theorem isq_ten : IsFn fnq_ten 160 codeq_ten resq_ten := .k Tryz.func160 rfl (by kernel_rfl)
noncomputable def fnrcmp : FnD := ⟨Tryz.prog,[0,1,4,5,10,15,20,31,40],[],41,false⟩
def codercmp : DC := (.seq (.reg [ox 4 (.mv (oi 0))]) (.seq (.seq (.reg [om 6 0,ot 7 (.len 1 (.t 6)),om 8 1,ot 9 (.len 1 (.t 8)),ox 10 (.bin .neq (.t 7) (.t 9))]) (.cond (.x 10) (.seq (.seq (.reg [om 11 0,ot 12 (.len 1 (.t 11)),om 13 1,ot 14 (.len 1 (.t 13)),ox 15 (.bin .lss (.t 12) (.t 14))]) (.cond (.x 15) (.seq (.reg [ox 4 (.mv (oi (-1)))]) .ret) .skip)) (.seq (.reg [ox 4 (.mv (oi 1))]) .ret)) .skip)) (.seq (.seq (.reg [om 16 0,ot 17 (.len 1 (.t 16)),ot 18 (.bin .sub (.t 17) (oi 1)),ow 5 18]) (.block 0 (.loop (.seq (.seq (.reg [om 19 5,ox 20 (.bin .geq (.t 19) (oi 0))]) (.cond (.x 20) .skip (.exit 0))) (.seq (.block 1 (.seq (.seq (.regd [om 23 0,om 24 5,ot 25 (.iad 1 (.t 23) (.t 24)),ot 26 (.ld (.t 25)),om 27 1,om 28 5,ot 29 (.iad 1 (.t 27) (.t 28)),ot 30 (.ld (.t 29)),ox 31 (.bin .lss (.t 26) (.t 30))]) (.cond (.x 31) (.seq (.reg [ox 4 (.mv (oi (-1)))]) .ret) .skip)) (.seq (.regd [om 32 0,om 33 5,ot 34 (.iad 1 (.t 32) (.t 33)),ot 35 (.ld (.t 34)),om 36 1,om 37 5,ot 38 (.iad 1 (.t 36) (.t 37)),ot 39 (.ld (.t 38)),ox 40 (.bin .gtr (.t 35) (.t 39))]) (.cond (.x 40) (.seq (.reg [ox 4 (.mv (oi 1))]) .ret) .skip)))) (.reg [om 21 5,ot 22 (.bin .sub (.t 21) (oi 1)),ow 5 22])))))) (.seq (.reg [ox 4 (.mv (oi 0))]) .ret))))
def resrcmp : List RV := [.t 4]
theorem isrcmp : IsFn fnrcmp 168 codercmp resrcmp := .k Tryz.func168 rfl (by kernel_rfl)
noncomputable def fnnShort : FnD := ⟨Tryz.prog,[0,1,4,5,6,14],[],33,false⟩
def codenShort : DC := (.seq (.reg [ox 4 (.mv (.c .nils)),ox 5 (.mv (.c (.int .u32 0)))]) (.seq (.reg [om 7 0,ot 8 (.len 1 (.t 7)),ot 9 (.mks 1 4 [(.int .u32 0)] (.t 8) (.t 8)),ow 4 9]) (.seq (.seq (.reg [om 10 0,ot 11 (.len 1 (.t 10)),ot 12 (.bin .sub (.t 11) (oi 1)),ow 6 12]) (.block 0 (.loop (.seq (.seq (.reg [om 13 6,ox 14 (.bin .geq (.t 13) (oi 0))]) (.cond (.x 14) .skip (.exit 0))) (.seq (.block 1 (.reg [om 18 4,om 19 6,om 20 5,om 21 0,om 22 6,ot 23 (.iad 1 (.t 21) (.t 22)),ot 24 (.ld (.t 23)),om 25 1,ot 26 (.call 184 [.t 20,.t 24,.t 25]),ot 17 (.mv (.t 26)),ot 27 (.ext (.t 17) 0),ot 28 (.ext (.t 17) 1),ot 29 (.iad 1 (.t 18) (.t 19)),on (.st (.t 29) (.t 27)),ow 5 28])) (.reg [om 15 6,ot 16 (.bin .sub (.t 15) (oi 1)),ow 6 16])))))) (.seq (.reg [om 30 4,ot 31 (.call 161 [.t 30]),om 32 5,ow 4 31,ow 5 32]) .ret))))
def resnShort : List RV := [.t 4, .t 5]
theorem nbnShort : fnnShort.nb = 0 := rfl
theorem isnShort : IsFn fnnShort 172 codenShort resnShort := .k Tryz.func172 rfl (by kernel_rfl)
noncomputable def fnnPower : FnD := ⟨Tryz.prog,[0,1,4,5,11,13,14,15],[],21,false⟩
def codenPower : DC := (.seq (.reg [ox 4 (.mv (.c .nils))]) (.seq (.seq (.reg [om 6 1,ot 7 (.bin .lss (.t 6) (oi 0)),ot 8 (.mv (.t 7)),og 9 (.mv (.x 1)) 8 false,og 10 (.bin .gtr (.t 9) (oi 64)) 8 false,ox 11 (.pick (.t 8) (.c (.bool true)) (.t 10))]) (.cond (.x 11) (.seq (.reg [ox 4 (.mv (.c .nils))]) .ret) .skip)) (.seq (.reg [ot 12 (.bsl 1 [(.int .u32 0)] [(0,1,(.c (.int .u32 1)))]),ow 5 12]) (.seq (.seq (.reg [ox 13 (.mv (.x 1)),ox 14 (.mv (oi 0))]) (.block 0 (.loop (.seq (.reg [ox 15 (.bin .lss (.x 14) (.x 13))]) (.seq (.cond (.x 15) .skip (.exit 0)) (.seq (.block 1 (.reg [om 16 5,om 17 0,ot 18 (.call 125 [.t 16,.t 17]),ow 5 18])) (.reg [ot 19 (.bin .add (.x 14) (oi 1)),ow 14 19]))))))) (.seq (.reg [om 20 5,ow 4 20]) .ret)))))
def resnPower : List RV := [.t 4]
theorem isnPower : IsFn fnnPower 181 codenPower resnPower := .k Tryz.func181 rfl (by kernel_rfl)
noncomputable def fnLz32 : FnD := ⟨Tryz.prog,[0,2],[],6,false⟩
def codeLz32 : DC := (.seq (.reg [ox 2 (.mv (oi 0))]) (.seq (.reg [om 3 0,ot 4 (.call 198 [.t 3]),ot 5 (.bin .sub (oi 32) (.t 4)),ow 2 5]) .ret))
def resLz32 : List RV := [.t 2]
theorem isLz32 : IsFn fnLz32 185 codeLz32 resLz32 := .k Tryz.func185 rfl (by kernel_rfl)
noncomputable def fnnRestore : FnD := ⟨Tryz.prog,[0,1,4,5,6,8,9,10,15],[],34,false⟩
def codenRestore : DC := (.seq (.reg [ox 4 (.mv (.c (.int .u32 0)))]) (.seq (.reg [om 7 0,ox 8 (.len 1 (.t 7)),ox 9 (.mv (oi 0))]) (.block 0 (.loop (.seq (.reg [ox 10 (.bin .lss (.x 9) (.x 8))]) (.seq (.cond (.x 10) .skip (.exit 0)) (.seq (.block 1 (.seq (.reg [om 11 9,ow 5 11]) (.seq (.reg [ox 6 (.mv (.c (.int .u32 0)))]) (.seq (.seq (.reg [om 12 5,om 13 1,ot 14 (.len 1 (.t 13)),ox 15 (.bin .lss (.t 12) (.t 14))]) (.cond (.x 15) (.reg [om 16 1,om 17 5,ot 18 (.iad 1 (.t 16) (.t 17)),ot 19 (.ld (.t 18)),ow 6 19]) .skip)) (.reg [om 21 0,om 22 5,om 23 0,om 24 5,ot 25 (.iad 1 (.t 23) (.t 24)),ot 26 (.ld (.t 25)),om 27 6,om 28 4,ot 29 (.call 182 [.t 26,.t 27,.t 28]),ot 20 (.mv (.t 29)),ot 30 (.ext (.t 20) 0),ot 31 (.ext (.t 20) 1),ot 32 (.iad 1 (.t 21) (.t 22)),on (.st (.t 32) (.t 30)),ow 4 31]))))) (.reg [ot 33 (.bin .add (.x 9) (oi 1)),ow 9 33]))))))))
def resnRestore : List RV := []
theorem isnRestore : IsFn fnnRestore 189 codenRestore resnRestore := .k Tryz.func189 rfl (by kernel_rfl)
noncomputable def fnlt_strings : FnD := ⟨Tryz.prog,[0,2,3,6,10,18],[],19,false⟩
def codelt_strings : DC := (.seq (.reg [ox 2 (.mv (.c (.bool false)))]) (.seq (.seq (.reg [om 4 0,ot 5 (.len 1 (.t 4)),ox 6 (.bin .gtr (.t 5) (oi 40))]) (.cond (.x 6) (.seq (.reg [ox 2 (.mv (.c (.bool false)))]) .ret) .skip)) (.seq (.seq (.reg [ox 3 (.mv (oi 0))]) (.block 0 (.loop (.seq (.seq (.reg [om 7 3,om 8 0,ot 9 (.len 1 (.t 8)),ox 10 (.bin .lss (.t 7) (.t 9))]) (.cond (.x 10) .skip (.exit 0))) (.seq (.block 1 (.seq (.reg [om 13 0,om 14 3,ot 15 (.iad 1 (.t 13) (.t 14)),ot 16 (.ld (.t 15)),ot 17 (.lenS (.t 16)),ox 18 (.bin .gtr (.t 17) (oi 60))]) (.cond (.x 18) (.seq (.reg [ox 2 (.mv (.c (.bool false)))]) .ret) .skip))) (.reg [om 11 3,ot 12 (.bin .add (.t 11) (oi 1)),ow 3 12])))))) (.seq (.reg [ox 2 (.mv (.c (.bool true)))]) .ret))))
def reslt_strings : List RV := [.t 2]
theorem islt_strings : IsFn fnlt_strings 22 codelt_strings reslt_strings := .k Tryz.func22 rfl (by kernel_rfl)
noncomputable def fntInsert : FnD := ⟨Tryz.prog,[0,1,2,3,4,5,6,7,8,9,10,15,25,30,38,39,40,41,52],[],61,false⟩
def codetInsert : DC := (.seq (.reg [ox 3 (.box (.x 0)),ox 4 (.box (.x 1)),ox 5 (.box (.x 2)),ox 6 (.alloc [(.int .i64 0),.nils]),ox 7 (.mv (oi 0))]) (.seq (.block 0 (.seq (.reg [ot 11 (.ldn 2 (.x 3)),ot 12 (.call 21 [.t 11]),ot 13 (.un .not (.t 12)),ow 10 13]) (.cond (.x 10) (.seq (.reg [ot 14 (.build [(.int .i64 0),.nils] []),on (.stn 2 (.x 6) (.t 14)),ox 7 (.mv (oi 4))]) .ret) (.seq (.reg [ot 16 (.ld (.x 4)),ot 17 (.bin .lss (.t 16) (oi 0)),ot 18 (.mv (.t 17)),og 19 (.ld (.x 4)) 18 false,og 20 (.fad 0 (.x 3)) 18 false,og 21 (.ld (.t 20)) 18 false,og 22 (.bin .gtr (.t 19) (.t 21)) 18 false,ot 23 (.pick (.t 18) (.c (.bool true)) (.t 22)),ow 15 23]) (.cond (.x 15) (.seq (.reg [ot 24 (.build [(.int .i64 0),.nils] []),on (.stn 2 (.x 6) (.t 24)),ox 7 (.mv (oi 1))]) .ret) (.seq (.reg [ot 26 (.fad 0 (.x 3)),ot 27 (.ld (.t 26)),ot 28 (.bin .eql (.t 27) (oi 1024)),ow 25 28]) (.cond (.x 25) (.seq (.reg [ot 29 (.build [(.int .i64 0),.nils] []),on (.stn 2 (.x 6) (.t 29)),ox 7 (.mv (oi 2))]) .ret) (.seq (.reg [ot 31 (.ld (.x 5)),ot 32 (.len 5 (.t 31)),ot 33 (.fad 1 (.x 3)),ot 34 (.ld (.t 33)),ot 35 (.len 4 (.t 34)),ot 36 (.bin .neq (.t 32) (.t 35)),ow 30 36]) (.cond (.x 30) (.seq (.reg [ot 37 (.build [(.int .i64 0),.nils] []),on (.stn 2 (.x 6) (.t 37)),ox 7 (.mv (oi 6))]) .ret) .skip))))))))) (.seq (.seq (.reg [ox 38 (.ld (.x 5)),ox 39 (.len 5 (.x 38)),ox 40 (.mv (oi 0))]) (.block 1 (.loop (.seq (.reg [ox 41 (.bin .lss (.x 40) (.x 39))]) (.seq (.cond (.x 41) .skip (.exit 1)) (.seq (.block 2 (.seq (.reg [om 42 40,ot 43 (.iad 5 (.x 38) (.x 40)),ot 44 (.ldn 5 (.t 43)),ox 9 (.alloc [(.bool false),(.bool false),.nils,.nils,(.int .i64 0)]),ow 8 42,on (.stn 5 (.x 9) (.t 44))]) (.seq (.regd [ot 45 (.fad 1 (.x 3)),ot 46 (.ld (.t 45)),om 47 8,ot 48 (.iad 4 (.t 46) (.t 47)),ot 49 (.ldn 4 (.t 48)),ot 50 (.ldn 5 (.x 9)),ot 51 (.call 78 [.t 49,.t 50]),ox 52 (.un .not (.t 51))]) (.cond (.x 52) (.seq (.reg [ot 53 (.build [(.int .i64 0),.nils] []),on (.stn 2 (.x 6) (.t 53)),ox 7 (.mv (oi 9))]) .ret) .skip)))) (.reg [ot 54 (.bin .add (.x 40) (oi 1)),ow 40 54]))))))) (.seq (.reg [ot 55 (.ldn 2 (.x 3)),ot 56 (.fad 0 (.x 3)),ot 57 (.ld (.t 56)),ot 58 (.bin .add (.t 57) (oi 1)),ot 59 (.mkf 79 [.x 4,.x 5]),ot 60 (.call 76 [.t 55,.t 58,.t 59]),on (.stn 2 (.x 6) (.t 60)),ox 7 (.mv (oi 0))]) .ret))))
def restInsert : List RV := [.cn 2 6, .t 7]
theorem istInsert : IsFn fntInsert 34 codetInsert restInsert := .k Tryz.func34 rfl (by kernel_rfl)
noncomputable def fnmdLight : FnD := ⟨Tryz.prog,[0,1,2],[],14,false⟩
def codemdLight : DC := (.seq (.reg [ox 1 (.box (.x 0)),ox 2 (.mv (.c (.bool false)))]) (.seq (.reg [ot 3 (.fad 0 (.x 1)),ot 4 (.fad 1 (.t 3)),ot 5 (.ld (.t 4)),ot 6 (.len 1 (.t 5)),ot 7 (.bin .leq (.t 6) (oi 8)),ot 8 (.mv (.t 7)),og 9 (.fad 2 (.x 1)) 8 true,og 10 (.ld (.t 9)) 8 true,og 11 (.len 1 (.t 10)) 8 true,og 12 (.bin .leq (.t 11) (oi 8)) 8 true,ot 13 (.pick (.t 8) (.t 12) (.c (.bool false))),ow 2 13]) .ret))
def resmdLight : List RV := [.t 2]
theorem nbmdLight : fnmdLight.nb = 0 := rfl
theorem ismdLight : IsFn fnmdLight 38 codemdLight resmdLight := .k Tryz.func38 rfl (by kernel_rfl)
noncomputable def fnslCFField : FnD := ⟨Tryz.prog,[0,1,4],[],9,false⟩
def codeslCFField : DC := (.seq (.reg [ox 4 (.mv (.c (.bool false)))]) (.seq (.reg [om 5 0,om 6 1,ot 7 (.call 87 [.t 5,.t 6]),ot 8 (.bin .geq (.t 7) (oi 0)),ow 4 8]) .ret))
def resslCFField : List RV := [.t 4]
theorem isslCFField : IsFn fnslCFField 42 codeslCFField resslCFField := .k Tryz.func42 rfl (by kernel_rfl)
noncomputable def fnslDFCol : FnD := ⟨Tryz.prog,[0,1,4,5,6,7,12,19,29],[],42,false⟩
def codeslDFCol : DC := (.seq (.reg [ox 4 (.mv (.c .nils))]) (.seq (.reg [om 8 0,om 9 1,ot 10 (.call 92 [.t 8,.t 9]),ow 5 10]) (.seq (.seq (.reg [om 11 5,ox 12 (.bin .eql (.t 11) (oi (-1)))]) (.cond (.x 12) (.seq (.reg [om 13 0,ow 4 13]) .ret) .skip)) (.seq (.seq (.reg [om 14 5,ot 15 (.bin .add (.t 14) (oi 1)),ow 6 15]) (.block 0 (.loop (.seq (.seq (.reg [om 16 6,om 17 0,ot 18 (.len 4 (.t 17)),ox 19 (.bin .lss (.t 16) (.t 18))]) (.cond (.x 19) .skip (.exit 0))) (.seq (.block 1 (.seq (.reg [om 22 0,om 23 6,ot 24 (.iad 4 (.t 22) (.t 23)),ot 25 (.ldn 4 (.t 24)),ox 7 (.alloc [(.str []),(.int .i64 0),.nils,.nils]),on (.stn 4 (.x 7) (.t 25))]) (.seq (.reg [om 26 1,ot 27 (.ldn 4 (.x 7)),ot 28 (.callv (.t 26) [.t 27]),ox 29 (.un .not (.t 28))]) (.cond (.x 29) (.seq (.reg [om 30 0,om 31 5,ot 32 (.ldn 4 (.x 7)),ot 33 (.iad 4 (.t 30) (.t 31)),on (.stn 4 (.t 33) (.t 32))]) (.reg [om 34 5,ot 35 (.bin .add (.t 34) (oi 1)),ow 5 35])) .skip)))) (.reg [om 20 6,ot 21 (.bin .add (.t 20) (oi 1)),ow 6 21])))))) (.seq (.reg [om 36 0,om 37 5,ot 38 (.slc 4 (.t 36) (some (.t 37)) none),on (.clr 4 [(.str []),(.int .i64 0),.nils,.nils] (.t 38))]) (.seq (.reg [om 39 0,om 40 5,ot 41 (.slc 4 (.t 39) none (some (.t 40))),ow 4 41]) .ret))))))
def resslDFCol : List RV := [.t 4]
theorem isslDFCol : IsFn fnslDFCol 46 codeslDFCol resslDFCol := .k Tryz.func46 rfl (by kernel_rfl)
noncomputable def fnfSameList : FnD := ⟨Tryz.prog,[0,1,4,5,10,14,25],[],26,false⟩
def codefSameList : DC := (.seq (.reg [ox 4 (.mv (.c (.bool false)))]) (.seq (.seq (.reg [om 6 0,ot 7 (.len 1 (.t 6)),om 8 1,ot 9 (.len 1 (.t 8)),ox 10 (.bin .neq (.t 7) (.t 9))]) (.cond (.x 10) (.seq (.reg [ox 4 (.mv (.c (.bool false)))]) .ret) .skip)) (.seq (.seq (.reg [ox 5 (.mv (oi 0))]) (.block 0 (.loop (.seq (.seq (.reg [om 11 5,om 12 0,ot 13 (.len 1 (.t 12)),ox 14 (.bin .lss (.t 11) (.t 13))]) (.cond (.x 14) .skip (.exit 0))) (.seq (.block 1 (.seq (.regd [om 17 0,om 18 5,ot 19 (.iad 1 (.t 17) (.t 18)),ot 20 (.ld (.t 19)),om 21 1,om 22 5,ot 23 (.iad 1 (.t 21) (.t 22)),ot 24 (.ld (.t 23)),ox 25 (.bin .neq (.t 20) (.t 24))]) (.cond (.x 25) (.seq (.reg [ox 4 (.mv (.c (.bool false)))]) .ret) .skip))) (.reg [om 15 5,ot 16 (.bin .add (.t 15) (oi 1)),ow 5 16])))))) (.seq (.reg [ox 4 (.mv (.c (.bool true)))]) .ret))))
def resfSameList : List RV := [.t 4]
theorem isfSameList : IsFn fnfSameList 50 codefSameList resfSameList := .k Tryz.func50 rfl (by kernel_rfl)
noncomputable def fntColNames : FnD := ⟨Tryz.prog,[0,1,2,3,5,7,8,9,10],[],20,false⟩
def codetColNames : DC := (.seq (.reg [ox 1 (.box (.x 0)),ox 2 (.mv (.c .nils))]) (.seq (.reg [ox 3 (.mv (.c .nils))]) (.seq (.seq (.reg [ot 6 (.fad 1 (.x 1)),ox 7 (.ld (.t 6)),ox 8 (.len 4 (.x 7)),ox 9 (.mv (oi 0))]) (.block 0 (.loop (.seq (.reg [ox 10 (.bin .lss (.x 9) (.x 8))]) (.seq (.cond (.x 10) .skip (.exit 0)) (.seq (.block 1 (.seq (.reg [ot 11 (.iad 4 (.x 7) (.x 9)),ot 12 (.ldn 4 (.t 11)),ox 5 (.alloc [(.str []),(.int .i64 0),.nils,.nils]),on (.stn 4 (.x 5) (.t 12))]) (.reg [om 13 3,ot 14 (.fad 0 (.x 5)),ot 15 (.ld (.t 14)),ot 16 (.bsl 1 [(.str [])] [(0,1,.t 15)]),ot 17 (.app 9 1 16 (.t 13) (.t 16)),ow 3 17]))) (.reg [ot 18 (.bin .add (.x 9) (oi 1)),ow 9 18]))))))) (.seq (.reg [om 19 3,ow 2 19]) .ret))))
def restColNames : List RV := [.t 2]
theorem istColNames : IsFn fntColNames 58 codetColNames restColNames := .k Tryz.func58 rfl (by kernel_rfl)
noncomputable def fntLetter : FnD := ⟨Tryz.prog,[0,2],[],17,false⟩
def codetLetter : DC := (.seq (.reg [ox 2 (.mv (.c (.bool false)))]) (.seq (.reg [om 3 0,ot 4 (.bin .geq (.t 3) (.c (.int .u8 97))),ot 5 (.mv (.t 4)),og 6 (.mv (.x 0)) 5 true,og 7 (.bin .leq (.t 6) (.c (.int .u8 122))) 5 true,ot 8 (.pick (.t 5) (.t 7) (.c (.bool false))),ot 9 (.mv (.t 8)),og 10 (.mv (.x 0)) 9 false,og 11 (.bin .geq (.t 10) (.c (.int .u8 65))) 9 false,og 12 (.mv (.t 11)) 9 false,og 13 (.mv (.x 0)) 12 true,og 14 (.bin .leq (.t 13) (.c (.int .u8 90))) 12 true,og 15 (.pick (.t 12) (.t 14) (.c (.bool false))) 9 false,ot 16 (.pick (.t 9) (.c (.bool true)) (.t 15)),ow 2 16]) .ret))
def restLetter : List RV := [.t 2]
theorem istLetter : IsFn fntLetter 62 codetLetter restLetter := .k Tryz.func62 rfl (by kernel_rfl)
noncomputable def fntFits : FnD := ⟨Tryz.prog,[0,1,2,3,4,5,15,24],[],50,false⟩
def codetFits : DC := (.seq (.reg [ox 2 (.box (.x 0)),ox 3 (.box (.x 1)),ox 4 (.mv (.c (.bool false)))]) (.seq (.reg [ot 6 (.fad 1 (.x 3)),ot 7 (.ldn 3 (.t 6)),ot 8 (.call 88 [.t 7]),ot 9 (.mv (.t 8)),og 10 (.fad 1 (.x 3)) 9 true,og 11 (.ldn 3 (.t 10)) 9 true,og 12 (.call 89 [.t 11]) 9 true,og 13 (.bin .eql (.t 12) (oi 0)) 9 true,ot 14 (.pick (.t 9) (.t 13) (.c (.bool false))),ow 5 14]) (.seq (.block 0 (.seq (.reg [ot 16 (.fad 0 (.x 3)),ot 17 (.ld (.t 16)),ow 15 17]) (.cond (.x 15) (.seq (.reg [om 18 5,ot 19 (.mv (.t 18)),og 20 (.fad 4 (.x 3)) 19 true,og 21 (.ld (.t 20)) 19 true,og 22 (.bin .eql (.t 21) (oi 0)) 19 true,ot 23 (.pick (.t 19) (.t 22) (.c (.bool false))),ow 4 23]) .ret) (.seq (.reg [ot 25 (.fad 1 (.x 2)),ot 26 (.ld (.t 25)),ot 27 (.bin .eql (.t 26) (oi 1)),ow 24 27]) (.cond (.x 24) (.seq (.reg [ot 28 (.fad 1 (.x 3)),ot 29 (.ldn 3 (.t 28)),ot 30 (.call 88 [.t 29]),ot 31 (.mv (.t 30)),og 32 (.fad 4 (.x 3)) 31 true,og 33 (.ld (.t 32)) 31 true,og 34 (.bin .eql (.t 33) (oi 0)) 31 true,ot 35 (.pick (.t 31) (.t 34) (.c (.bool false))),ow 4 35]) .ret) .skip))))) (.seq (.reg [om 36 5,ot 37 (.mv (.t 36)),og 38 (.fad 4 (.x 3)) 37 true,og 39 (.ld (.t 38)) 37 true,og 40 (.bin .geq (.t 39) (oi 0)) 37 true,ot 41 (.pick (.t 37) (.t 40) (.c (.bool false))),ot 42 (.mv (.t 41)),og 43 (.fad 4 (.x 3)) 42 true,og 44 (.ld (.t 43)) 42 true,og 45 (.fad 2 (.x 2)) 42 true,og 46 (.ld (.t 45)) 42 true,og 47 (.len 1 (.t 46)) 42 true,og 48 (.bin .lss (.t 44) (.t 47)) 42 true,ot 49 (.pick (.t 42) (.t 48) (.c (.bool false))),ow 4 49]) .ret))))
def restFits : List RV := [.t 4]
theorem istFits : IsFn fntFits 78 codetFits restFits := .k Tryz.func78 rfl (by kernel_rfl)
noncomputable def fnslContainsS : FnD := ⟨Tryz.prog,[0,1,4],[],9,false⟩
def codeslContainsS : DC := (.seq (.reg [ox 4 (.mv (.c (.bool false)))]) (.seq (.reg [om 5 0,om 6 1,ot 7 (.call 72 [.t 5,.t 6]),ot 8 (.bin .geq (.t 7) (oi 0)),ow 4 8]) .ret))
def resslContainsS : List RV := [.t 4]
theorem isslContainsS : IsFn fnslContainsS 86 codeslContainsS resslContainsS := .k Tryz.func86 rfl (by kernel_rfl)
noncomputable def fnqParse : FnD := ⟨Tryz.prog,[0,2,3,4,5,6,19],[],31,false⟩
def codeqParse : DC := (.seq (.reg [ox 2 (.alloc [(.bool false),.nils,.nils]),ox 3 (.mv (.c (.bool false)))]) (.seq (.reg [om 8 0,ot 9 (.call 121 [.t 8,(.c (.str [45]))]),ot 7 (.mv (.t 9)),ot 10 (.ext (.t 7) 0),ot 11 (.ext (.t 7) 1),ow 0 10,ow 4 11]) (.seq (.reg [om 13 0,ot 14 (.call 122 [.t 13]),ot 12 (.mv (.t 14)),ot 15 (.ext (.t 12) 0),ot 16 (.ext (.t 12) 1),ot 17 (.ext (.t 12) 2),ow 5 15,ow 6 16,ow 3 17]) (.seq (.seq (.reg [om 18 3,ox 19 (.un .not (.t 18))]) (.cond (.x 19) (.seq (.reg [ot 20 (.build [(.bool false),.nils,.nils] []),on (.stn 3 (.x 2) (.t 20)),ox 3 (.mv (.c (.bool false)))]) .ret) .skip)) (.seq (.reg [om 21 4,ot 22 (.mv (.t 21)),og 23 (.mv (.x 5)) 22 true,og 24 (.len 1 (.t 23)) 22 true,og 25 (.bin .gtr (.t 24) (oi 0)) 22 true,ot 26 (.pick (.t 22) (.t 25) (.c (.bool false))),om 27 5,ot 28 (.build [(.bool false),.nils] [(0,1,.t 26),(1,1,.t 27)]),om 29 6,ot 30 (.call 123 [.t 28,.t 29]),on (.stn 3 (.x 2) (.t 30)),ox 3 (.mv (.c (.bool true)))]) .ret)))))
def resqParse : List RV := [.cn 3 2, .t 3]
theorem nbqParse : fnqParse.nb = 0 := rfl
theorem isqParse : IsFn fnqParse 90 codeqParse resqParse := .k Tryz.func90 rfl (by kernel_rfl)
noncomputable def fnuIndex : FnD := ⟨Tryz.prog,[0,1,4,5,9,17],[],19,false⟩
def codeuIndex : DC := (.seq (.reg [ox 4 (.mv (oi 0))]) (.seq (.seq (.reg [ox 5 (.mv (oi 0))]) (.block 0 (.loop (.seq (.seq (.reg [om 6 5,om 7 0,ot 8 (.len 1 (.t 7)),ox 9 (.bin .lss (.t 6) (.t 8))]) (.cond (.x 9) .skip (.exit 0))) (.seq (.block 1 (.seq (.reg [om 12 0,om 13 5,ot 14 (.iad 1 (.t 12) (.t 13)),ot 15 (.ld (.t 14)),om 16 1,ox 17 (.bin .eql (.t 15) (.t 16))]) (.cond (.x 17) (.seq (.reg [om 18 5,ow 4 18]) .ret) .skip))) (.reg [om 10 5,ot 11 (.bin .add (.t 10) (oi 1)),ow 5 11])))))) (.seq (.reg [ox 4 (.mv (oi (-1)))]) .ret)))
def resuIndex : List RV := [.t 4]
theorem isuIndex : IsFn fnuIndex 94 codeuIndex resuIndex := .k Tryz.func94 rfl (by kernel_rfl)
noncomputable def fnsNeg : FnD := ⟨Tryz.prog,[0,1,2],[],11,false⟩
def codesNeg : DC := (.seq (.reg [ox 1 (.box (.x 0)),ox 2 (.alloc [(.bool false),.nils])]) (.seq (.reg [ot 3 (.ldn 2 (.x 1)),ot 4 (.call 96 [.t 3]),on (.stn 2 (.x 1) (.t 4))]) (.seq (.reg [ot 5 (.fad 0 (.x 1)),ot 6 (.ld (.t 5)),ot 7 (.un .not (.t 6)),ot 8 (.fad 1 (.x 1)),ot 9 (.ld (.t 8)),ot 10 (.call 102 [.t 7,.t 9]),on (.stn 2 (.x 2) (.t 10))]) .ret)))
def ressNeg : List RV := [.cn 2 2]
theorem nbsNeg : fnsNeg.nb = 0 := rfl
theorem issNeg : IsFn fnsNeg 98 codesNeg ressNeg := .k Tryz.func98 rfl (by kernel_rfl)
noncomputable def fns_signed : FnD := ⟨Tryz.prog,[0,1,4],[],13,false⟩
def codes_signed : DC := (.seq (.reg [ox 4 (.alloc [(.bool false),.nils])]) (.seq (.reg [om 5 0,ot 6 (.mv (.t 5)),og 7 (.mv (.x 1)) 6 true,og 8 (.len 1 (.t 7)) 6 true,og 9 (.bin .gtr (.t 8) (oi 0)) 6 true,ot 10 (.pick (.t 6) (.t 9) (.c (.bool false))),om 11 1,ot 12 (.build [(.bool false),.nils] [(0,1,.t 10),(1,1,.t 11)]),on (.stn 2 (.x 4) (.t 12))]) .ret))
def ress_signed : List RV := [.cn 2 4]
theorem nbs_signed : fns_signed.nb = 0 := rfl
theorem iss_signed : IsFn fns_signed 102 codes_signed ress_signed := .k Tryz.func102 rfl (by kernel_rfl)
noncomputable def fnqAdd : FnD := ⟨Tryz.prog,[0,1,2,3,4,18],[],42,false⟩
def codeqAdd : DC := (.seq (.reg [ox 2 (.box (.x 0)),ox 3 (.box (.x 1)),ox 4 (.alloc [(.bool false),.nils,.nils])]) (.seq (.regd [ot 5 (.ldn 3 (.x 2)),ot 6 (.call 120 [.t 5]),ot 7 (.ldn 3 (.x 3)),ot 8 (.call 120 [.t 7]),on (.stn 3 (.x 2) (.t 6)),on (.stn 3 (.x 3) (.t 8))]) (.seq (.seq (.reg [ot 9 (.fad 2 (.x 2)),ot 10 (.ld (.t 9)),ot 11 (.len 1 (.t 10)),ot 12 (.bin .eql (.t 11) (oi 0)),ot 13 (.mv (.t 12)),og 14 (.fad 2 (.x 3)) 13 true,og 15 (.ld (.t 14)) 13 true,og 16 (.len 1 (.t 15)) 13 true,og 17 (.bin .eql (.t 16) (oi 0)) 13 true,ox 18 (.pick (.t 13) (.t 17) (.c (.bool false)))]) (.cond (.x 18) (.seq (.reg [ot 19 (.fad 0 (.x 2)),ot 20 (.ldn 2 (.t 19)),ot 21 (.fad 0 (.x 3)),ot 22 (.ldn 2 (.t 21)),ot 23 (.call 143 [.t 20,.t 22]),ot 24 (.build [(.bool false),.nils,.nils] [(0,2,.t 23)]),on (.stn 3 (.x 4) (.t 24))]) .ret) .skip)) (.seq (.regd [ot 25 (.fad 0 (.x 2)),ot 26 (.ldn 2 (.t 25)),ot 27 (.ldn 3 (.x 3)),ot 28 (.call 126 [.t 27]),ot 29 (.call 144 [.t 26,.t 28]),ot 30 (.fad 0 (.x 3)),ot 31 (.ldn 2 (.t 30)),ot 32 (.ldn 3 (.x 2)),ot 33 (.call 126 [.t 32]),ot 34 (.call 144 [.t 31,.t 33]),ot 35 (.call 143 [.t 29,.t 34]),ot 36 (.ldn 3 (.x 2)),ot 37 (.call 126 [.t 36]),ot 38 (.ldn 3 (.x 3)),ot 39 (.call 126 [.t 38]),ot 40 (.call 125 [.t 37,.t 39]),ot 41 (.call 123 [.t 35,.t 40]),on (.stn 3 (.x 4) (.t 41))]) .ret))))
def resqAdd : List RV := [.cn 3 4]
theorem nbqAdd : fnqAdd.nb = 0 := rfl
theorem isqAdd : IsFn fnqAdd 111 codeqAdd resqAdd := .k Tryz.func111 rfl (by kernel_rfl)
noncomputable def fnnValid : FnD := ⟨Tryz.prog,[0,2],[],15,false⟩
def codenValid : DC := (.seq (.reg [ox 2 (.mv (.c (.bool false)))]) (.seq (.reg [om 3 0,ot 4 (.len 1 (.t 3)),ot 5 (.bin .eql (.t 4) (oi 0)),ot 6 (.mv (.t 5)),og 7 (.mv (.x 0)) 6 false,og 8 (.mv (.x 0)) 6 false,og 9 (.len 1 (.t 8)) 6 false,og 10 (.bin .sub (.t 9) (oi 1)) 6 false,og 11 (.iad 1 (.t 7) (.t 10)) 6 false,og 12 (.ld (.t 11)) 6 false,og 13 (.bin .neq (.t 12) (.c (.int .u32 0))) 6 false,ot 14 (.pick (.t 6) (.c (.bool true)) (.t 13)),ow 2 14]) .ret))
def resnValid : List RV := [.t 2]
theorem isnValid : IsFn fnnValid 115 codenValid resnValid := .k Tryz.func115 rfl (by kernel_rfl)
noncomputable def fniSign : FnD := ⟨Tryz.prog,[0,1,2,5,10],[],13,false⟩
def codeiSign : DC := (.seq (.reg [ox 1 (.box (.x 0)),ox 2 (.mv (oi 0))]) (.seq (.seq (.reg [ot 3 (.ldn 2 (.x 1)),ot 4 (.call 152 [.t 3]),on (.stn 2 (.x 1) (.t 4))]) (.block 0 (.seq (.reg [ot 6 (.fad 1 (.x 1)),ot 7 (.ld (.t 6)),ot 8 (.len 1 (.t 7)),ot 9 (.bin .eql (.t 8) (oi 0)),ow 5 9]) (.cond (.x 5) (.seq (.reg [ox 2 (.mv (oi 0))]) .ret) (.seq (.reg [ot 11 (.fad 0 (.x 1)),ot 12 (.ld (.t 11)),ow 10 12]) (.cond (.x 10) (.seq (.reg [ox 2 (.mv (oi (-1)))]) .ret) .skip)))))) (.seq (.reg [ox 2 (.mv (oi 1))]) .ret)))
def resiSign : List RV := [.t 2]
theorem nbiSign : fniSign.nb = 0 := rfl
theorem isiSign : IsFn fniSign 119 codeiSign resiSign := .k Tryz.func119 rfl (by kernel_rfl)
noncomputable def fnq_lowest : FnD := ⟨Tryz.prog,[0,1,2,4,5,6,31],[],38,false⟩
def codeq_lowest : DC := (.seq (.reg [ox 2 (.box (.x 0)),ox 4 (.alloc [(.bool false),.nils,.nils])]) (.seq (.reg [ot 9 (.fad 1 (.x 2)),ot 10 (.ld (.t 9)),om 11 1,ot 12 (.call 118 [.t 10,.t 11]),ow 5 12]) (.seq (.reg [ot 14 (.fad 1 (.x 2)),ot 15 (.ld (.t 14)),om 16 5,ot 17 (.call 150 [.t 15,.t 16]),ot 13 (.mv (.t 17)),ot 18 (.ext (.t 13) 0),ot 19 (.ext (.t 13) 1),ot 20 (.ext (.t 13) 2),ow 6 18,ot 7 (.mv (.t 19)),ot 8 (.mv (.t 20))]) (.seq (.reg [om 22 1,om 23 5,ot 24 (.call 150 [.t 22,.t 23]),ot 21 (.mv (.t 24)),ot 25 (.ext (.t 21) 0),ot 26 (.ext (.t 21) 1),ot 27 (.ext (.t 21) 2),ow 1 25]) (.seq (.seq (.reg [om 28 1,ot 29 (.call 117 []),ot 30 (.call 116 [.t 28,.t 29]),ox 31 (.bin .eql (.t 30) (oi 0))]) (.cond (.x 31) (.reg [ox 1 (.mv (.c .nils))]) .skip)) (.seq (.reg [ot 32 (.fad 0 (.x 2)),ot 33 (.ld (.t 32)),om 34 6,ot 35 (.build [(.bool false),.nils] [(0,1,.t 33),(1,1,.t 34)]),om 36 1,ot 37 (.build [(.bool false),.nils,.nils] [(0,2,.t 35),(2,1,.t 36)]),on (.stn 3 (.x 4) (.t 37))]) .ret))))))
def resq_lowest : List RV := [.cn 3 4]
theorem nbq_lowest : fnq_lowest.nb = 0 := rfl
theorem isq_lowest : IsFn fnq_lowest 123 codeq_lowest resq_lowest := .k Tryz.func123 rfl (by kernel_rfl)
noncomputable def fnsValid : FnD := ⟨Tryz.prog,[0,1,2],[],17,false⟩
def codesValid : DC := (.seq (.reg [ox 1 (.box (.x 0)),ox 2 (.mv (.c (.bool false)))]) (.seq (.reg [ot 3 (.fad 1 (.x 1)),ot 4 (.ld (.t 3)),ot 5 (.call 128 [.t 4]),ot 6 (.mv (.t 5)),og 7 (.fad 0 (.x 1)) 6 true,og 8 (.ld (.t 7)) 6 true,og 9 (.mv (.t 8)) 6 true,og 10 (.fad 1 (.x 1)) 9 true,og 11 (.ld (.t 10)) 9 true,og 12 (.len 1 (.t 11)) 9 true,og 13 (.bin .eql (.t 12) (oi 0)) 9 true,og 14 (.pick (.t 9) (.t 13) (.c (.bool false))) 6 true,og 15 (.un .not (.t 14)) 6 true,ot 16 (.pick (.t 6) (.t 15) (.c (.bool false))),ow 2 16]) .ret))
def ressValid : List RV := [.t 2]
theorem nbsValid : fnsValid.nb = 0 := rfl
theorem issValid : IsFn fnsValid 127 codesValid ressValid := .k Tryz.func127 rfl (by kernel_rfl)
noncomputable def fnslIFCell : FnD := ⟨Tryz.prog,[0,1,4,5,7,8,9,16],[],19,false⟩
def codeslIFCell : DC := (.seq (.reg [ox 4 (.mv (oi 0))]) (.seq (.seq (.reg [om 6 0,ox 7 (.len 5 (.t 6)),ox 8 (.mv (oi 0))]) (.block 0 (.loop (.seq (.reg [ox 9 (.bin .lss (.x 8) (.x 7))]) (.seq (.cond (.x 9) .skip (.exit 0)) (.seq (.block 1 (.seq (.reg [om 10 8,ow 5 10]) (.seq (.reg [om 11 1,om 12 0,om 13 5,ot 14 (.iad 5 (.t 12) (.t 13)),ot 15 (.ldn 5 (.t 14)),ox 16 (.callv (.t 11) [.t 15])]) (.cond (.x 16) (.seq (.reg [om 17 5,ow 4 17]) .ret) .skip)))) (.reg [ot 18 (.bin .add (.x 8) (oi 1)),ow 8 18]))))))) (.seq (.reg [ox 4 (.mv (oi (-1)))]) .ret)))
def resslIFCell : List RV := [.t 4]
theorem isslIFCell : IsFn fnslIFCell 139 codeslIFCell resslIFCell := .k Tryz.func139 rfl (by kernel_rfl)
noncomputable def fniAdd : FnD := ⟨Tryz.prog,[0,1,2,3,4,5,6,7,17,34],[],51,false⟩
def codeiAdd : DC := (.seq (.reg [ox 2 (.box (.x 0)),ox 3 (.box (.x 1)),ox 4 (.alloc [(.bool false),.nils])]) (.seq (.regd [ot 9 (.ldn 2 (.x 2)),ot 10 (.call 152 [.t 9]),ot 11 (.ldn 2 (.x 3)),ot 12 (.call 152 [.t 11]),on (.stn 2 (.x 2) (.t 10)),on (.stn 2 (.x 3) (.t 12))]) (.seq (.seq (.reg [ot 13 (.fad 0 (.x 2)),ot 14 (.ld (.t 13)),ot 15 (.fad 0 (.x 3)),ot 16 (.ld (.t 15)),ox 17 (.beq false (.t 14) (.t 16))]) (.cond (.x 17) (.seq (.regd [ot 18 (.fad 0 (.x 2)),ot 19 (.ld (.t 18)),ot 20 (.fad 1 (.x 2)),ot 21 (.ld (.t 20)),ot 22 (.fad 1 (.x 3)),ot 23 (.ld (.t 22)),ot 24 (.call 170 [.t 21,.t 23]),ot 25 (.call 140 [.t 19,.t 24]),on (.stn 2 (.x 4) (.t 25))]) .ret) .skip)) (.seq (.seq (.reg [ot 27 (.fad 1 (.x 2)),ot 28 (.ld (.t 27)),ot 29 (.fad 1 (.x 3)),ot 30 (.ld (.t 29)),ot 31 (.call 171 [.t 28,.t 30]),ot 26 (.mv (.t 31)),ot 32 (.ext (.t 26) 0),ot 33 (.ext (.t 26) 1),ow 5 32,ow 6 33]) (.seq (.reg [ox 34 (.mv (.x 6))]) (.cond (.x 34) (.seq (.reg [ot 35 (.fad 0 (.x 2)),ot 36 (.ld (.t 35)),om 37 5,ot 38 (.call 140 [.t 36,.t 37]),on (.stn 2 (.x 4) (.t 38))]) .ret) .skip))) (.seq (.reg [ot 40 (.fad 1 (.x 3)),ot 41 (.ld (.t 40)),ot 42 (.fad 1 (.x 2)),ot 43 (.ld (.t 42)),ot 44 (.call 171 [.t 41,.t 43]),ot 39 (.mv (.t 44)),ot 45 (.ext (.t 39) 0),ot 46 (.ext (.t 39) 1),ow 7 45,ot 8 (.mv (.t 46))]) (.seq (.reg [ot 47 (.fad 0 (.x 3)),ot 48 (.ld (.t 47)),om 49 7,ot 50 (.call 140 [.t 48,.t 49]),on (.stn 2 (.x 4) (.t 50))]) .ret))))))
def resiAdd : List RV := [.cn 2 4]
theorem nbiAdd : fniAdd.nb = 0 := rfl
theorem isiAdd : IsFn fniAdd 143 codeiAdd resiAdd := .k Tryz.func143 rfl (by kernel_rfl)
noncomputable def fnnValue : FnD := ⟨Tryz.prog,[0,2,4],[],6,false⟩
def codenValue : DC := (.seq (.reg [ox 2 (.mv (.c .nils))]) (.seq (.seq (.reg [om 3 0,ox 4 (.call 115 [.t 3])]) (.cond (.x 4) (.seq (.reg [om 5 0,ow 2 5]) .ret) .skip)) (.seq (.reg [ox 2 (.mv (.c .nils))]) .ret)))
def resnValue : List RV := [.t 2]
theorem isnValue : IsFn fnnValue 147 codenValue resnValue := .k Tryz.func147 rfl (by kernel_rfl)
noncomputable def fnq_exponent : FnD := ⟨Tryz.prog,[0,2,3,4,5,6,7,32,33],[],39,false⟩
def codeq_exponent : DC := (.seq (.reg [ox 2 (.mv (oi 0)),ox 3 (.mv (.c (.bool false)))]) (.seq (.reg [om 9 0,ot 10 (.call 121 [.t 9,(.c (.str [45]))]),ot 8 (.mv (.t 10)),ot 11 (.ext (.t 8) 0),ot 12 (.ext (.t 8) 1),ow 0 11,ow 4 12]) (.seq (.reg [om 14 0,ot 15 (.call 155 [.t 14]),ot 13 (.mv (.t 15)),ot 16 (.ext (.t 13) 0),ot 17 (.ext (.t 13) 1),ow 5 16,ow 3 17]) (.seq (.reg [om 19 5,ot 20 (.call 148 [.t 19]),ot 18 (.mv (.t 20)),ot 21 (.ext (.t 18) 0),ot 22 (.ext (.t 18) 1),ow 6 21,ow 7 22]) (.seq (.seq (.reg [om 23 3,ot 24 (.un .not (.t 23)),ot 25 (.mv (.t 24)),og 26 (.mv (.x 7)) 25 false,og 27 (.un .not (.t 26)) 25 false,ot 28 (.pick (.t 25) (.c (.bool true)) (.t 27)),ot 29 (.mv (.t 28)),og 30 (.mv (.x 6)) 29 false,og 31 (.bin .gtr (.t 30) (.c (.int .u64 40))) 29 false,ox 32 (.pick (.t 29) (.c (.bool true)) (.t 31))]) (.cond (.x 32) (.seq (.reg [ox 2 (.mv (oi 0)),ox 3 (.mv (.c (.bool false)))]) .ret) .skip)) (.seq (.seq (.reg [ox 33 (.mv (.x 4))]) (.cond (.x 33) (.seq (.reg [om 34 6,ot 35 (.conv .i64 (.t 34)),ot 36 (.un .neg (.t 35)),ow 2 36,ox 3 (.mv (.c (.bool true)))]) .ret) .skip)) (.seq (.reg [om 37 6,ot 38 (.conv .i64 (.t 37)),ow 2 38,ox 3 (.mv (.c (.bool true)))]) .ret)))))))
def resq_exponent : List RV := [.t 2, .t 3]
theorem isq_exponent : IsFn fnq_exponent 157 codeq_exponent resq_exponent := .k Tryz.func157 rfl (by kernel_rfl)
noncomputable def fnnTrim : FnD := ⟨Tryz.prog,[0,2,3,15],[],21,false⟩
def codenTrim : DC := (.seq (.reg [ox 2 (.mv (.c .nils))]) (.seq (.reg [om 4 0,ot 5 (.len 1 (.t 4)),ow 3 5]) (.seq (.block 0 (.loop (.seq (.seq (.reg [om 6 3,ot 7 (.bin .gtr (.t 6) (oi 0)),ot 8 (.mv (.t 7)),og 9 (.mv (.x 0)) 8 true,og 10 (.mv (.x 3)) 8 true,og 11 (.bin .sub (.t 10) (oi 1)) 8 true,og 12 (.iad 1 (.t 9) (.t 11)) 8 true,og 13 (.ld (.t 12)) 8 true,og 14 (.bin .eql (.t 13) (.c (.int .u32 0))) 8 true,ox 15 (.pick (.t 8) (.t 14) (.c (.bool false)))]) (.cond (.x 15) .skip (.exit 0))) (.block 1 (.reg [om 16 3,ot 17 (.bin .sub (.t 16) (oi 1)),ow 3 17]))))) (.seq (.reg [om 18 0,om 19 3,ot 20 (.slc 1 (.t 18) none (some (.t 19))),ow 2 20]) .ret))))
def resnTrim : List RV := [.t 2]
theorem isnTrim : IsFn fnnTrim 161 codenTrim resnTrim := .k Tryz.func161 rfl (by kernel_rfl)
noncomputable def fnnDivide : FnD := ⟨Tryz.prog,[0,1,4,5,6,7,8,9,10,11,12,39,82,102,103,104],[],130,false⟩
def codenDivide : DC := (.seq (.reg [ox 4 (.mv (.c .nils)),ox 5 (.mv (.c .nils))]) (.seq (.reg [om 13 1,om 14 1,ot 15 (.len 1 (.t 14)),ot 16 (.bin .sub (.t 15) (oi 1)),ot 17 (.iad 1 (.t 13) (.t 16)),ot 18 (.ld (.t 17)),ot 19 (.call 185 [.t 18]),om 20 1,ot 21 (.len 1 (.t 20)),ow 6 19,ow 7 21]) (.seq (.reg [om 22 0,om 23 6,ot 24 (.call 186 [.t 22,.t 23]),om 25 1,om 26 6,ot 27 (.call 186 [.t 25,.t 26]),ot 28 (.call 161 [.t 27]),ow 8 24,ow 9 28]) (.seq (.reg [om 29 0,ot 30 (.len 1 (.t 29)),om 31 7,ot 32 (.bin .sub (.t 30) (.t 31)),ot 33 (.bin .add (.t 32) (oi 1)),ot 34 (.mks 1 4 [(.int .u32 0)] (.t 33) (.t 33)),ow 4 34]) (.seq (.seq (.reg [om 35 4,ot 36 (.len 1 (.t 35)),ot 37 (.bin .sub (.t 36) (oi 1)),ow 10 37]) (.block 0 (.loop (.seq (.seq (.reg [om 38 10,ox 39 (.bin .geq (.t 38) (oi 0))]) (.cond (.x 39) .skip (.exit 0))) (.seq (.block 1 (.seq (.regd [om 42 8,om 43 10,om 44 7,ot 45 (.bin .add (.t 43) (.t 44)),ot 46 (.iad 1 (.t 42) (.t 45)),ot 47 (.ld (.t 46)),om 48 8,om 49 10,om 50 7,ot 51 (.bin .add (.t 49) (.t 50)),ot 52 (.bin .sub (.t 51) (oi 1)),ot 53 (.iad 1 (.t 48) (.t 52)),ot 54 (.ld (.t 53)),om 55 8,om 56 10,om 57 7,ot 58 (.bin .add (.t 56) (.t 57)),ot 59 (.bin .sub (.t 58) (oi 2)),ot 60 (.iad 1 (.t 55) (.t 59)),ot 61 (.ld (.t 60)),om 62 9,om 63 7,ot 64 (.bin .sub (.t 63) (oi 1)),ot 65 (.iad 1 (.t 62) (.t 64)),ot 66 (.ld (.t 65)),om 67 9,om 68 7,ot 69 (.bin .sub (.t 68) (oi 2)),ot 70 (.iad 1 (.t 67) (.t 69)),ot 71 (.ld (.t 70)),ot 72 (.call 187 [.t 47,.t 54,.t 61,.t 66,.t 71]),ow 11 72]) (.seq (.seq (.reg [om 73 8,om 74 10,om 75 10,om 76 7,ot 77 (.bin .add (.t 75) (.t 76)),ot 78 (.bin .add (.t 77) (oi 1)),ot 79 (.slc 1 (.t 73) (some (.t 74)) (some (.t 78))),om 80 9,om 81 11,ox 82 (.call 188 [.t 79,.t 80,.t 81])]) (.cond (.x 82) (.seq (.reg [om 83 8,om 84 10,om 85 10,om 86 7,ot 87 (.bin .add (.t 85) (.t 86)),ot 88 (.bin .add (.t 87) (oi 1)),ot 89 (.slc 1 (.t 83) (some (.t 84)) (some (.t 88))),om 90 9,ot 91 (.call 189 [.t 89,.t 90])]) (.reg [om 92 11,ot 93 (.bin .sub (.t 92) (.c (.int .u64 1))),ow 11 93])) .skip)) (.reg [om 94 4,om 95 10,om 96 11,ot 97 (.conv .u32 (.t 96)),ot 98 (.iad 1 (.t 94) (.t 95)),on (.st (.t 98) (.t 97))])))) (.reg [om 40 10,ot 41 (.bin .sub (.t 40) (oi 1)),ow 10 41])))))) (.seq (.reg [om 99 7,ot 100 (.mks 1 4 [(.int .u32 0)] (.t 99) (.t 99)),ow 5 100]) (.seq (.seq (.reg [om 101 5,ox 102 (.len 1 (.t 101)),ox 103 (.mv (oi 0))]) (.block 2 (.loop (.seq (.reg [ox 104 (.bin .lss (.x 103) (.x 102))]) (.seq (.cond (.x 104) .skip (.exit 2)) (.seq (.block 3 (.seq (.reg [om 105 103,ow 12 105]) (.regd [om 106 5,om 107 12,om 108 8,om 109 12,ot 110 (.bin .add (.t 109) (oi 1)),ot 111 (.iad 1 (.t 108) (.t 110)),ot 112 (.ld (.t 111)),ot 113 (.conv .u64 (.t 112)),ot 114 (.bin .shl (.t 113) (.c (.int .u64 32))),om 115 8,om 116 12,ot 117 (.iad 1 (.t 115) (.t 116)),ot 118 (.ld (.t 117)),ot 119 (.conv .u64 (.t 118)),ot 120 (.bin .or (.t 114) (.t 119)),om 121 6,ot 122 (.bin .shr (.t 120) (.t 121)),ot 123 (.conv .u32 (.t 122)),ot 124 (.iad 1 (.t 106) (.t 107)),on (.st (.t 124) (.t 123))]))) (.reg [ot 125 (.bin .add (.x 103) (oi 1)),ow 103 125]))))))) (.seq (.reg [om 126 4,ot 127 (.call 161 [.t 126]),om 128 5,ot 129 (.call 161 [.t 128]),ow 4 127,ow 5 129]) .ret))))))))
def resnDivide : List RV := [.t 4, .t 5]
theorem nbnDivide : fnnDivide.nb = 0 := rfl
theorem isnDivide : IsFn fnnDivide 173 codenDivide resnDivide := .k Tryz.func173 rfl (by kernel_rfl)
noncomputable def fnAdd32 : FnD := ⟨Tryz.prog,[0,1,2,6,7,8],[],22,false⟩
def codeAdd32 : DC := (.seq (.reg [ox 6 (.mv (.c (.int .u32 0))),ox 7 (.mv (.c (.int .u32 0)))]) (.seq (.reg [om 9 0,ot 10 (.conv .u64 (.t 9)),om 11 1,ot 12 (.conv .u64 (.t 11)),ot 13 (.bin .add (.t 10) (.t 12)),om 14 2,ot 15 (.conv .u64 (.t 14)),ot 16 (.bin .add (.t 13) (.t 15)),ow 8 16]) (.seq (.reg [om 17 8,ot 18 (.conv .u32 (.t 17)),ow 6 18]) (.seq (.reg [om 19 8,ot 20 (.bin .shr (.t 19) (.c (.int .u64 32))),ot 21 (.conv .u32 (.t 20)),ow 7 21]) .ret))))
def resAdd32 : List RV := [.t 6, .t 7]
theorem isAdd32 : IsFn fnAdd32 182 codeAdd32 resAdd32 := .k Tryz.func182 rfl (by kernel_rfl)
noncomputable def fnnShifted : FnD := ⟨Tryz.prog,[0,1,4,5,6,7,8,13,14,15,16],[],41,false⟩
def codenShifted : DC := (.seq (.reg [ox 4 (.mv (.c .nils))]) (.seq (.reg [om 9 0,ot 10 (.len 1 (.t 9)),ot 11 (.bin .add (.t 10) (oi 1)),ot 12 (.mks 1 4 [(.int .u32 0)] (.t 11) (.t 11)),ow 5 12]) (.seq (.seq (.reg [ox 13 (.mv (.x 0)),ox 14 (.len 1 (.x 13)),ox 15 (.mv (oi 0))]) (.block 0 (.loop (.seq (.reg [ox 16 (.bin .lss (.x 15) (.x 14))]) (.seq (.cond (.x 16) .skip (.exit 0)) (.seq (.block 1 (.seq (.reg [om 17 15,ot 18 (.iad 1 (.x 13) (.x 15)),ot 19 (.ld (.t 18)),ow 6 17,ow 7 19]) (.seq (.reg [om 20 7,ot 21 (.conv .u64 (.t 20)),om 22 1,ot 23 (.bin .shl (.t 21) (.t 22)),ow 8 23]) (.seq (.reg [om 24 5,om 25 6,ot 26 (.iad 1 (.t 24) (.t 25)),ot 27 (.ld (.t 26)),om 28 8,ot 29 (.conv .u32 (.t 28)),ot 30 (.bin .or (.t 27) (.t 29)),ot 31 (.iad 1 (.t 24) (.t 25)),on (.st (.t 31) (.t 30))]) (.reg [om 32 5,om 33 6,ot 34 (.bin .add (.t 33) (oi 1)),om 35 8,ot 36 (.bin .shr (.t 35) (.c (.int .u64 32))),ot 37 (.conv .u32 (.t 36)),ot 38 (.iad 1 (.t 32) (.t 34)),on (.st (.t 38) (.t 37))]))))) (.reg [ot 39 (.bin .add (.x 15) (oi 1)),ow 15 39]))))))) (.seq (.reg [om 40 5,ow 4 40]) .ret))))
def resnShifted : List RV := [.t 4]
theorem nbnShifted : fnnShifted.nb = 0 := rfl
theorem isnShifted : IsFn fnnShifted 186 codenShifted resnShifted := .k Tryz.func186 rfl (by kernel_rfl)
noncomputable def fnLen32 : FnD := ⟨Tryz.prog,[0,2,4,8],[],19,false⟩
def codeLen32 : DC := (.seq (.reg [ox 2 (.mv (oi 0))]) (.seq (.seq (.reg [om 3 0,ox 4 (.bin .geq (.t 3) (.c (.int .u32 65536)))]) (.cond (.x 4) (.seq (.reg [om 5 0,ot 6 (.bin .shr (.t 5) (.c (.int .u64 16))),ow 0 6]) (.reg [ox 2 (.mv (oi 16))])) .skip)) (.seq (.seq (.reg [om 7 0,ox 8 (.bin .geq (.t 7) (.c (.int .u32 256)))]) (.cond (.x 8) (.seq (.reg [om 9 0,ot 10 (.bin .shr (.t 9) (.c (.int .u64 8))),ow 0 10]) (.reg [om 11 2,ot 12 (.bin .add (.t 11) (oi 8)),ow 2 12])) .skip)) (.seq (.reg [om 13 2,om 14 0,ot 15 (.conv .u8 (.t 14)),ot 16 (.idx (.c (.str [0,1,2,2,3,3,3,3,4,4,4,4,4,4,4,4,5,5,5,5,5,5,5,5,5,5,5,5,5,5,5,5,6,6,6,6,6,6,6,6,6,6,6,6,6,6,6,6,6,6,6,6,6,6,6,6,6,6,6,6,6,6,6,6,7,7,7,7,7,7,7,7,7,7,7,7,7,7,7,7,7,7,7,7,7,7,7,7,7,7,7,7,7,7,7,7,7,7,7,7,7,7,7,7,7,7,7,7,7,7,7,7,7,7,7,7,7,7,7,7,7,7,7,7,7,7,7,7,8,8,8,8,8,8,8,8,8,8,8,8,8,8,8,8,8,8,8,8,8,8,8,8,8,8,8,8,8,8,8,8,8,8,8,8,8,8,8,8,8,8,8,8,8,8,8,8,8,8,8,8,8,8,8,8,8,8,8,8,8,8,8,8,8,8,8,8,8,8,8,8,8,8,8,8,8,8,8,8,8,8,8,8,8,8,8,8,8,8,8,8,8,8,8,8,8,8,8,8,8,8,8,8,8,8,8,8,8,8,8,8,8,8,8,8,8,8,8,8,8,8,8,8,8,8,8,8])) (.t 15)),ot 17 (.conv .i64 (.t 16)),ot 18 (.bin .add (.t 13) (.t 17)),ow 2 18]) .ret))))
def resLen32 : List RV := [.t 2]
theorem isLen32 : IsFn fnLen32 198 codeLen32 resLen32 := .k Tryz.func198 rfl (by kernel_rfl)
noncomputable def fnslClS : FnD := ⟨Tryz.prog,[0,2,4],[5],8,false⟩
def codeslClS : DC := (.seq (.reg [ox 2 (.mv (.c .nils))]) (.seq (.seq (.reg [om 3 0,ox 4 (.isnil false (.t 3))]) (.cond (.x 4) (.seq (.reg [ox 2 (.mv (.c .nils))]) .ret) .skip)) (.seq (.reg [ot 5 (.bsl' 1 [] []),om 6 0,ot 7 (.app 9 1 16 (.t 5) (.t 6)),ow 2 7]) .ret)))
def resslClS : List RV := [.t 2]
theorem isslClS : IsFn fnslClS 65 codeslClS resslClS := .k Tryz.func65 rfl (by kernel_rfl)
noncomputable def fnslClC : FnD := ⟨Tryz.prog,[0,2,4],[5],8,false⟩
def codeslClC : DC := (.seq (.reg [ox 2 (.mv (.c .nils))]) (.seq (.seq (.reg [om 3 0,ox 4 (.isnil false (.t 3))]) (.cond (.x 4) (.seq (.reg [ox 2 (.mv (.c .nils))]) .ret) .skip)) (.seq (.reg [ot 5 (.bsl' 5 [] []),om 6 0,ot 7 (.app 51 5 72 (.t 5) (.t 6)),ow 2 7]) .ret)))
def resslClC : List RV := [.t 2]
theorem isslClC : IsFn fnslClC 81 codeslClC resslClC := .k Tryz.func81 rfl (by kernel_rfl)
noncomputable def fntBld : FnD := ⟨Tryz.prog,[0,1,4,5,6,7,8,9,10,11,12,13,14,22,27,30,35,36,37,38,51,52,53,54,62,66,67,68,69,75,86],[1000001,7000084],100,false⟩
def codetBld : DC := (.seq (.reg [ox 4 (.alloc [(.int .i64 0),.nils]),ox 5 (.mv (oi 0)),ox 6 (.mv (oi 0))]) (.seq (.seq (.reg [om 15 0,ot 16 (.len 6 (.t 15)),ot 17 (.bin .gtr (.t 16) (oi 32)),ot 18 (.mv (.t 17)),og 19 (.mv (.x 1)) 18 false,og 20 (.len 1 (.t 19)) 18 false,og 21 (.bin .gtr (.t 20) (oi 1024)) 18 false,ox 22 (.pick (.t 18) (.c (.bool true)) (.t 21))]) (.cond (.x 22) (.seq (.reg [ot 23 (.build [(.int .i64 0),.nils] []),on (.stn 2 (.x 4) (.t 23)),ox 5 (.mv (oi 0)),ox 6 (.mv (oi 2))]) .ret) .skip)) (.seq (.seq (.reg [om 24 0,ot 25 (.call 41 [.t 24]),ot 26 (.call 40 [.t 25]),ox 27 (.un .not (.t 26))]) (.cond (.x 27) (.seq (.reg [ot 28 (.build [(.int .i64 0),.nils] []),on (.stn 2 (.x 4) (.t 28)),ox 5 (.mv (oi 0)),ox 6 (.mv (oi 8))]) .ret) .skip)) (.seq (.seq (.reg [om 29 0,ox 30 (.call 42 [.t 29,(.c (.fn 43))])]) (.cond (.x 30) (.seq (.reg [ot 31 (.build [(.int .i64 0),.nils] []),on (.stn 2 (.x 4) (.t 31)),ox 5 (.mv (oi 0)),ox 6 (.mv (oi 4))]) .ret) .skip)) (.seq (.reg [om 32 0,ot 33 (.len 6 (.t 32)),ot 34 (.mks 4 72 [(.str []),(.int .i64 0),.nils,.nils] (.t 33) (.t 33)),ow 7 34]) (.seq (.seq (.reg [ox 35 (.mv (.x 0)),ox 36 (.len 6 (.x 35)),ox 37 (.mv (oi 0))]) (.block 0 (.loop (.seq (.reg [ox 38 (.bin .lss (.x 37) (.x 36))]) (.seq (.cond (.x 38) .skip (.exit 0)) (.seq (.block 1 (.seq (.reg [om 39 37,ot 40 (.iad 6 (.x 35) (.x 37)),ot 41 (.ldn 6 (.t 40)),ox 9 (.alloc [(.str []),(.int .i64 0),.nils,(.bool false),.nils,.nils]),ow 8 39,on (.stn 6 (.x 9) (.t 41))]) (.reg [om 42 7,om 43 8,ot 44 (.fad 0 (.x 9)),ot 45 (.ld (.t 44)),ot 46 (.fad 1 (.x 9)),ot 47 (.ld (.t 46)),ot 48 (.build [(.str []),(.int .i64 0),.nils,.nils] [(0,1,.t 45),(1,1,.t 47)]),ot 49 (.iad 4 (.t 42) (.t 43)),on (.stn 4 (.t 49) (.t 48))]))) (.reg [ot 50 (.bin .add (.x 37) (oi 1)),ow 37 50]))))))) (.seq (.seq (.reg [ox 51 (.mv (.x 1)),ox 52 (.len 1 (.x 51)),ox 53 (.mv (oi 0))]) (.block 2 (.loop (.seq (.reg [ox 54 (.bin .lss (.x 53) (.x 52))]) (.seq (.cond (.x 54) .skip (.exit 2)) (.seq (.block 3 (.seq (.reg [om 55 53,ot 56 (.iad 1 (.x 51) (.x 53)),ot 57 (.ld (.t 56)),ow 10 55,ow 11 57]) (.seq (.seq (.reg [om 58 11,ot 59 (.len 1 (.t 58)),om 60 0,ot 61 (.len 6 (.t 60)),ox 62 (.bin .neq (.t 59) (.t 61))]) (.cond (.x 62) (.seq (.reg [ot 63 (.build [(.int .i64 0),.nils] []),om 64 10,ot 65 (.bin .add (.t 64) (oi 1)),on (.stn 2 (.x 4) (.t 63)),ow 5 65,ox 6 (.mv (oi 6))]) .ret) .skip)) (.seq (.reg [ox 66 (.mv (.x 0)),ox 67 (.len 6 (.x 66)),ox 68 (.mv (oi 0))]) (.block 4 (.loop (.seq (.reg [ox 69 (.bin .lss (.x 68) (.x 67))]) (.seq (.cond (.x 69) .skip (.exit 4)) (.seq (.block 5 (.seq (.reg [om 70 68,ot 71 (.iad 6 (.x 66) (.x 68)),ot 72 (.ldn 6 (.t 71)),ox 13 (.alloc [(.str []),(.int .i64 0),.nils,(.bool false),.nils,.nils]),ow 12 70,on (.stn 6 (.x 13) (.t 72))]) (.seq (.seq (.reg [ot 73 (.fad 1 (.x 13)),ot 74 (.ld (.t 73)),ox 75 (.bin .eql (.t 74) (oi 3))]) (.cond (.x 75) (.exit 5) .skip)) (.seq (.regs 8 [om 76 7,om 77 12,ot 78 (.iad 4 (.t 76) (.t 77)),ot 79 (.ldn 6 (.x 13)),om 80 11,om 81 12,ot 82 (.iad 1 (.t 80) (.t 81)),ot 83 (.ld (.t 82)),ot 84 (.call 45 [.t 78,.t 79,.t 83]),ow 14 84]) (.seq (.reg [om 85 14,ox 86 (.bin .neq (.t 85) (oi 0))]) (.cond (.x 86) (.seq (.reg [ot 87 (.build [(.int .i64 0),.nils] []),om 88 10,ot 89 (.bin .add (.t 88) (oi 1)),om 90 14,on (.stn 2 (.x 4) (.t 87)),ow 5 89,ow 6 90]) .ret) .skip)))))) (.reg [ot 91 (.bin .add (.x 68) (oi 1)),ow 68 91])))))))))) (.reg [ot 92 (.bin .add (.x 53) (oi 1)),ow 53 92]))))))) (.seq (.reg [om 93 1,ot 94 (.len 1 (.t 93)),ot 95 (.fad 0 (.x 4)),on (.st (.t 95) (.t 94))]) (.seq (.reg [om 96 7,ot 97 (.call 46 [.t 96,(.c (.fn 47))]),ot 98 (.fad 1 (.x 4)),on (.st (.t 98) (.t 97))]) (.seq (.reg [ot 99 (.ldn 2 (.x 4)),on (.stn 2 (.x 4) (.t 99)),ox 5 (.mv (oi 0)),ox 6 (.mv (oi 0))]) .ret))))))))))
def restBld : List RV := [.cn 2 4, .t 5, .t 6]
theorem istBld : IsFn fntBld 13 codetBld restBld := .k Tryz.func13 rfl (by kernel_rfl)
end Go.Proofs.YtjahkcgckiobkaaGreatDoor
namespace Go.Proofs
open Go.Shelf
def Tryz.lays161_ren : Go.Shelf.Ren := ⟨fun | 161 => 180 | 231 => 195 | 227 => 178 | 233 => 196 | 235 => 197 | 228 => 179 | 197 => 201 | 151 => 202 | 260 => 205 | 152 => 176 | 137 => 191 | 119 => 192 | 224 => 193 | 225 => 194 | 217 => 199 | 266 => 203 | n => n, fun | 9 => 9 | 4 => 4 | 3 => 3 | 5 => 5 | 117 => 177 | 116 => 176 | 0 => 0 | 124 => 189 | 105 => 194 | 21 => 21 | 119 => 198 | 46 => 156 | 139 => 201 | 138 => 200 | n => n, fun | 3 => 2 | 4 => 3 | n => n⟩
theorem Tryz.lays161 : Go.Proofs.Lays.n161 Tryz.prog Tryz.lays161_ren := {
 mixed := by kernel_rfl
 f119 := Tryz.func192.trans (congrArg some (by kernel_rfl))
 f137 := Tryz.func191.trans (congrArg some (by kernel_rfl))
 f151 := Tryz.func202.trans (congrArg some (by kernel_rfl))
 f152 := Tryz.func176.trans (congrArg some (by kernel_rfl))
 f161 := Tryz.func180.trans (congrArg some (by kernel_rfl))
 f197 := Tryz.func201.trans (congrArg some (by kernel_rfl))
 f217 := Tryz.func199.trans (congrArg some (by kernel_rfl))
 f224 := Tryz.func193.trans (congrArg some (by kernel_rfl))
 f225 := Tryz.func194.trans (congrArg some (by kernel_rfl))
 f227 := Tryz.func178.trans (congrArg some (by kernel_rfl))
 f228 := Tryz.func179.trans (congrArg some (by kernel_rfl))
 f231 := Tryz.func195.trans (congrArg some (by kernel_rfl))
 f233 := Tryz.func196.trans (congrArg some (by kernel_rfl))
 f235 := Tryz.func197.trans (congrArg some (by kernel_rfl))
 f260 := Tryz.func205.trans (congrArg some (by kernel_rfl))
 f266 := Tryz.func203.trans (congrArg some (by kernel_rfl))
 t0 := Tryz.underlying0
 a0 := Tryz.isAgg0
 z0 := Tryz.sizeOf0
 v0 := Tryz.zeroValue0
 t3 := Tryz.underlying3
 a3 := Tryz.isAgg3
 z3 := Tryz.sizeOf3
 v3 := Tryz.zeroValue3
 t4 := Tryz.underlying4
 a4 := Tryz.isAgg4
 z4 := Tryz.sizeOf4
 v4 := Tryz.zeroValue4
 t5 := Tryz.underlying5
 a5 := Tryz.isAgg5
 z5 := Tryz.sizeOf5
 v5 := Tryz.zeroValue5
 t9 := Tryz.underlying9
 a9 := Tryz.isAgg9
 z9 := Tryz.sizeOf9
 v9 := Tryz.zeroValue9
 t21 := Tryz.underlying21
 a21 := Tryz.isAgg21
 z21 := Tryz.sizeOf21
 v21 := Tryz.zeroValue21
 t46 := Tryz.underlying156
 a46 := Tryz.isAgg156
 z46 := Tryz.sizeOf156
 v46 := Tryz.zeroValue156
 t105 := Tryz.underlying194
 a105 := Tryz.isAgg194
 z105 := Tryz.sizeOf194
 v105 := Tryz.zeroValue194
 t116 := Tryz.underlying176
 a116 := Tryz.isAgg176
 z116 := Tryz.sizeOf176
 t117 := Tryz.underlying177
 a117 := Tryz.isAgg177
 z117 := Tryz.sizeOf177
 v117 := Tryz.zeroValue177
 t119 := Tryz.underlying198
 a119 := Tryz.isAgg198
 z119 := Tryz.sizeOf198
 t124 := Tryz.underlying189
 a124 := Tryz.isAgg189
 z124 := Tryz.sizeOf189
 v124 := Tryz.zeroValue189
 t138 := Tryz.underlying200
 a138 := Tryz.isAgg200
 z138 := Tryz.sizeOf200
 v138 := Tryz.zeroValue200
 t139 := Tryz.underlying201
 a139 := Tryz.isAgg201
 z139 := Tryz.sizeOf201
 v139 := Tryz.zeroValue201
 g3 := by kernel_rfl
 g4 := by kernel_rfl }
open Go.RowKit in
theorem Tryz.strings_TrimLeft_one (s : ByteArray) (c : UInt8) (hc : c.toNat < 128) (w : World) :
  Calls Tryz.prog 180 #[.string s, .string ⟨#[c]⟩] w fun e w' => e = .returned (.string ⟨(Lib.trimLeftB s.data.toList c).toArray⟩) ∧ w' = w := Any.strings_TrimLeft_one Tryz.lays161 s c hc w
def Tryz.lays119_ren : Go.Shelf.Ren := ⟨fun | 119 => 192 | n => n, fun | 21 => 21 | 4 => 4 | n => n, fun | n => n⟩
theorem Tryz.lays119 : Go.Proofs.Lays.n119 Tryz.prog Tryz.lays119_ren := {
 mixed := by kernel_rfl
 f119 := Tryz.func192.trans (congrArg some (by kernel_rfl))
 t4 := Tryz.underlying4
 a4 := Tryz.isAgg4
 z4 := Tryz.sizeOf4
 v4 := Tryz.zeroValue4
 t21 := Tryz.underlying21
 a21 := Tryz.isAgg21
 z21 := Tryz.sizeOf21
 v21 := Tryz.zeroValue21 }
theorem Tryz.utf8_ValidRune (r : Int) (w : World) :
  Calls Tryz.prog 192 #[.int .i32 r] w fun e w' => e = .returned (.bool (Lib.validRune r)) ∧ w' = w := Any.utf8_ValidRune Tryz.lays119 r w
def Tryz.lays137_ren : Go.Shelf.Ren := ⟨fun | 137 => 191 | 217 => 199 | 266 => 203 | n => n, fun | 9 => 9 | 5 => 5 | 3 => 3 | n => n, fun | n => n⟩
theorem Tryz.lays137 : Go.Proofs.Lays.n137 Tryz.prog Tryz.lays137_ren := {
 mixed := by kernel_rfl
 f137 := Tryz.func191.trans (congrArg some (by kernel_rfl))
 f217 := Tryz.func199.trans (congrArg some (by kernel_rfl))
 f266 := Tryz.func203.trans (congrArg some (by kernel_rfl))
 t3 := Tryz.underlying3
 a3 := Tryz.isAgg3
 z3 := Tryz.sizeOf3
 v3 := Tryz.zeroValue3
 t5 := Tryz.underlying5
 a5 := Tryz.isAgg5
 z5 := Tryz.sizeOf5
 v5 := Tryz.zeroValue5
 t9 := Tryz.underlying9
 a9 := Tryz.isAgg9
 z9 := Tryz.sizeOf9
 v9 := Tryz.zeroValue9 }
open Go.RowKit in
theorem Tryz.strings_IndexByte (s : ByteArray) (c : Int) (w : World) :
  Calls Tryz.prog 191 #[.string s, .int .u8 c] w fun e w' => e = .returned (.int .i64 (Lib.indexByte s.data.toList c.toNat.toUInt8)) ∧ w' = w := Any.strings_IndexByte Tryz.lays137 s c w
def Tryz.lays103_ren : Go.Shelf.Ren := ⟨fun | 103 => 121 | 210 => 153 | 206 => 174 | n => n, fun | 9 => 9 | 4 => 4 | 24 => 137 | 3 => 3 | n => n, fun | n => n⟩
theorem Tryz.lays103 : Go.Proofs.Lays.n103 Tryz.prog Tryz.lays103_ren := {
 mixed := by kernel_rfl
 f103 := Tryz.func121.trans (congrArg some (by kernel_rfl))
 f206 := Tryz.func174.trans (congrArg some (by kernel_rfl))
 f210 := Tryz.func153.trans (congrArg some (by kernel_rfl))
 t3 := Tryz.underlying3
 a3 := Tryz.isAgg3
 z3 := Tryz.sizeOf3
 v3 := Tryz.zeroValue3
 t4 := Tryz.underlying4
 a4 := Tryz.isAgg4
 z4 := Tryz.sizeOf4
 v4 := Tryz.zeroValue4
 t9 := Tryz.underlying9
 a9 := Tryz.isAgg9
 z9 := Tryz.sizeOf9
 v9 := Tryz.zeroValue9
 t24 := Tryz.underlying137
 a24 := Tryz.isAgg137
 z24 := Tryz.sizeOf137
 v24 := Tryz.zeroValue137 }
open Go.RowKit in
theorem Tryz.strings_CutPrefix (s p : ByteArray) (w : World) :
  Calls Tryz.prog 121 #[.string s, .string p] w fun e w' => e = .returned (.tuple #[.string ⟨(Lib.trimPrefix s.data.toList p.data.toList).toArray⟩, .bool (Lib.hasPrefix s.data.toList p.data.toList)]) ∧ w' = w := Any.strings_CutPrefix Tryz.lays103 s p w
def Tryz.lays219_ren : Go.Shelf.Ren := ⟨fun | 219 => 190 | 217 => 199 | 225 => 194 | 224 => 193 | 267 => 200 | 266 => 203 | 314 => 204 | n => n, fun | 9 => 9 | 3 => 3 | 4 => 4 | 5 => 5 | 46 => 156 | 146 => 180 | 51 => 127 | n => n, fun | 1 => 1 | n => n⟩
theorem Tryz.lays219 : Go.Proofs.Lays.n219 Tryz.prog Tryz.lays219_ren := {
 mixed := by kernel_rfl
 f217 := Tryz.func199.trans (congrArg some (by kernel_rfl))
 f219 := Tryz.func190.trans (congrArg some (by kernel_rfl))
 f224 := Tryz.func193.trans (congrArg some (by kernel_rfl))
 f225 := Tryz.func194.trans (congrArg some (by kernel_rfl))
 f266 := Tryz.func203.trans (congrArg some (by kernel_rfl))
 f267 := Tryz.func200.trans (congrArg some (by kernel_rfl))
 f314 := Tryz.func204.trans (congrArg some (by kernel_rfl))
 t3 := Tryz.underlying3
 a3 := Tryz.isAgg3
 z3 := Tryz.sizeOf3
 v3 := Tryz.zeroValue3
 t4 := Tryz.underlying4
 a4 := Tryz.isAgg4
 z4 := Tryz.sizeOf4
 v4 := Tryz.zeroValue4
 t5 := Tryz.underlying5
 a5 := Tryz.isAgg5
 z5 := Tryz.sizeOf5
 v5 := Tryz.zeroValue5
 t9 := Tryz.underlying9
 a9 := Tryz.isAgg9
 z9 := Tryz.sizeOf9
 v9 := Tryz.zeroValue9
 t46 := Tryz.underlying156
 a46 := Tryz.isAgg156
 z46 := Tryz.sizeOf156
 v46 := Tryz.zeroValue156
 t51 := Tryz.underlying127
 a51 := Tryz.isAgg127
 z51 := Tryz.sizeOf127
 v51 := Tryz.zeroValue127
 t146 := Tryz.underlying180
 a146 := Tryz.isAgg180
 z146 := Tryz.sizeOf180
 v146 := Tryz.zeroValue180
 g1 := by kernel_rfl }
open Go.RowKit Go.Lib in
theorem Tryz.stringslite_Index_one (s : ByteArray) (c : UInt8) (w : World) :
  Calls Tryz.prog 190 #[.string s, .string ⟨#[c]⟩] w fun e w' => e = .returned (.int .i64 (Lib.indexByte s.data.toList c)) ∧ w' = w := Any.stringslite_Index_one Tryz.lays219 s c w
def Tryz.lays152_ren : Go.Shelf.Ren := ⟨fun | 152 => 176 | 137 => 191 | 119 => 192 | 224 => 193 | 225 => 194 | 217 => 199 | 266 => 203 | n => n, fun | 9 => 9 | 21 => 21 | 3 => 3 | 4 => 4 | 5 => 5 | 0 => 0 | 46 => 156 | n => n, fun | n => n⟩
theorem Tryz.lays152 : Go.Proofs.Lays.n152 Tryz.prog Tryz.lays152_ren := {
 mixed := by kernel_rfl
 f119 := Tryz.func192.trans (congrArg some (by kernel_rfl))
 f137 := Tryz.func191.trans (congrArg some (by kernel_rfl))
 f152 := Tryz.func176.trans (congrArg some (by kernel_rfl))
 f217 := Tryz.func199.trans (congrArg some (by kernel_rfl))
 f224 := Tryz.func193.trans (congrArg some (by kernel_rfl))
 f225 := Tryz.func194.trans (congrArg some (by kernel_rfl))
 f266 := Tryz.func203.trans (congrArg some (by kernel_rfl))
 t0 := Tryz.underlying0
 a0 := Tryz.isAgg0
 z0 := Tryz.sizeOf0
 v0 := Tryz.zeroValue0
 t3 := Tryz.underlying3
 a3 := Tryz.isAgg3
 z3 := Tryz.sizeOf3
 v3 := Tryz.zeroValue3
 t4 := Tryz.underlying4
 a4 := Tryz.isAgg4
 z4 := Tryz.sizeOf4
 v4 := Tryz.zeroValue4
 t5 := Tryz.underlying5
 a5 := Tryz.isAgg5
 z5 := Tryz.sizeOf5
 v5 := Tryz.zeroValue5
 t9 := Tryz.underlying9
 a9 := Tryz.isAgg9
 z9 := Tryz.sizeOf9
 v9 := Tryz.zeroValue9
 t21 := Tryz.underlying21
 a21 := Tryz.isAgg21
 z21 := Tryz.sizeOf21
 v21 := Tryz.zeroValue21
 t46 := Tryz.underlying156
 a46 := Tryz.isAgg156
 z46 := Tryz.sizeOf156
 v46 := Tryz.zeroValue156 }
open Go.RowKit Go.Lib in
theorem Tryz.strings_IndexRune_ascii (s : ByteArray) (r : Int) (w : World) (h0 : 0 ≤ r) (h1 : r < 128) :
  Calls Tryz.prog 176 #[.string s, .int .i32 r] w fun e w' => e = .returned (.int .i64 (Lib.indexByte s.data.toList r.toNat.toUInt8)) ∧ w' = w := Any.strings_IndexRune_ascii Tryz.lays152 s r w h0 h1
def Tryz.lays226_ren : Go.Shelf.Ren := ⟨fun | 226 => 177 | n => n, fun | 3 => 3 | 4 => 4 | n => n, fun | n => n⟩
theorem Tryz.lays226 : Go.Proofs.Lays.n226 Tryz.prog Tryz.lays226_ren := {
 mixed := by kernel_rfl
 f226 := Tryz.func177.trans (congrArg some (by kernel_rfl))
 t3 := Tryz.underlying3
 a3 := Tryz.isAgg3
 z3 := Tryz.sizeOf3
 v3 := Tryz.zeroValue3
 t4 := Tryz.underlying4
 a4 := Tryz.isAgg4
 z4 := Tryz.sizeOf4
 v4 := Tryz.zeroValue4 }
open Go.RowKit Go.Lib in
theorem Tryz.strings_shouldUseASCIISet (n : Int) (w : World) :
  Calls Tryz.prog 177 #[.int .i64 n] w fun e w' => e = .returned (.bool (decide (8 < n))) ∧ w' = w := Any.strings_shouldUseASCIISet Tryz.lays226 n w
def Tryz.lays153_ren : Go.Shelf.Ren := ⟨fun | 153 => 156 | 152 => 176 | 226 => 177 | 227 => 178 | 228 => 179 | 137 => 191 | 119 => 192 | 224 => 193 | 225 => 194 | 217 => 199 | 266 => 203 | n => n, fun | 9 => 9 | 3 => 3 | 4 => 4 | 5 => 5 | 21 => 21 | 117 => 177 | 116 => 176 | 0 => 0 | 46 => 156 | 124 => 189 | n => n, fun | n => n⟩
theorem Tryz.lays153 : Go.Proofs.Lays.n153 Tryz.prog Tryz.lays153_ren := {
 mixed := by kernel_rfl
 f119 := Tryz.func192.trans (congrArg some (by kernel_rfl))
 f137 := Tryz.func191.trans (congrArg some (by kernel_rfl))
 f152 := Tryz.func176.trans (congrArg some (by kernel_rfl))
 f153 := Tryz.func156.trans (congrArg some (by kernel_rfl))
 f217 := Tryz.func199.trans (congrArg some (by kernel_rfl))
 f224 := Tryz.func193.trans (congrArg some (by kernel_rfl))
 f225 := Tryz.func194.trans (congrArg some (by kernel_rfl))
 f226 := Tryz.func177.trans (congrArg some (by kernel_rfl))
 f227 := Tryz.func178.trans (congrArg some (by kernel_rfl))
 f228 := Tryz.func179.trans (congrArg some (by kernel_rfl))
 f266 := Tryz.func203.trans (congrArg some (by kernel_rfl))
 t0 := Tryz.underlying0
 a0 := Tryz.isAgg0
 z0 := Tryz.sizeOf0
 v0 := Tryz.zeroValue0
 t3 := Tryz.underlying3
 a3 := Tryz.isAgg3
 z3 := Tryz.sizeOf3
 v3 := Tryz.zeroValue3
 t4 := Tryz.underlying4
 a4 := Tryz.isAgg4
 z4 := Tryz.sizeOf4
 v4 := Tryz.zeroValue4
 t5 := Tryz.underlying5
 a5 := Tryz.isAgg5
 z5 := Tryz.sizeOf5
 v5 := Tryz.zeroValue5
 t9 := Tryz.underlying9
 a9 := Tryz.isAgg9
 z9 := Tryz.sizeOf9
 v9 := Tryz.zeroValue9
 t21 := Tryz.underlying21
 a21 := Tryz.isAgg21
 z21 := Tryz.sizeOf21
 v21 := Tryz.zeroValue21
 t46 := Tryz.underlying156
 a46 := Tryz.isAgg156
 z46 := Tryz.sizeOf156
 v46 := Tryz.zeroValue156
 t116 := Tryz.underlying176
 a116 := Tryz.isAgg176
 z116 := Tryz.sizeOf176
 t117 := Tryz.underlying177
 a117 := Tryz.isAgg177
 z117 := Tryz.sizeOf177
 v117 := Tryz.zeroValue177
 t124 := Tryz.underlying189
 a124 := Tryz.isAgg189
 z124 := Tryz.sizeOf189
 v124 := Tryz.zeroValue189 }
open Go.RowKit Go.Lib in
theorem Tryz.strings_IndexAny_long (hv116 : ∀ w, (zeroValue 176).run Tryz.prog w = .ok (.agg (Array.replicate 256 (.bool false))) w) (s chars : ByteArray) (w : World) (h2 : 2 ≤ chars.size) (h8 : 8 < s.size) (hs : s.size < 4294967281) (hcs : chars.size < 4294967281) (hascii : ∀ (j : Nat) b, chars.data.toList[j]? = some b → b.toNat < 128) :
  Calls Tryz.prog 156 #[.string s, .string chars] w fun e w' => e = .returned (.int .i64 (Lib.indexAny s.data.toList chars.data.toList)) ∧ w' = ((w.alloc (.cells (Lib.setCells chars.data.toList) 176)).alloc (.cells (Lib.setCells chars.data.toList) 176)) := Any.strings_IndexAny_long Tryz.lays153 hv116 (by kernel_rfl) s chars w h2 h8 hs hcs hascii
open Go.RowKit Go.Lib in
theorem Tryz.strings_IndexAny_laid (s chars : ByteArray) (w : World) (hs : s.size < 4294967281) (hcs : chars.size < 4294967281) (has : ∀ (j : Nat) b, s.data.toList[j]? = some b → b.toNat < 128) (hac : ∀ (j : Nat) b, chars.data.toList[j]? = some b → b.toNat < 128) :
  Calls Tryz.prog 156 #[.string s, .string chars] w fun e w' => e = .returned (.int .i64 (Lib.indexAny s.data.toList chars.data.toList)) ∧ Below w.heap.size w w' := Any.strings_IndexAny_laid Tryz.lays153 (by kernel_rfl) s chars w hs hcs has hac
end Go.Proofs
namespace Go.Proofs.YtjahkcgckiobkaaGreatDoor
open Go Go.Dat Go.Proofs
noncomputable def fntDel1 : FnD := ⟨Tryz.prog,[0,1,2,4,5],[1000003,9000008,9000012],13,false⟩
def codetDel1 : DC := (.seq (.reg [ox 4 (.box (.x 1)),ox 5 (.mv (.c .nils))]) (.seq (.rego <| .st (ot 6 (.fad 3 (.x 4))) <| .st (ot 7 (.ld (.t 6))) <| .alt (.alt (.st (ot 8 (.call 81 [.t 7])) <| .st (ot 9 (.ld (.x 2))) <| .st (ot 10 (.ld (.x 2))) <| .st (ot 11 (.bin .add (.t 10) (oi 1))) <| .st (ot 12 (.call 83 [.t 8,.t 9,.t 11])) <| .st (ow 5 12) <| .leaf) (.st (ot 9 (.ld (.x 2))) <| .alt (.st (ot 8 (.call 81 [.t 7])) <| .st (ot 10 (.ld (.x 2))) <| .st (ot 11 (.bin .add (.t 10) (oi 1))) <| .st (ot 12 (.call 83 [.t 8,.t 9,.t 11])) <| .st (ow 5 12) <| .leaf) (.st (ot 10 (.ld (.x 2))) <| .fl (ot 11 (.bin .add (.t 10) (oi 1))) <| .st (ot 8 (.call 81 [.t 7])) <| .st (ot 12 (.call 83 [.t 8,.t 9,.t 11])) <| .st (ow 5 12) <| .leaf))) (.st (ot 10 (.ld (.x 2))) <| .fl (ot 11 (.bin .add (.t 10) (oi 1))) <| .alt (.st (ot 8 (.call 81 [.t 7])) <| .st (ot 9 (.ld (.x 2))) <| .st (ot 12 (.call 83 [.t 8,.t 9,.t 11])) <| .st (ow 5 12) <| .leaf) (.st (ot 9 (.ld (.x 2))) <| .st (ot 8 (.call 81 [.t 7])) <| .st (ot 12 (.call 83 [.t 8,.t 9,.t 11])) <| .st (ow 5 12) <| .leaf))) .ret))
def restDel1 : List RV := [.t 5]
theorem istDel1 : IsFn fntDel1 82 codetDel1 restDel1 := .k Tryz.func82 rfl (by kernel_rfl)
noncomputable def fntIns1 : FnD := ⟨Tryz.prog,[0,1,2,3,5,6],[1000003,9000009,9000016,15],17,false⟩
def codetIns1 : DC := (.seq (.reg [ox 5 (.box (.x 1)),ox 6 (.mv (.c .nils))]) (.seq (.rego <| .st (ot 7 (.fad 3 (.x 5))) <| .st (ot 8 (.ld (.t 7))) <| .fl (om 12 0) <| .alt (.alt (.st (ot 9 (.call 81 [.t 8])) <| .st (ot 10 (.ld (.x 2))) <| .st (ot 11 (.ld (.x 3))) <| .st (ot 13 (.iad 5 (.t 11) (.t 12))) <| .st (ot 14 (.ldn 5 (.t 13))) <| .st (ot 15 (.bsl' 5 [(.bool false),(.bool false),.nils,.nils,(.int .i64 0)] [(0,5,.t 14)])) <| .st (ot 16 (.call 80 [.t 9,.t 10,.t 15])) <| .st (ow 6 16) <| .leaf) (.st (ot 10 (.ld (.x 2))) <| .alt (.st (ot 9 (.call 81 [.t 8])) <| .st (ot 11 (.ld (.x 3))) <| .st (ot 13 (.iad 5 (.t 11) (.t 12))) <| .st (ot 14 (.ldn 5 (.t 13))) <| .st (ot 15 (.bsl' 5 [(.bool false),(.bool false),.nils,.nils,(.int .i64 0)] [(0,5,.t 14)])) <| .st (ot 16 (.call 80 [.t 9,.t 10,.t 15])) <| .st (ow 6 16) <| .leaf) (.st (ot 11 (.ld (.x 3))) <| .alt (.st (ot 9 (.call 81 [.t 8])) <| .st (ot 13 (.iad 5 (.t 11) (.t 12))) <| .st (ot 14 (.ldn 5 (.t 13))) <| .st (ot 15 (.bsl' 5 [(.bool false),(.bool false),.nils,.nils,(.int .i64 0)] [(0,5,.t 14)])) <| .st (ot 16 (.call 80 [.t 9,.t 10,.t 15])) <| .st (ow 6 16) <| .leaf) (.st (ot 13 (.iad 5 (.t 11) (.t 12))) <| .alt (.st (ot 9 (.call 81 [.t 8])) <| .st (ot 14 (.ldn 5 (.t 13))) <| .st (ot 15 (.bsl' 5 [(.bool false),(.bool false),.nils,.nils,(.int .i64 0)] [(0,5,.t 14)])) <| .st (ot 16 (.call 80 [.t 9,.t 10,.t 15])) <| .st (ow 6 16) <| .leaf) (.st (ot 14 (.ldn 5 (.t 13))) <| .alt (.st (ot 9 (.call 81 [.t 8])) <| .st (ot 15 (.bsl' 5 [(.bool false),(.bool false),.nils,.nils,(.int .i64 0)] [(0,5,.t 14)])) <| .st (ot 16 (.call 80 [.t 9,.t 10,.t 15])) <| .st (ow 6 16) <| .leaf) (.st (ot 15 (.bsl' 5 [(.bool false),(.bool false),.nils,.nils,(.int .i64 0)] [(0,5,.t 14)])) <| .st (ot 9 (.call 81 [.t 8])) <| .st (ot 16 (.call 80 [.t 9,.t 10,.t 15])) <| .st (ow 6 16) <| .leaf)))))) (.st (ot 11 (.ld (.x 3))) <| .alt (.alt (.st (ot 9 (.call 81 [.t 8])) <| .st (ot 10 (.ld (.x 2))) <| .st (ot 13 (.iad 5 (.t 11) (.t 12))) <| .st (ot 14 (.ldn 5 (.t 13))) <| .st (ot 15 (.bsl' 5 [(.bool false),(.bool false),.nils,.nils,(.int .i64 0)] [(0,5,.t 14)])) <| .st (ot 16 (.call 80 [.t 9,.t 10,.t 15])) <| .st (ow 6 16) <| .leaf) (.st (ot 10 (.ld (.x 2))) <| .alt (.st (ot 9 (.call 81 [.t 8])) <| .st (ot 13 (.iad 5 (.t 11) (.t 12))) <| .st (ot 14 (.ldn 5 (.t 13))) <| .st (ot 15 (.bsl' 5 [(.bool false),(.bool false),.nils,.nils,(.int .i64 0)] [(0,5,.t 14)])) <| .st (ot 16 (.call 80 [.t 9,.t 10,.t 15])) <| .st (ow 6 16) <| .leaf) (.st (ot 13 (.iad 5 (.t 11) (.t 12))) <| .alt (.st (ot 9 (.call 81 [.t 8])) <| .st (ot 14 (.ldn 5 (.t 13))) <| .st (ot 15 (.bsl' 5 [(.bool false),(.bool false),.nils,.nils,(.int .i64 0)] [(0,5,.t 14)])) <| .st (ot 16 (.call 80 [.t 9,.t 10,.t 15])) <| .st (ow 6 16) <| .leaf) (.st (ot 14 (.ldn 5 (.t 13))) <| .alt (.st (ot 9 (.call 81 [.t 8])) <| .st (ot 15 (.bsl' 5 [(.bool false),(.bool false),.nils,.nils,(.int .i64 0)] [(0,5,.t 14)])) <| .st (ot 16 (.call 80 [.t 9,.t 10,.t 15])) <| .st (ow 6 16) <| .leaf) (.st (ot 15 (.bsl' 5 [(.bool false),(.bool false),.nils,.nils,(.int .i64 0)] [(0,5,.t 14)])) <| .st (ot 9 (.call 81 [.t 8])) <| .st (ot 16 (.call 80 [.t 9,.t 10,.t 15])) <| .st (ow 6 16) <| .leaf))))) (.st (ot 13 (.iad 5 (.t 11) (.t 12))) <| .alt (.alt (.st (ot 9 (.call 81 [.t 8])) <| .st (ot 10 (.ld (.x 2))) <| .st (ot 14 (.ldn 5 (.t 13))) <| .st (ot 15 (.bsl' 5 [(.bool false),(.bool false),.nils,.nils,(.int .i64 0)] [(0,5,.t 14)])) <| .st (ot 16 (.call 80 [.t 9,.t 10,.t 15])) <| .st (ow 6 16) <| .leaf) (.st (ot 10 (.ld (.x 2))) <| .alt (.st (ot 9 (.call 81 [.t 8])) <| .st (ot 14 (.ldn 5 (.t 13))) <| .st (ot 15 (.bsl' 5 [(.bool false),(.bool false),.nils,.nils,(.int .i64 0)] [(0,5,.t 14)])) <| .st (ot 16 (.call 80 [.t 9,.t 10,.t 15])) <| .st (ow 6 16) <| .leaf) (.st (ot 14 (.ldn 5 (.t 13))) <| .alt (.st (ot 9 (.call 81 [.t 8])) <| .st (ot 15 (.bsl' 5 [(.bool false),(.bool false),.nils,.nils,(.int .i64 0)] [(0,5,.t 14)])) <| .st (ot 16 (.call 80 [.t 9,.t 10,.t 15])) <| .st (ow 6 16) <| .leaf) (.st (ot 15 (.bsl' 5 [(.bool false),(.bool false),.nils,.nils,(.int .i64 0)] [(0,5,.t 14)])) <| .st (ot 9 (.call 81 [.t 8])) <| .st (ot 16 (.call 80 [.t 9,.t 10,.t 15])) <| .st (ow 6 16) <| .leaf)))) (.st (ot 14 (.ldn 5 (.t 13))) <| .alt (.alt (.st (ot 9 (.call 81 [.t 8])) <| .st (ot 10 (.ld (.x 2))) <| .st (ot 15 (.bsl' 5 [(.bool false),(.bool false),.nils,.nils,(.int .i64 0)] [(0,5,.t 14)])) <| .st (ot 16 (.call 80 [.t 9,.t 10,.t 15])) <| .st (ow 6 16) <| .leaf) (.st (ot 10 (.ld (.x 2))) <| .alt (.st (ot 9 (.call 81 [.t 8])) <| .st (ot 15 (.bsl' 5 [(.bool false),(.bool false),.nils,.nils,(.int .i64 0)] [(0,5,.t 14)])) <| .st (ot 16 (.call 80 [.t 9,.t 10,.t 15])) <| .st (ow 6 16) <| .leaf) (.st (ot 15 (.bsl' 5 [(.bool false),(.bool false),.nils,.nils,(.int .i64 0)] [(0,5,.t 14)])) <| .st (ot 9 (.call 81 [.t 8])) <| .st (ot 16 (.call 80 [.t 9,.t 10,.t 15])) <| .st (ow 6 16) <| .leaf))) (.st (ot 15 (.bsl' 5 [(.bool false),(.bool false),.nils,.nils,(.int .i64 0)] [(0,5,.t 14)])) <| .alt (.st (ot 9 (.call 81 [.t 8])) <| .st (ot 10 (.ld (.x 2))) <| .st (ot 16 (.call 80 [.t 9,.t 10,.t 15])) <| .st (ow 6 16) <| .leaf) (.st (ot 10 (.ld (.x 2))) <| .st (ot 9 (.call 81 [.t 8])) <| .st (ot 16 (.call 80 [.t 9,.t 10,.t 15])) <| .st (ow 6 16) <| .leaf)))))) .ret))
def restIns1 : List RV := [.t 6]
theorem istIns1 : IsFn fntIns1 79 codetIns1 restIns1 := .k Tryz.func79 rfl (by kernel_rfl)
noncomputable def fntVld : FnD := ⟨Tryz.prog,[0,1,2],[2000001],29,false⟩
def codetVld : DC := (.seq (.reg [ox 1 (.boxi (.x 0)),ox 2 (.mv (.c (.bool false)))]) (.seq (.reg [ot 3 (.fad 0 (.x 1)),ot 4 (.ld (.t 3)),ot 5 (.bin .geq (.t 4) (oi 0)),ot 6 (.mv (.t 5)),og 7 (.fad 0 (.x 1)) 6 true,og 8 (.ld (.t 7)) 6 true,og 9 (.bin .leq (.t 8) (oi 1024)) 6 true,ot 10 (.pick (.t 6) (.t 9) (.c (.bool false))),ot 11 (.mv (.t 10)),og 12 (.fad 1 (.x 1)) 11 true,og 13 (.ld (.t 12)) 11 true,og 14 (.len 4 (.t 13)) 11 true,og 15 (.bin .leq (.t 14) (oi 32)) 11 true,ot 16 (.pick (.t 11) (.t 15) (.c (.bool false))),ot 17 (.mv (.t 16)),og 18 (.ldn 2 (.x 1)) 17 true,og 19 (.call 58 [.t 18]) 17 true,og 20 (.call 40 [.t 19]) 17 true,ot 21 (.pick (.t 17) (.t 20) (.c (.bool false))),ot 22 (.mv (.t 21)),og 23 (.fad 1 (.x 1)) 22 true,og 24 (.ld (.t 23)) 22 true,og 25 (.mkf 60 [.x 1]) 22 true,og 26 (.call 59 [.t 24,.t 25]) 22 true,og 27 (.un .not (.t 26)) 22 true,ot 28 (.pick (.t 22) (.t 27) (.c (.bool false))),ow 2 28]) .ret))
def restVld : List RV := [.t 2]
theorem istVld : IsFn fntVld 21 codetVld restVld := .k Tryz.func21 rfl (by kernel_rfl)
noncomputable def fntClm : FnD := ⟨Tryz.prog,[0,1,2,4,5,6,38,40,41,42,43,52],[2000002],59,false⟩
def codetClm : DC := (.seq (.reg [ox 2 (.boxi (.x 0)),ox 4 (.mv (.c (.bool false)))]) (.seq (.seq (.reg [ot 7 (.fad 1 (.x 2)),ot 8 (.ld (.t 7)),ot 9 (.bin .neq (.t 8) (oi 1)),ot 10 (.mv (.t 9)),og 11 (.fad 1 (.x 2)) 10 true,og 12 (.ld (.t 11)) 10 true,og 13 (.bin .neq (.t 12) (oi 2)) 10 true,ot 14 (.pick (.t 10) (.t 13) (.c (.bool false))),ot 15 (.mv (.t 14)),og 16 (.fad 1 (.x 2)) 15 false,og 17 (.ld (.t 16)) 15 false,og 18 (.bin .eql (.t 17) (oi 1)) 15 false,og 19 (.mv (.t 18)) 15 false,og 20 (.fad 2 (.x 2)) 19 true,og 21 (.ld (.t 20)) 19 true,og 22 (.len 1 (.t 21)) 19 true,og 23 (.bin .gtr (.t 22) (oi 0)) 19 true,og 24 (.pick (.t 19) (.t 23) (.c (.bool false))) 15 false,ot 25 (.pick (.t 15) (.c (.bool true)) (.t 24)),ot 26 (.mv (.t 25)),og 27 (.fad 2 (.x 2)) 26 false,og 28 (.ld (.t 27)) 26 false,og 29 (.len 1 (.t 28)) 26 false,og 30 (.bin .gtr (.t 29) (oi 32)) 26 false,ot 31 (.pick (.t 26) (.c (.bool true)) (.t 30)),ot 32 (.mv (.t 31)),og 33 (.fad 3 (.x 2)) 32 false,og 34 (.ld (.t 33)) 32 false,og 35 (.len 5 (.t 34)) 32 false,og 36 (.mv (.x 1)) 32 false,og 37 (.bin .neq (.t 35) (.t 36)) 32 false,ox 38 (.pick (.t 32) (.c (.bool true)) (.t 37))]) (.cond (.x 38) (.seq (.reg [ox 4 (.mv (.c (.bool false)))]) .ret) .skip)) (.seq (.seq (.reg [ot 39 (.fad 2 (.x 2)),ox 40 (.ld (.t 39)),ox 41 (.len 1 (.x 40)),ox 42 (.mv (oi 0))]) (.block 0 (.loop (.seq (.reg [ox 43 (.bin .lss (.x 42) (.x 41))]) (.seq (.cond (.x 43) .skip (.exit 0)) (.seq (.block 1 (.seq (.reg [om 44 42,ot 45 (.iad 1 (.x 40) (.x 42)),ot 46 (.ld (.t 45)),ow 5 44,ow 6 46]) (.seq (.reg [ot 47 (.fad 2 (.x 2)),ot 48 (.ld (.t 47)),om 49 5,ot 50 (.slc 1 (.t 48) none (some (.t 49))),om 51 6,ox 52 (.call 86 [.t 50,.t 51])]) (.cond (.x 52) (.seq (.reg [ox 4 (.mv (.c (.bool false)))]) .ret) .skip)))) (.reg [ot 53 (.bin .add (.x 42) (oi 1)),ow 42 53]))))))) (.seq (.reg [ot 54 (.fad 3 (.x 2)),ot 55 (.ld (.t 54)),ot 56 (.mkf 105 [.x 2]),ot 57 (.call 104 [.t 55,.t 56]),ot 58 (.un .not (.t 57)),ow 4 58]) .ret))))
def restClm : List RV := [.t 4]
theorem istClm : IsFn fntClm 61 codetClm restClm := .k Tryz.func61 rfl (by kernel_rfl)
end Go.Proofs.YtjahkcgckiobkaaGreatDoor
