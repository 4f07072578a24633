/- Lemmas of the walk; no conditions beyond those that each states. -/
import Derived.Test.YtjfedgpbedppeaaGreatDoorProg
import Derived.Shelf.Strings.Builder1
import Derived.Shelf.Strings.Builder2
import Derived.Shelf.Strings.OnBuilder
import Derived.Shelf.Strings.Trim
import Derived.Shelf.Small.Utf8
import Derived.Shelf.Small.Bits
import Derived.Shelf.Small.Strs
import Derived.Shelf.Small.Wraps
import Derived.Shelf.Strings.BuilderF
import Derived.Shelf.Strings.BuilderK
import Derived.Shelf.Utf8.RuneCount
import Derived.Shelf.Strings.Builder2Cap
import Derived.Shelf.Strconv.Itoa0
import Derived.Shelf.Strconv.Itoa1
import Derived.Shelf.LaysM
import Derived.Shelf.Strconv.Itoa2
import Derived.Shelf.Strconv.Itoa3
import Derived.Shelf.Strings.Search1
import Derived.Shelf.Strings.Search2
import Derived.Shelf.Strings.Search3
import Derived.Shelf.Strings.Cut
import Derived.Shelf.Strings.Count
import Derived.Shelf.Strings.Shaped
import Derived.Shelf.Strings.Prefix
import Derived.Shelf.Strings.Split
import Derived.Shelf.Strings.SplitShaped
import Derived.Shelf.Unicode.Decode
import Derived.Shelf.Strings.Runes
import Derived.Shelf.Strings.RuneCount
import Derived.Shelf.Strings.IndexAny
import Derived.Shelf.Strings.AsciiSet
import Derived.Shelf.Strings.IndexAnyAll
import Derived.Shelf.Strings.Explode
import Derived.Shelf.Bits.Mul64
import Derived.Shelf.Strings.Repeat
import Derived.Shelf.Unicode.DecodeSlow
import Derived.Shelf.Unicode.DecodeAny
import Derived.Shelf.Strings.BuilderCap
import Derived.Ground.Names2Prog
import Derived.Shelf.Slices.ReverseS
import Derived.Shelf.Slices.Cells
import Derived.Test.YtjfedgpbedppeaaGreatDoorD2
set_option linter.unusedSimpArgs false
set_option linter.unusedVariables false
set_option linter.unnecessarySimpa false
set_option maxHeartbeats 4000000
namespace Go.Proofs.YtjfedgpbedppeaaGreatDoor
open Go Go.Dat Go.Proofs
noncomputable def fnlr_awake : FnD := ⟨Tryz.prog,[0,1,2],[],16,false⟩
def codelr_awake : DC := (.seq (.reg [ox 0 (.mv (.c (.bool false)))]) (.seq (.reg [ot 4 (.bsl 1 [(.str []),(.str [])] [(0,1,(.c (.str [97]))),(1,1,(.c (.str [49,48])))]),ot 5 (.bsl 1 [(.str []),(.str [])] [(0,1,(.c (.str [98,99,100]))),(1,1,(.c (.str [50])))]),ot 6 (.bsl 1 [.nils,.nils] [(0,1,.t 4),(1,1,.t 5)]),ot 7 (.call 29 [.t 6]),ot 3 (.mv (.t 7)),ot 8 (.ext (.t 3) 0),ot 9 (.ext (.t 3) 1),ow 1 8,ow 2 9]) (.seq (.reg [om 10 2,ot 11 (.bin .eql (.t 10) (oi 0)),ot 12 (.mv (.t 11)),og 13 (.mv (.x 1)) 12 true,og 14 (.bin .eql (.t 13) (.c (.str [32,32,97,32,32,49,48,10,98,99,100,32,32,32,50,10]))) 12 true,ot 15 (.pick (.t 12) (.t 14) (.c (.bool false))),ow 0 15]) .ret)))
def reslr_awake : List RV := [.t 0]
theorem islr_awake : IsFn fnlr_awake 7 codelr_awake reslr_awake := .k Tryz.func7 rfl (by kernel_rfl)
noncomputable def fnwBool : FnD := ⟨Tryz.prog,[0,1,4],[],11,false⟩
def codewBool : DC := (.seq (.reg [ox 4 (.mv (.c (.bool false)))]) (.seq (.reg [om 5 0,om 6 1,ot 7 (.call 14 [.t 5,.t 6]),om 8 1,ot 9 (.bin .sub (.t 8) (oi 1)),ot 10 (.bin .eql (.t 7) (.t 9)),ow 4 10]) .ret))
def reswBool : List RV := [.t 4]
theorem iswBool : IsFn fnwBool 19 codewBool reswBool := .k Tryz.func19 rfl (by kernel_rfl)
noncomputable def fnreCoefs : FnD := ⟨Tryz.prog,[0,1,2,6,7,8,9,10,20,26,27,28,29,30],[],55,false⟩
def codereCoefs : DC := (.seq (.reg [ox 6 (.mv (.c (.str []))),ox 7 (.mv (oi 0))]) (.seq (.seq (.reg [om 11 0,ot 12 (.len 1 (.t 11)),ot 13 (.bin .eql (.t 12) (oi 0)),ot 14 (.mv (.t 13)),og 15 (.mv (.x 1)) 14 false,og 16 (.len 3 (.t 15)) 14 false,og 17 (.mv (.x 0)) 14 false,og 18 (.len 1 (.t 17)) 14 false,og 19 (.bin .neq (.t 16) (.t 18)) 14 false,ox 20 (.pick (.t 14) (.c (.bool true)) (.t 19))]) (.cond (.x 20) (.seq (.reg [ox 6 (.mv (.c (.str []))),ox 7 (.mv (oi 6))]) .ret) .skip)) (.seq (.seq (.reg [om 21 2,ot 22 (.bin .lss (.t 21) (oi 0)),ot 23 (.mv (.t 22)),og 24 (.mv (.x 2)) 23 false,og 25 (.bin .gtr (.t 24) (oi 20)) 23 false,ox 26 (.pick (.t 23) (.c (.bool true)) (.t 25))]) (.cond (.x 26) (.seq (.reg [ox 6 (.mv (.c (.str []))),ox 7 (.mv (oi 1))]) .ret) .skip)) (.seq (.reg [ox 8 (.mv (.c .nils))]) (.seq (.seq (.reg [ox 27 (.mv (.x 0)),ox 28 (.len 1 (.x 27)),ox 29 (.mv (oi 0))]) (.block 0 (.loop (.seq (.reg [ox 30 (.bin .lss (.x 29) (.x 28))]) (.seq (.cond (.x 30) .skip (.exit 0)) (.seq (.block 1 (.seq (.reg [om 31 29,ot 32 (.iad 1 (.x 27) (.x 29)),ot 33 (.ld (.t 32)),ow 9 31,ow 10 33]) (.regd [om 34 8,om 35 10,om 36 1,om 37 9,ot 38 (.iad 3 (.t 36) (.t 37)),ot 39 (.ldn 3 (.t 38)),ot 40 (.call 42 [.t 39]),om 41 1,om 42 9,ot 43 (.iad 3 (.t 41) (.t 42)),ot 44 (.ldn 3 (.t 43)),om 45 2,ot 46 (.call 51 [.t 44,.t 45]),ot 47 (.bsl 1 [(.str []),(.str []),(.str [])] [(0,1,.t 35),(1,1,.t 40),(2,1,.t 46)]),ot 48 (.bsl 1 [.nils] [(0,1,.t 47)]),ot 49 (.app 39 1 24 (.t 34) (.t 48)),ow 8 49]))) (.reg [ot 50 (.bin .add (.x 29) (oi 1)),ow 29 50]))))))) (.seq (.reg [om 51 8,ot 52 (.call 52 [.t 51]),ot 53 (.ext (.t 52) 0),ot 54 (.ext (.t 52) 1),ow 6 53,ow 7 54]) .ret))))))
def resreCoefs : List RV := [.t 6, .t 7]
theorem isreCoefs : IsFn fnreCoefs 23 codereCoefs resreCoefs := .k Tryz.func23 rfl (by kernel_rfl)
noncomputable def fnpSameList : FnD := ⟨Tryz.prog,[0,1,4,5,10,14,26],[],27,false⟩
def codepSameList : DC := (.seq (.reg [ox 4 (.mv (.c (.bool false)))]) (.seq (.seq (.reg [om 6 0,ot 7 (.len 3 (.t 6)),om 8 1,ot 9 (.len 3 (.t 8)),ox 10 (.bin .neq (.t 7) (.t 9))]) (.cond (.x 10) (.seq (.reg [ox 4 (.mv (.c (.bool false)))]) .ret) .skip)) (.seq (.seq (.reg [ox 5 (.mv (oi 0))]) (.block 0 (.loop (.seq (.seq (.reg [om 11 5,om 12 0,ot 13 (.len 3 (.t 12)),ox 14 (.bin .lss (.t 11) (.t 13))]) (.cond (.x 14) .skip (.exit 0))) (.seq (.block 1 (.seq (.regd [om 17 0,om 18 5,ot 19 (.iad 3 (.t 17) (.t 18)),ot 20 (.ldn 3 (.t 19)),om 21 1,om 22 5,ot 23 (.iad 3 (.t 21) (.t 22)),ot 24 (.ldn 3 (.t 23)),ot 25 (.call 53 [.t 20,.t 24]),ox 26 (.un .not (.t 25))]) (.cond (.x 26) (.seq (.reg [ox 4 (.mv (.c (.bool false)))]) .ret) .skip))) (.reg [om 15 5,ot 16 (.bin .add (.t 15) (oi 1)),ow 5 16])))))) (.seq (.reg [ox 4 (.mv (.c (.bool true)))]) .ret))))
def respSameList : List RV := [.t 4]
theorem ispSameList : IsFn fnpSameList 27 codepSameList respSameList := .k Tryz.func27 rfl (by kernel_rfl)
noncomputable def fnpFromInt : FnD := ⟨Tryz.prog,[0,2],[],6,false⟩
def codepFromInt : DC := (.seq (.reg [ox 2 (.alloc [(.bool false),.nils,.nils])]) (.seq (.reg [om 3 0,ot 4 (.call 59 [.t 3]),ot 5 (.build [(.bool false),.nils,.nils] [(0,2,.t 4)]),on (.stn 3 (.x 2) (.t 5))]) .ret))
def respFromInt : List RV := [.cn 3 2]
theorem nbpFromInt : fnpFromInt.nb = 0 := rfl
theorem ispFromInt : IsFn fnpFromInt 35 codepFromInt respFromInt := .k Tryz.func35 rfl (by kernel_rfl)
noncomputable def fnqFormat : FnD := ⟨Tryz.prog,[0,1,2,3,12],[],20,false⟩
def codeqFormat : DC := (.seq (.reg [ox 1 (.box (.x 0)),ox 2 (.mv (.c (.str [])))]) (.seq (.reg [ot 4 (.ldn 3 (.x 1)),ot 5 (.call 61 [.t 4]),on (.stn 3 (.x 1) (.t 5))]) (.seq (.reg [ot 6 (.fad 0 (.x 1)),ot 7 (.ldn 2 (.t 6)),ot 8 (.call 62 [.t 7]),ow 3 8]) (.seq (.seq (.reg [ot 9 (.fad 2 (.x 1)),ot 10 (.ld (.t 9)),ot 11 (.len 1 (.t 10)),ox 12 (.bin .gtr (.t 11) (oi 0))]) (.cond (.x 12) (.reg [om 13 3,ot 14 (.fad 2 (.x 1)),ot 15 (.ld (.t 14)),ot 16 (.call 63 [.t 15]),ot 17 (.bin .add (.c (.str [47])) (.t 16)),ot 18 (.bin .add (.t 13) (.t 17)),ow 3 18]) .skip)) (.seq (.reg [om 19 3,ow 2 19]) .ret)))))
def resqFormat : List RV := [.t 2]
theorem nbqFormat : fnqFormat.nb = 0 := rfl
theorem isqFormat : IsFn fnqFormat 39 codeqFormat resqFormat := .k Tryz.func39 rfl (by kernel_rfl)
noncomputable def fnrpLines : FnD := ⟨Tryz.prog,[0,2,3,6],[],13,false⟩
def coderpLines : DC := (.seq (.reg [ox 2 (.mv (.c .nils)),ox 3 (.mv (.c (.bool false)))]) (.seq (.seq (.reg [om 4 0,ot 5 (.call 67 [.t 4,(.c (.str [10]))]),ox 6 (.un .not (.t 5))]) (.cond (.x 6) (.seq (.reg [ox 2 (.mv (.c .nils)),ox 3 (.mv (.c (.bool false)))]) .ret) .skip)) (.seq (.reg [om 7 0,om 8 0,ot 9 (.lenS (.t 8)),ot 10 (.bin .sub (.t 9) (oi 1)),ot 11 (.slcS (.t 7) none (some (.t 10))),ot 12 (.call 57 [.t 11,(.c (.str [10]))]),ow 2 12,ox 3 (.mv (.c (.bool true)))]) .ret)))
def resrpLines : List RV := [.t 2, .t 3]
theorem isrpLines : IsFn fnrpLines 44 coderpLines resrpLines := .k Tryz.func44 rfl (by kernel_rfl)
noncomputable def fnpParse : FnD := ⟨Tryz.prog,[0,2,3,4,5,6,7,8,9,10,11,12,13,14,15,16,17,18,19,20,21,22,30,38,56,77,100,111,133],[],140,false⟩
def codepParse : DC := (.seq (.reg [ox 2 (.alloc [(.bool false),.nils,.nils]),ox 3 (.mv (.c (.bool false)))]) (.seq (.seq (.reg [om 23 0,ot 24 (.lenS (.t 23)),ot 25 (.bin .gtr (.t 24) (oi 0)),ot 26 (.mv (.t 25)),og 27 (.mv (.x 0)) 26 true,og 28 (.idx (.t 27) (oi 0)) 26 true,og 29 (.bin .eql (.t 28) (.c (.int .u8 45))) 26 true,ox 30 (.pick (.t 26) (.t 29) (.c (.bool false)))]) (.cond (.x 30) (.seq (.seq (.reg [om 31 0,ot 32 (.lenS (.t 31)),ot 33 (.bin .gtr (.t 32) (oi 1)),ot 34 (.mv (.t 33)),og 35 (.mv (.x 0)) 34 true,og 36 (.idx (.t 35) (oi 1)) 34 true,og 37 (.bin .eql (.t 36) (.c (.int .u8 45))) 34 true,ox 38 (.pick (.t 34) (.t 37) (.c (.bool false)))]) (.cond (.x 38) (.seq (.reg [ot 39 (.build [(.bool false),.nils,.nils] []),on (.stn 3 (.x 2) (.t 39)),ox 3 (.mv (.c (.bool false)))]) .ret) .skip)) (.seq (.reg [om 41 0,ot 42 (.slcS (.t 41) (some (oi 1)) none),ot 43 (.call 48 [.t 42]),ot 40 (.mv (.t 43)),ot 44 (.ext (.t 40) 0),ot 45 (.ext (.t 40) 1),ox 4 (.alloc [(.bool false),.nils,.nils]),on (.stn 3 (.x 4) (.t 44)),ow 5 45]) (.seq (.reg [ot 46 (.ldn 3 (.x 4)),ot 47 (.call 71 [.t 46]),om 48 5,on (.stn 3 (.x 2) (.t 47)),ow 3 48]) .ret))) .skip)) (.seq (.seq (.reg [om 50 0,ot 51 (.call 72 [.t 50,(.c (.str [47]))]),ot 49 (.mv (.t 51)),ot 52 (.ext (.t 49) 0),ot 53 (.ext (.t 49) 1),ot 54 (.ext (.t 49) 2),ow 6 52,ow 7 53,ow 8 54]) (.seq (.reg [om 55 8,ox 56 (.bin .geq (.t 55) (oi 0))]) (.cond (.x 56) (.seq (.reg [om 58 6,ot 59 (.call 73 [.t 58]),ot 57 (.mv (.t 59)),ot 60 (.ext (.t 57) 0),ot 61 (.ext (.t 57) 1),ow 9 60,ow 10 61]) (.seq (.reg [om 63 7,ot 64 (.call 73 [.t 63]),ot 62 (.mv (.t 64)),ot 65 (.ext (.t 62) 0),ot 66 (.ext (.t 62) 1),ow 11 65,ow 12 66]) (.seq (.seq (.reg [om 67 10,ot 68 (.un .not (.t 67)),ot 69 (.mv (.t 68)),og 70 (.mv (.x 12)) 69 false,og 71 (.un .not (.t 70)) 69 false,ot 72 (.pick (.t 69) (.c (.bool true)) (.t 71)),ot 73 (.mv (.t 72)),og 74 (.mv (.x 11)) 73 false,og 75 (.len 1 (.t 74)) 73 false,og 76 (.bin .eql (.t 75) (oi 0)) 73 false,ox 77 (.pick (.t 73) (.c (.bool true)) (.t 76))]) (.cond (.x 77) (.seq (.reg [ot 78 (.build [(.bool false),.nils,.nils] []),on (.stn 3 (.x 2) (.t 78)),ox 3 (.mv (.c (.bool false)))]) .ret) .skip)) (.seq (.reg [om 79 9,ot 80 (.build [(.bool false),.nils] [(1,1,.t 79)]),om 81 11,ot 82 (.build [(.bool false),.nils] [(1,1,.t 81)]),ot 83 (.call 58 [.t 80,.t 82]),on (.stn 3 (.x 2) (.t 83)),ox 3 (.mv (.c (.bool true)))]) .ret)))) .skip))) (.seq (.reg [om 85 0,ot 86 (.call 72 [.t 85,(.c (.str [101,69]))]),ot 84 (.mv (.t 86)),ot 87 (.ext (.t 84) 0),ot 88 (.ext (.t 84) 1),ot 89 (.ext (.t 84) 2),ow 13 87,ow 14 88,ow 15 89]) (.seq (.reg [om 91 13,ot 92 (.call 74 [.t 91]),ot 90 (.mv (.t 92)),ot 93 (.ext (.t 90) 0),ot 94 (.ext (.t 90) 1),ox 16 (.alloc [(.bool false),.nils,.nils]),on (.stn 3 (.x 16) (.t 93)),ow 17 94]) (.seq (.seq (.reg [om 95 15,ot 96 (.bin .lss (.t 95) (oi 0)),ot 97 (.mv (.t 96)),og 98 (.mv (.x 17)) 97 false,og 99 (.un .not (.t 98)) 97 false,ox 100 (.pick (.t 97) (.c (.bool true)) (.t 99))]) (.cond (.x 100) (.seq (.reg [ot 101 (.ldn 3 (.x 16)),om 102 17,on (.stn 3 (.x 2) (.t 101)),ow 3 102]) .ret) .skip)) (.seq (.reg [om 103 14,ot 104 (.lenS (.t 103)),ot 105 (.bin .gtr (.t 104) (oi 0)),ot 106 (.mv (.t 105)),og 107 (.mv (.x 14)) 106 true,og 108 (.idx (.t 107) (oi 0)) 106 true,og 109 (.bin .eql (.t 108) (.c (.int .u8 45))) 106 true,ot 110 (.pick (.t 106) (.t 109) (.c (.bool false))),ow 18 110]) (.seq (.seq (.reg [ox 111 (.mv (.x 18))]) (.cond (.x 111) (.reg [om 112 14,ot 113 (.slcS (.t 112) (some (oi 1)) none),ow 14 113]) .skip)) (.seq (.reg [om 115 14,ot 116 (.call 73 [.t 115]),ot 114 (.mv (.t 116)),ot 117 (.ext (.t 114) 0),ot 118 (.ext (.t 114) 1),ow 19 117,ow 20 118]) (.seq (.reg [om 120 19,ot 121 (.call 75 [.t 120]),ot 119 (.mv (.t 121)),ot 122 (.ext (.t 119) 0),ot 123 (.ext (.t 119) 1),ow 21 122,ow 22 123]) (.seq (.seq (.reg [om 124 20,ot 125 (.un .not (.t 124)),ot 126 (.mv (.t 125)),og 127 (.mv (.x 22)) 126 false,og 128 (.un .not (.t 127)) 126 false,ot 129 (.pick (.t 126) (.c (.bool true)) (.t 128)),ot 130 (.mv (.t 129)),og 131 (.mv (.x 21)) 130 false,og 132 (.bin .gtr (.t 131) (.c (.int .u64 40))) 130 false,ox 133 (.pick (.t 130) (.c (.bool true)) (.t 132))]) (.cond (.x 133) (.seq (.reg [ot 134 (.build [(.bool false),.nils,.nils] []),on (.stn 3 (.x 2) (.t 134)),ox 3 (.mv (.c (.bool false)))]) .ret) .skip)) (.seq (.reg [ot 135 (.ldn 3 (.x 16)),om 136 18,om 137 21,ot 138 (.conv .i64 (.t 137)),ot 139 (.call 76 [.t 135,.t 136,.t 138]),on (.stn 3 (.x 2) (.t 139)),ox 3 (.mv (.c (.bool true)))]) .ret))))))))))))
def respParse : List RV := [.cn 3 2, .t 3]
theorem nbpParse : fnpParse.nb = 0 := rfl
theorem ispParse : IsFn fnpParse 48 codepParse respParse := .k Tryz.func48 rfl (by kernel_rfl)
noncomputable def fnreColumns : FnD := ⟨Tryz.prog,[0,2,3,4,6,7,9,10,11,12,14,15,16,17,25,30,31,32,33,47,51,52,53,54,57,58,59,60,66,79,80,81,82,85,86,87,88,93,103],[],119,false⟩
def codereColumns : DC := (.seq (.reg [ox 2 (.mv (.c (.str []))),ox 3 (.mv (oi 0))]) (.seq (.seq (.reg [om 18 0,ot 19 (.len 1 (.t 18)),ot 20 (.bin .lss (.t 19) (oi 1)),ot 21 (.mv (.t 20)),og 22 (.mv (.x 0)) 21 false,og 23 (.len 1 (.t 22)) 21 false,og 24 (.bin .gtr (.t 23) (oi 1024)) 21 false,ox 25 (.pick (.t 21) (.c (.bool true)) (.t 24))]) (.cond (.x 25) (.seq (.reg [ox 2 (.mv (.c (.str []))),ox 3 (.mv (oi 6))]) .ret) .skip)) (.seq (.reg [om 26 0,ot 27 (.iad 1 (.t 26) (oi 0)),ot 28 (.ld (.t 27)),ot 29 (.len 1 (.t 28)),ow 4 29]) (.seq (.seq (.reg [ox 30 (.mv (.x 0)),ox 31 (.len 1 (.x 30)),ox 32 (.mv (oi 0))]) (.block 0 (.loop (.seq (.reg [ox 33 (.bin .lss (.x 32) (.x 31))]) (.seq (.cond (.x 33) .skip (.exit 0)) (.seq (.block 1 (.seq (.reg [ot 34 (.iad 1 (.x 30) (.x 32)),ot 35 (.ld (.t 34)),ow 6 35]) (.seq (.reg [om 36 6,ot 37 (.len 1 (.t 36)),om 38 4,ot 39 (.bin .neq (.t 37) (.t 38)),ot 40 (.mv (.t 39)),og 41 (.mv (.x 4)) 40 false,og 42 (.bin .lss (.t 41) (oi 1)) 40 false,ot 43 (.pick (.t 40) (.c (.bool true)) (.t 42)),ot 44 (.mv (.t 43)),og 45 (.mv (.x 4)) 44 false,og 46 (.bin .gtr (.t 45) (oi 32)) 44 false,ox 47 (.pick (.t 44) (.c (.bool true)) (.t 46))]) (.cond (.x 47) (.seq (.reg [ox 2 (.mv (.c (.str []))),ox 3 (.mv (oi 6))]) .ret) .skip)))) (.reg [ot 48 (.bin .add (.x 32) (oi 1)),ow 32 48]))))))) (.seq (.reg [om 49 4,ot 50 (.mks 1 8 [(.int .i64 0)] (.t 49) (.t 49)),ow 7 50]) (.seq (.seq (.reg [ox 51 (.mv (.x 0)),ox 52 (.len 1 (.x 51)),ox 53 (.mv (oi 0))]) (.block 2 (.loop (.seq (.reg [ox 54 (.bin .lss (.x 53) (.x 52))]) (.seq (.cond (.x 54) .skip (.exit 2)) (.seq (.block 3 (.seq (.reg [ot 55 (.iad 1 (.x 51) (.x 53)),ot 56 (.ld (.t 55)),ow 9 56]) (.seq (.reg [ox 57 (.mv (.x 9)),ox 58 (.len 1 (.x 57)),ox 59 (.mv (oi 0))]) (.block 4 (.loop (.seq (.reg [ox 60 (.bin .lss (.x 59) (.x 58))]) (.seq (.cond (.x 60) .skip (.exit 4)) (.seq (.block 5 (.seq (.reg [om 61 59,ot 62 (.iad 1 (.x 57) (.x 59)),ot 63 (.ld (.t 62)),ow 10 61,ow 11 63]) (.seq (.seq (.reg [om 64 11,ot 65 (.call 93 [.t 64]),ox 66 (.un .not (.t 65))]) (.cond (.x 66) (.seq (.reg [ox 2 (.mv (.c (.str []))),ox 3 (.mv (oi 4))]) .ret) .skip)) (.reg [om 67 7,om 68 10,om 69 7,om 70 10,ot 71 (.iad 1 (.t 69) (.t 70)),ot 72 (.ld (.t 71)),om 73 11,ot 74 (.lenS (.t 73)),ot 75 (.max2 (.t 72) (.t 74)),ot 76 (.iad 1 (.t 67) (.t 68)),on (.st (.t 76) (.t 75))])))) (.reg [ot 77 (.bin .add (.x 59) (oi 1)),ow 59 77]))))))))) (.reg [ot 78 (.bin .add (.x 53) (oi 1)),ow 53 78]))))))) (.seq (.reg [ox 12 (.mv (.c .nils))]) (.seq (.seq (.reg [ox 79 (.mv (.x 0)),ox 80 (.len 1 (.x 79)),ox 81 (.mv (oi 0))]) (.block 6 (.loop (.seq (.reg [ox 82 (.bin .lss (.x 81) (.x 80))]) (.seq (.cond (.x 82) .skip (.exit 6)) (.seq (.block 7 (.seq (.reg [ot 83 (.iad 1 (.x 79) (.x 81)),ot 84 (.ld (.t 83)),ow 14 84]) (.seq (.seq (.reg [ox 85 (.mv (.x 14)),ox 86 (.len 1 (.x 85)),ox 87 (.mv (oi 0))]) (.block 8 (.loop (.seq (.reg [ox 88 (.bin .lss (.x 87) (.x 86))]) (.seq (.cond (.x 88) .skip (.exit 8)) (.seq (.block 9 (.seq (.reg [om 89 87,ot 90 (.iad 1 (.x 85) (.x 87)),ot 91 (.ld (.t 90)),ow 15 89,ow 16 91]) (.seq (.seq (.reg [om 92 15,ox 93 (.bin .gtr (.t 92) (oi 0))]) (.cond (.x 93) (.reg [om 94 12,ot 95 (.apps 5 (.t 94) (.c (.str [32,32]))),ow 12 95]) .skip)) (.seq (.seq (.reg [om 96 16,ot 97 (.lenS (.t 96)),ow 17 97]) (.block 10 (.loop (.seq (.seq (.reg [om 98 17,om 99 7,om 100 15,ot 101 (.iad 1 (.t 99) (.t 100)),ot 102 (.ld (.t 101)),ox 103 (.bin .lss (.t 98) (.t 102))]) (.cond (.x 103) .skip (.exit 10))) (.seq (.block 11 (.reg [om 106 12,ot 107 (.bsl 1 [(.int .u8 0)] [(0,1,(.c (.int .u8 32)))]),ot 108 (.app 5 1 1 (.t 106) (.t 107)),ow 12 108])) (.reg [om 104 17,ot 105 (.bin .add (.t 104) (oi 1)),ow 17 105])))))) (.reg [om 109 12,om 110 16,ot 111 (.apps 5 (.t 109) (.t 110)),ow 12 111]))))) (.reg [ot 112 (.bin .add (.x 87) (oi 1)),ow 87 112]))))))) (.reg [om 113 12,ot 114 (.bsl 1 [(.int .u8 0)] [(0,1,(.c (.int .u8 10)))]),ot 115 (.app 5 1 1 (.t 113) (.t 114)),ow 12 115])))) (.reg [ot 116 (.bin .add (.x 81) (oi 1)),ow 81 116]))))))) (.seq (.reg [om 117 12,ot 118 (.b2s (.t 117)),ow 2 118,ox 3 (.mv (oi 0))]) .ret)))))))))
def resreColumns : List RV := [.t 2, .t 3]
theorem nbreColumns : fnreColumns.nb = 0 := rfl
theorem isreColumns : IsFn fnreColumns 52 codereColumns resreColumns := .k Tryz.func52 rfl (by kernel_rfl)
noncomputable def fnp_over : FnD := ⟨Tryz.prog,[0,1,2,3,4,5,6,9,14,39],[],45,false⟩
def codep_over : DC := (.seq (.reg [ox 2 (.box (.x 0)),ox 3 (.box (.x 1)),ox 4 (.alloc [(.bool false),.nils,.nils])]) (.seq (.seq (.reg [ot 12 (.ldn 2 (.x 3)),ot 13 (.call 92 [.t 12]),ox 14 (.bin .lss (.t 13) (oi 0))]) (.cond (.x 14) (.regd [ot 15 (.ldn 2 (.x 2)),ot 16 (.call 101 [.t 15]),ot 17 (.ldn 2 (.x 3)),ot 18 (.call 101 [.t 17]),on (.stn 2 (.x 2) (.t 16)),on (.stn 2 (.x 3) (.t 18))]) .skip)) (.seq (.reg [ot 19 (.ldn 2 (.x 2)),ot 20 (.ldn 2 (.x 3)),ot 21 (.call 102 [.t 19,.t 20]),ot 22 (.build [(.bool false),.nils] [(1,1,.t 21)]),ox 5 (.alloc [(.bool false),.nils]),on (.stn 2 (.x 5) (.t 22))]) (.seq (.reg [ot 24 (.ldn 2 (.x 2)),ot 25 (.ldn 2 (.x 5)),ot 26 (.call 103 [.t 24,.t 25]),ot 23 (.mv (.t 26)),ot 27 (.ext (.t 23) 0),ot 28 (.ext (.t 23) 1),ot 29 (.ext (.t 23) 2),ox 6 (.alloc [(.bool false),.nils]),ot 7 (.alloc [(.bool false),.nils]),on (.stn 2 (.x 6) (.t 27)),on (.stn 2 (.t 7) (.t 28)),ot 8 (.mv (.t 29))]) (.seq (.reg [ot 31 (.ldn 2 (.x 3)),ot 32 (.ldn 2 (.x 5)),ot 33 (.call 103 [.t 31,.t 32]),ot 30 (.mv (.t 33)),ot 34 (.ext (.t 30) 0),ot 35 (.ext (.t 30) 1),ot 36 (.ext (.t 30) 2),ox 9 (.alloc [(.bool false),.nils]),ot 10 (.alloc [(.bool false),.nils]),on (.stn 2 (.x 9) (.t 34)),on (.stn 2 (.t 10) (.t 35)),ot 11 (.mv (.t 36))]) (.seq (.seq (.reg [ot 37 (.fad 1 (.x 9)),ot 38 (.ld (.t 37)),ox 39 (.call 104 [.t 38])]) (.cond (.x 39) (.reg [ot 40 (.fad 1 (.x 9)),on (.st (.t 40) (.c .nils))]) .skip)) (.seq (.reg [ot 41 (.ldn 2 (.x 6)),ot 42 (.fad 1 (.x 9)),ot 43 (.ld (.t 42)),ot 44 (.build [(.bool false),.nils,.nils] [(0,2,.t 41),(2,1,.t 43)]),on (.stn 3 (.x 4) (.t 44))]) .ret)))))))
def resp_over : List RV := [.cn 3 4]
theorem nbp_over : fnp_over.nb = 0 := rfl
theorem isp_over : IsFn fnp_over 58 codep_over resp_over := .k Tryz.func58 rfl (by kernel_rfl)
noncomputable def fnnFormat : FnD := ⟨Tryz.prog,[0,2,3,4,5,6,11,14,25],[],41,false⟩
def codenFormat : DC := (.seq (.reg [ox 2 (.mv (.c (.str [])))]) (.seq (.reg [om 7 0,ot 8 (.call 112 [.t 7]),ow 0 8]) (.seq (.seq (.reg [om 9 0,ot 10 (.len 1 (.t 9)),ox 11 (.bin .eql (.t 10) (oi 0))]) (.cond (.x 11) (.seq (.reg [ox 2 (.mv (.c (.str [48])))]) .ret) .skip)) (.seq (.reg [ox 3 (.mv (.c .nils))]) (.seq (.block 0 (.loop (.seq (.seq (.reg [om 12 0,ot 13 (.len 1 (.t 12)),ox 14 (.bin .gtr (.t 13) (oi 0))]) (.cond (.x 14) .skip (.exit 0))) (.block 1 (.seq (.reg [om 16 0,ot 17 (.call 113 [.t 16,(.c (.int .u32 1000000000))]),ot 15 (.mv (.t 17)),ot 18 (.ext (.t 15) 0),ot 19 (.ext (.t 15) 1),ow 4 18,ow 5 19]) (.seq (.reg [om 20 5,ot 21 (.conv .i64 (.t 20)),ot 22 (.call 114 [.t 21]),ow 6 22]) (.seq (.seq (.reg [om 23 4,ot 24 (.len 1 (.t 23)),ox 25 (.bin .gtr (.t 24) (oi 0))]) (.cond (.x 25) (.reg [om 26 6,ot 27 (.lenS (.t 26)),ot 28 (.bin .sub (oi 9) (.t 27)),ot 29 (.call 55 [(.c (.str [48])),.t 28]),om 30 6,ot 31 (.bin .add (.t 29) (.t 30)),ow 6 31]) .skip)) (.seq (.reg [om 32 3,om 33 6,ot 34 (.bsl 1 [(.str [])] [(0,1,.t 33)]),ot 35 (.app 9 1 16 (.t 32) (.t 34)),ow 3 35]) (.reg [om 36 4,ow 0 36]))))))))) (.seq (.reg [om 37 3,ot 38 (.call 115 [.t 37])]) (.seq (.reg [om 39 3,ot 40 (.call 116 [.t 39,(.c (.str []))]),ow 2 40]) .ret)))))))
def resnFormat : List RV := [.t 2]
theorem nbnFormat : fnnFormat.nb = 0 := rfl
theorem isnFormat : IsFn fnnFormat 63 codenFormat resnFormat := .k Tryz.func63 rfl (by kernel_rfl)
noncomputable def fnq_unsigned : FnD := ⟨Tryz.prog,[0,2,3,4,5,6,7,8,9,10,11,12,14,21,46,56,88,101],[],115,false⟩
def codeq_unsigned : DC := (.seq (.reg [ox 2 (.mv (.c .nils)),ox 3 (.mv (.c .nils)),ox 4 (.mv (.c (.bool false)))]) (.seq (.seq (.reg [om 16 0,ot 17 (.call 124 [.t 16,(.c (.str [47]))]),ot 15 (.mv (.t 17)),ot 18 (.ext (.t 15) 0),ot 19 (.ext (.t 15) 1),ot 20 (.ext (.t 15) 2),ow 5 18,ow 6 19,ow 7 20]) (.seq (.reg [ox 21 (.mv (.x 7))]) (.cond (.x 21) (.seq (.reg [om 23 5,ot 24 (.call 125 [.t 23]),ot 22 (.mv (.t 24)),ot 25 (.ext (.t 22) 0),ot 26 (.ext (.t 22) 1),ow 2 25,ow 4 26]) (.seq (.reg [om 28 6,ot 29 (.call 125 [.t 28]),ot 27 (.mv (.t 29)),ot 30 (.ext (.t 27) 0),ot 31 (.ext (.t 27) 1),ow 3 30,ow 7 31]) (.seq (.reg [om 32 2,om 33 3,om 34 4,ot 35 (.mv (.t 34)),og 36 (.mv (.x 7)) 35 true,ot 37 (.pick (.t 35) (.t 36) (.c (.bool false))),ot 38 (.mv (.t 37)),og 39 (.mv (.x 3)) 38 true,og 40 (.len 1 (.t 39)) 38 true,og 41 (.bin .gtr (.t 40) (oi 0)) 38 true,ot 42 (.pick (.t 38) (.t 41) (.c (.bool false))),ow 2 32,ow 3 33,ow 4 42]) .ret))) .skip))) (.seq (.reg [ox 8 (.mv (oi 0))]) (.seq (.seq (.reg [om 43 0,ot 44 (.call 126 [.t 43,(.c (.str [101,69]))]),ow 9 44]) (.seq (.reg [om 45 9,ox 46 (.bin .geq (.t 45) (oi 0))]) (.cond (.x 46) (.seq (.seq (.reg [om 48 0,om 49 9,ot 50 (.bin .add (.t 49) (oi 1)),ot 51 (.slcS (.t 48) (some (.t 50)) none),ot 52 (.call 127 [.t 51]),ot 47 (.mv (.t 52)),ot 53 (.ext (.t 47) 0),ot 54 (.ext (.t 47) 1),ow 8 53,ow 4 54]) (.seq (.reg [om 55 4,ox 56 (.un .not (.t 55))]) (.cond (.x 56) (.seq (.reg [ox 2 (.mv (.c .nils)),ox 3 (.mv (.c .nils)),ox 4 (.mv (.c (.bool false)))]) .ret) .skip))) (.reg [om 57 0,om 58 9,ot 59 (.slcS (.t 57) none (some (.t 58))),ow 0 59])) .skip))) (.seq (.reg [om 61 0,ot 62 (.call 124 [.t 61,(.c (.str [46]))]),ot 60 (.mv (.t 62)),ot 63 (.ext (.t 60) 0),ot 64 (.ext (.t 60) 1),ot 65 (.ext (.t 60) 2),ow 10 63,ow 11 64,ow 12 65]) (.seq (.seq (.reg [om 67 10,ot 68 (.call 125 [.t 67]),ot 66 (.mv (.t 68)),ot 69 (.ext (.t 66) 0),ot 70 (.ext (.t 66) 1),ot 13 (.mv (.t 69)),ow 14 70]) (.seq (.reg [om 71 14,ot 72 (.un .not (.t 71)),ot 73 (.mv (.t 72)),og 74 (.mv (.x 12)) 73 false,og 75 (.mv (.t 74)) 73 false,og 76 (.mv (.x 11)) 75 true,og 77 (.call 128 [.t 76]) 75 true,og 78 (.un .not (.t 77)) 75 true,og 79 (.pick (.t 75) (.t 78) (.c (.bool false))) 73 false,ot 80 (.pick (.t 73) (.c (.bool true)) (.t 79)),ot 81 (.mv (.t 80)),og 82 (.mv (.x 10)) 81 false,og 83 (.lenS (.t 82)) 81 false,og 84 (.mv (.x 11)) 81 false,og 85 (.lenS (.t 84)) 81 false,og 86 (.bin .add (.t 83) (.t 85)) 81 false,og 87 (.bin .gtr (.t 86) (oi 4000)) 81 false,ox 88 (.pick (.t 81) (.c (.bool true)) (.t 87))]) (.cond (.x 88) (.seq (.reg [ox 2 (.mv (.c .nils)),ox 3 (.mv (.c .nils)),ox 4 (.mv (.c (.bool false)))]) .ret) .skip))) (.seq (.reg [om 90 10,om 91 11,ot 92 (.bin .add (.t 90) (.t 91)),ot 93 (.call 129 [.t 92]),ot 94 (.call 125 [.t 93]),ot 89 (.mv (.t 94)),ot 95 (.ext (.t 89) 0),ot 96 (.ext (.t 89) 1),ow 2 95,ow 4 96]) (.seq (.reg [om 97 11,ot 98 (.lenS (.t 97)),ot 99 (.call 79 [.t 98]),ow 3 99]) (.seq (.seq (.reg [om 100 8,ox 101 (.bin .lss (.t 100) (oi 0))]) (.cond (.x 101) (.seq (.reg [om 102 2,om 103 3,om 104 8,ot 105 (.un .neg (.t 104)),ot 106 (.call 79 [.t 105]),ot 107 (.call 78 [.t 103,.t 106]),om 108 4,ow 2 102,ow 3 107,ow 4 108]) .ret) .skip)) (.seq (.reg [om 109 2,om 110 8,ot 111 (.call 79 [.t 110]),ot 112 (.call 78 [.t 109,.t 111]),om 113 3,om 114 4,ow 2 112,ow 3 113,ow 4 114]) .ret))))))))))
def resq_unsigned : List RV := [.t 2, .t 3, .t 4]
theorem isq_unsigned : IsFn fnq_unsigned 69 codeq_unsigned resq_unsigned := .k Tryz.func69 rfl (by kernel_rfl)
noncomputable def fnrParse : FnD := ⟨Tryz.prog,[0,2,3,4,5,22,26,38],[],49,false⟩
def coderParse : DC := (.seq (.reg [ox 2 (.mv (.c .nils)),ox 3 (.mv (.c (.bool false)))]) (.seq (.seq (.reg [om 6 0,ot 7 (.bin .eql (.t 6) (.c (.str []))),ot 8 (.mv (.t 7)),og 9 (.mv (.x 0)) 8 false,og 10 (.lenS (.t 9)) 8 false,og 11 (.bin .gtr (.t 10) (oi 4000)) 8 false,ot 12 (.pick (.t 8) (.c (.bool true)) (.t 11)),ot 13 (.mv (.t 12)),og 14 (.mv (.x 0)) 13 false,og 15 (.lenS (.t 14)) 13 false,og 16 (.bin .gtr (.t 15) (oi 1)) 13 false,og 17 (.mv (.t 16)) 13 false,og 18 (.mv (.x 0)) 17 true,og 19 (.idx (.t 18) (oi 0)) 17 true,og 20 (.bin .eql (.t 19) (.c (.int .u8 48))) 17 true,og 21 (.pick (.t 17) (.t 20) (.c (.bool false))) 13 false,ox 22 (.pick (.t 13) (.c (.bool true)) (.t 21))]) (.cond (.x 22) (.seq (.reg [ox 2 (.mv (.c .nils)),ox 3 (.mv (.c (.bool false)))]) .ret) .skip)) (.seq (.reg [ox 4 (.mv (.c .nils))]) (.seq (.seq (.reg [ox 5 (.mv (oi 0))]) (.block 0 (.loop (.seq (.seq (.reg [om 23 5,om 24 0,ot 25 (.lenS (.t 24)),ox 26 (.bin .lss (.t 23) (.t 25))]) (.cond (.x 26) .skip (.exit 0))) (.seq (.block 1 (.seq (.seq (.reg [om 29 0,om 30 5,ot 31 (.idx (.t 29) (.t 30)),ot 32 (.bin .lss (.t 31) (.c (.int .u8 48))),ot 33 (.mv (.t 32)),og 34 (.mv (.x 0)) 33 false,og 35 (.mv (.x 5)) 33 false,og 36 (.idx (.t 34) (.t 35)) 33 false,og 37 (.bin .gtr (.t 36) (.c (.int .u8 57))) 33 false,ox 38 (.pick (.t 33) (.c (.bool true)) (.t 37))]) (.cond (.x 38) (.seq (.reg [ox 2 (.mv (.c .nils)),ox 3 (.mv (.c (.bool false)))]) .ret) .skip)) (.regd [om 39 4,ot 40 (.call 131 [.t 39,(.c (.int .u32 10)),(oi 0)]),om 41 0,om 42 5,ot 43 (.idx (.t 41) (.t 42)),ot 44 (.bin .sub (.t 43) (.c (.int .u8 48))),ot 45 (.conv .u64 (.t 44)),ot 46 (.call 107 [.t 45]),ot 47 (.call 106 [.t 40,.t 46]),ow 4 47]))) (.reg [om 27 5,ot 28 (.bin .add (.t 27) (oi 1)),ow 5 28])))))) (.seq (.reg [om 48 4,ow 2 48,ox 3 (.mv (.c (.bool true)))]) .ret)))))
def resrParse : List RV := [.t 2, .t 3]
theorem isrParse : IsFn fnrParse 73 coderParse resrParse := .k Tryz.func73 rfl (by kernel_rfl)
noncomputable def fnnDiv : FnD := ⟨Tryz.prog,[0,1,4,5,6,7,8,13,17,24],[],48,false⟩
def codenDiv : DC := (.seq (.reg [ox 4 (.mv (.c .nils)),ox 5 (.mv (.c .nils)),ox 6 (.mv (.c (.bool false)))]) (.seq (.reg [om 9 0,ot 10 (.call 112 [.t 9]),om 11 1,ot 12 (.call 112 [.t 11]),ow 0 10,ow 1 12]) (.seq (.block 0 (.seq (.reg [om 14 1,ot 15 (.len 1 (.t 14)),ot 16 (.bin .eql (.t 15) (oi 0)),ow 13 16]) (.cond (.x 13) (.seq (.reg [ox 4 (.mv (.c .nils)),ox 5 (.mv (.c .nils)),ox 6 (.mv (.c (.bool false)))]) .ret) (.seq (.reg [om 18 0,om 19 1,ot 20 (.call 81 [.t 18,.t 19]),ot 21 (.bin .lss (.t 20) (oi 0)),ow 17 21]) (.cond (.x 17) (.seq (.reg [om 22 0,ot 23 (.call 136 [.t 22]),ox 4 (.mv (.c .nils)),ow 5 23,ox 6 (.mv (.c (.bool true)))]) .ret) (.seq (.reg [om 25 1,ot 26 (.len 1 (.t 25)),ot 27 (.bin .eql (.t 26) (oi 1)),ow 24 27]) (.cond (.x 24) (.seq (.reg [om 29 0,om 30 1,ot 31 (.iad 1 (.t 30) (oi 0)),ot 32 (.ld (.t 31)),ot 33 (.call 113 [.t 29,.t 32]),ot 28 (.mv (.t 33)),ot 34 (.ext (.t 28) 0),ot 35 (.ext (.t 28) 1),ow 7 34,ow 8 35]) (.seq (.reg [om 36 7,om 37 8,ot 38 (.conv .u64 (.t 37)),ot 39 (.call 137 [.t 38]),ow 4 36,ow 5 39,ox 6 (.mv (.c (.bool true)))]) .ret)) .skip))))))) (.seq (.reg [om 41 0,om 42 1,ot 43 (.call 138 [.t 41,.t 42]),ot 40 (.mv (.t 43)),ot 44 (.ext (.t 40) 0),ot 45 (.ext (.t 40) 1),ow 4 44,ow 5 45]) (.seq (.reg [om 46 4,om 47 5,ow 4 46,ow 5 47,ox 6 (.mv (.c (.bool true)))]) .ret)))))
def resnDiv : List RV := [.t 4, .t 5, .t 6]
theorem isnDiv : IsFn fnnDiv 77 codenDiv resnDiv := .k Tryz.func77 rfl (by kernel_rfl)
noncomputable def fnnCmp : FnD := ⟨Tryz.prog,[0,1,4,5,14,19,24,27,37],[],47,false⟩
def codenCmp : DC := (.seq (.reg [ox 4 (.mv (oi 0))]) (.seq (.reg [om 6 0,ot 7 (.call 112 [.t 6]),om 8 1,ot 9 (.call 112 [.t 8]),ow 0 7,ow 1 9]) (.seq (.seq (.reg [om 10 0,ot 11 (.len 1 (.t 10)),om 12 1,ot 13 (.len 1 (.t 12)),ox 14 (.bin .neq (.t 11) (.t 13))]) (.cond (.x 14) (.seq (.seq (.reg [om 15 0,ot 16 (.len 1 (.t 15)),om 17 1,ot 18 (.len 1 (.t 17)),ox 19 (.bin .lss (.t 16) (.t 18))]) (.cond (.x 19) (.seq (.reg [ox 4 (.mv (oi (-1)))]) .ret) .skip)) (.seq (.reg [ox 4 (.mv (oi 1))]) .ret)) .skip)) (.seq (.seq (.reg [om 20 0,ot 21 (.len 1 (.t 20)),ot 22 (.bin .sub (.t 21) (oi 1)),ow 5 22]) (.block 0 (.loop (.seq (.seq (.reg [om 23 5,ox 24 (.bin .geq (.t 23) (oi 0))]) (.cond (.x 24) .skip (.exit 0))) (.seq (.block 1 (.block 2 (.seq (.regd [om 28 0,om 29 5,ot 30 (.iad 1 (.t 28) (.t 29)),ot 31 (.ld (.t 30)),om 32 1,om 33 5,ot 34 (.iad 1 (.t 32) (.t 33)),ot 35 (.ld (.t 34)),ot 36 (.bin .lss (.t 31) (.t 35)),ow 27 36]) (.cond (.x 27) (.seq (.reg [ox 4 (.mv (oi (-1)))]) .ret) (.seq (.regd [om 38 0,om 39 5,ot 40 (.iad 1 (.t 38) (.t 39)),ot 41 (.ld (.t 40)),om 42 1,om 43 5,ot 44 (.iad 1 (.t 42) (.t 43)),ot 45 (.ld (.t 44)),ot 46 (.bin .gtr (.t 41) (.t 45)),ow 37 46]) (.cond (.x 37) (.seq (.reg [ox 4 (.mv (oi 1))]) .ret) .skip)))))) (.reg [om 25 5,ot 26 (.bin .sub (.t 25) (oi 1)),ow 5 26])))))) (.seq (.reg [ox 4 (.mv (oi 0))]) .ret)))))
def resnCmp : List RV := [.t 4]
theorem isnCmp : IsFn fnnCmp 81 codenCmp resnCmp := .k Tryz.func81 rfl (by kernel_rfl)
noncomputable def fnpMul : FnD := ⟨Tryz.prog,[0,1,2,3,4],[],20,false⟩
def codepMul : DC := (.seq (.reg [ox 2 (.box (.x 0)),ox 3 (.box (.x 1)),ox 4 (.alloc [(.bool false),.nils,.nils])]) (.seq (.regd [ot 5 (.ldn 3 (.x 2)),ot 6 (.call 64 [.t 5]),ot 7 (.ldn 3 (.x 3)),ot 8 (.call 64 [.t 7]),on (.stn 3 (.x 2) (.t 6)),on (.stn 3 (.x 3) (.t 8))]) (.seq (.regd [ot 9 (.fad 0 (.x 2)),ot 10 (.ldn 2 (.t 9)),ot 11 (.fad 0 (.x 3)),ot 12 (.ldn 2 (.t 11)),ot 13 (.call 142 [.t 10,.t 12]),ot 14 (.ldn 3 (.x 2)),ot 15 (.call 143 [.t 14]),ot 16 (.ldn 3 (.x 3)),ot 17 (.call 143 [.t 16]),ot 18 (.call 142 [.t 15,.t 17]),ot 19 (.call 58 [.t 13,.t 18]),on (.stn 3 (.x 4) (.t 19))]) .ret)))
def respMul : List RV := [.cn 3 4]
theorem nbpMul : fnpMul.nb = 0 := rfl
theorem ispMul : IsFn fnpMul 85 codepMul respMul := .k Tryz.func85 rfl (by kernel_rfl)
noncomputable def fnpSub : FnD := ⟨Tryz.prog,[0,1,2,3,4],[],9,false⟩
def codepSub : DC := (.seq (.reg [ox 2 (.box (.x 0)),ox 3 (.box (.x 1)),ox 4 (.alloc [(.bool false),.nils,.nils])]) (.seq (.regd [ot 5 (.ldn 3 (.x 2)),ot 6 (.ldn 3 (.x 3)),ot 7 (.call 71 [.t 6]),ot 8 (.call 144 [.t 5,.t 7]),on (.stn 3 (.x 4) (.t 8))]) .ret))
def respSub : List RV := [.cn 3 4]
theorem nbpSub : fnpSub.nb = 0 := rfl
theorem ispSub : IsFn fnpSub 89 codepSub respSub := .k Tryz.func89 rfl (by kernel_rfl)
noncomputable def fnreCell : FnD := ⟨Tryz.prog,[0,2,3,7,19],[],28,false⟩
def codereCell : DC := (.seq (.reg [ox 2 (.mv (.c (.bool false)))]) (.seq (.seq (.reg [ox 3 (.mv (oi 0))]) (.block 0 (.loop (.seq (.seq (.reg [om 4 3,om 5 0,ot 6 (.lenS (.t 5)),ox 7 (.bin .lss (.t 4) (.t 6))]) (.cond (.x 7) .skip (.exit 0))) (.seq (.block 1 (.seq (.reg [om 10 0,om 11 3,ot 12 (.idx (.t 10) (.t 11)),ot 13 (.bin .lss (.t 12) (.c (.int .u8 33))),ot 14 (.mv (.t 13)),og 15 (.mv (.x 0)) 14 false,og 16 (.mv (.x 3)) 14 false,og 17 (.idx (.t 15) (.t 16)) 14 false,og 18 (.bin .gtr (.t 17) (.c (.int .u8 126))) 14 false,ox 19 (.pick (.t 14) (.c (.bool true)) (.t 18))]) (.cond (.x 19) (.seq (.reg [ox 2 (.mv (.c (.bool false)))]) .ret) .skip))) (.reg [om 8 3,ot 9 (.bin .add (.t 8) (oi 1)),ow 3 9])))))) (.seq (.reg [om 20 0,ot 21 (.lenS (.t 20)),ot 22 (.bin .geq (.t 21) (oi 1)),ot 23 (.mv (.t 22)),og 24 (.mv (.x 0)) 23 true,og 25 (.lenS (.t 24)) 23 true,og 26 (.bin .leq (.t 25) (oi 32)) 23 true,ot 27 (.pick (.t 23) (.t 26) (.c (.bool false))),ow 2 27]) .ret)))
def resreCell : List RV := [.t 2]
theorem isreCell : IsFn fnreCell 93 codereCell resreCell := .k Tryz.func93 rfl (by kernel_rfl)
noncomputable def fnp_one : FnD := ⟨Tryz.prog,[0,2],[],12,false⟩
def codep_one : DC := (.seq (.reg [ox 2 (.mv (.c (.bool false)))]) (.seq (.reg [om 3 0,ot 4 (.len 1 (.t 3)),ot 5 (.bin .eql (.t 4) (oi 1)),ot 6 (.mv (.t 5)),og 7 (.mv (.x 0)) 6 true,og 8 (.iad 1 (.t 7) (oi 0)) 6 true,og 9 (.ld (.t 8)) 6 true,og 10 (.bin .eql (.t 9) (.c (.int .u32 1))) 6 true,ot 11 (.pick (.t 6) (.t 10) (.c (.bool false))),ow 2 11]) .ret))
def resp_one : List RV := [.t 2]
theorem isp_one : IsFn fnp_one 104 codep_one resp_one := .k Tryz.func104 rfl (by kernel_rfl)
noncomputable def fnqValid : FnD := ⟨Tryz.prog,[0,1,2,3,14,19],[],41,false⟩
def codeqValid : DC := (.seq (.reg [ox 1 (.box (.x 0)),ox 2 (.mv (.c (.bool false)))]) (.seq (.block 0 (.seq (.reg [ot 4 (.fad 0 (.x 1)),ot 5 (.ldn 2 (.t 4)),ot 6 (.call 154 [.t 5]),ot 7 (.un .not (.t 6)),ot 8 (.mv (.t 7)),og 9 (.fad 2 (.x 1)) 8 false,og 10 (.ld (.t 9)) 8 false,og 11 (.call 155 [.t 10]) 8 false,og 12 (.un .not (.t 11)) 8 false,ot 13 (.pick (.t 8) (.c (.bool true)) (.t 12)),ow 3 13]) (.cond (.x 3) (.seq (.reg [ox 2 (.mv (.c (.bool false)))]) .ret) (.seq (.reg [ot 15 (.fad 2 (.x 1)),ot 16 (.ld (.t 15)),ot 17 (.len 1 (.t 16)),ot 18 (.bin .eql (.t 17) (oi 0)),ow 14 18]) (.cond (.x 14) (.seq (.reg [ox 2 (.mv (.c (.bool true)))]) .ret) (.seq (.regd [ot 20 (.fad 0 (.x 1)),ot 21 (.fad 1 (.t 20)),ot 22 (.ld (.t 21)),ot 23 (.len 1 (.t 22)),ot 24 (.bin .eql (.t 23) (oi 0)),ot 25 (.mv (.t 24)),og 26 (.fad 2 (.x 1)) 25 false,og 27 (.ld (.t 26)) 25 false,og 28 (.call 83 []) 25 false,og 29 (.call 81 [.t 27,.t 28]) 25 false,og 30 (.bin .eql (.t 29) (oi 0)) 25 false,ot 31 (.pick (.t 25) (.c (.bool true)) (.t 30)),ow 19 31]) (.cond (.x 19) (.seq (.reg [ox 2 (.mv (.c (.bool false)))]) .ret) .skip))))))) (.seq (.reg [ot 32 (.fad 0 (.x 1)),ot 33 (.fad 1 (.t 32)),ot 34 (.ld (.t 33)),ot 35 (.fad 2 (.x 1)),ot 36 (.ld (.t 35)),ot 37 (.call 130 [.t 34,.t 36]),ot 38 (.call 83 []),ot 39 (.call 81 [.t 37,.t 38]),ot 40 (.bin .eql (.t 39) (oi 0)),ow 2 40]) .ret)))
def resqValid : List RV := [.t 2]
theorem nbqValid : fnqValid.nb = 0 := rfl
theorem isqValid : IsFn fnqValid 109 codeqValid resqValid := .k Tryz.func109 rfl (by kernel_rfl)
noncomputable def fnnShort : FnD := ⟨Tryz.prog,[0,1,4,5,6,14],[],33,false⟩
def codenShort : DC := (.seq (.reg [ox 4 (.mv (.c .nils)),ox 5 (.mv (.c (.int .u32 0)))]) (.seq (.reg [om 7 0,ot 8 (.len 1 (.t 7)),ot 9 (.mks 1 4 [(.int .u32 0)] (.t 8) (.t 8)),ow 4 9]) (.seq (.seq (.reg [om 10 0,ot 11 (.len 1 (.t 10)),ot 12 (.bin .sub (.t 11) (oi 1)),ow 6 12]) (.block 0 (.loop (.seq (.seq (.reg [om 13 6,ox 14 (.bin .geq (.t 13) (oi 0))]) (.cond (.x 14) .skip (.exit 0))) (.seq (.block 1 (.reg [om 18 4,om 19 6,om 20 5,om 21 0,om 22 6,ot 23 (.iad 1 (.t 21) (.t 22)),ot 24 (.ld (.t 23)),om 25 1,ot 26 (.call 156 [.t 20,.t 24,.t 25]),ot 17 (.mv (.t 26)),ot 27 (.ext (.t 17) 0),ot 28 (.ext (.t 17) 1),ot 29 (.iad 1 (.t 18) (.t 19)),on (.st (.t 29) (.t 27)),ow 5 28])) (.reg [om 15 6,ot 16 (.bin .sub (.t 15) (oi 1)),ow 6 16])))))) (.seq (.reg [om 30 4,ot 31 (.call 139 [.t 30]),om 32 5,ow 4 31,ow 5 32]) .ret))))
def resnShort : List RV := [.t 4, .t 5]
theorem nbnShort : fnnShort.nb = 0 := rfl
theorem isnShort : IsFn fnnShort 113 codenShort resnShort := .k Tryz.func113 rfl (by kernel_rfl)
noncomputable def fnpValid : FnD := ⟨Tryz.prog,[0,1,2,17],[],38,false⟩
def codepValid : DC := (.seq (.reg [ox 1 (.box (.x 0)),ox 2 (.mv (.c (.bool false)))]) (.seq (.seq (.reg [ot 3 (.fad 0 (.x 1)),ot 4 (.ldn 2 (.t 3)),ot 5 (.call 158 [.t 4]),ot 6 (.un .not (.t 5)),ot 7 (.mv (.t 6)),og 8 (.fad 2 (.x 1)) 7 false,og 9 (.ld (.t 8)) 7 false,og 10 (.call 159 [.t 9]) 7 false,og 11 (.un .not (.t 10)) 7 false,ot 12 (.pick (.t 7) (.c (.bool true)) (.t 11)),ot 13 (.mv (.t 12)),og 14 (.fad 2 (.x 1)) 13 false,og 15 (.ld (.t 14)) 13 false,og 16 (.call 104 [.t 15]) 13 false,ox 17 (.pick (.t 13) (.c (.bool true)) (.t 16))]) (.cond (.x 17) (.seq (.reg [ox 2 (.mv (.c (.bool false)))]) .ret) .skip)) (.seq (.reg [ot 18 (.fad 2 (.x 1)),ot 19 (.ld (.t 18)),ot 20 (.len 1 (.t 19)),ot 21 (.bin .eql (.t 20) (oi 0)),ot 22 (.mv (.t 21)),og 23 (.fad 0 (.x 1)) 22 false,og 24 (.fad 1 (.t 23)) 22 false,og 25 (.ld (.t 24)) 22 false,og 26 (.len 1 (.t 25)) 22 false,og 27 (.bin .gtr (.t 26) (oi 0)) 22 false,og 28 (.mv (.t 27)) 22 false,og 29 (.fad 0 (.x 1)) 28 true,og 30 (.fad 1 (.t 29)) 28 true,og 31 (.ld (.t 30)) 28 true,og 32 (.fad 2 (.x 1)) 28 true,og 33 (.ld (.t 32)) 28 true,og 34 (.call 152 [.t 31,.t 33]) 28 true,og 35 (.call 104 [.t 34]) 28 true,og 36 (.pick (.t 28) (.t 35) (.c (.bool false))) 22 false,ot 37 (.pick (.t 22) (.c (.bool true)) (.t 36)),ow 2 37]) .ret)))
def respValid : List RV := [.t 2]
theorem nbpValid : fnpValid.nb = 0 := rfl
theorem ispValid : IsFn fnpValid 117 codepValid respValid := .k Tryz.func117 rfl (by kernel_rfl)
noncomputable def fnrLimb : FnD := ⟨Tryz.prog,[0,1,4,8],[],14,false⟩
def coderLimb : DC := (.seq (.reg [ox 4 (.mv (.c (.int .u64 0)))]) (.seq (.seq (.reg [om 5 1,om 6 0,ot 7 (.len 1 (.t 6)),ox 8 (.bin .geq (.t 5) (.t 7))]) (.cond (.x 8) (.seq (.reg [ox 4 (.mv (.c (.int .u64 0)))]) .ret) .skip)) (.seq (.reg [om 9 0,om 10 1,ot 11 (.iad 1 (.t 9) (.t 10)),ot 12 (.ld (.t 11)),ot 13 (.conv .u64 (.t 12)),ow 4 13]) .ret)))
def resrLimb : List RV := [.t 4]
theorem isrLimb : IsFn fnrLimb 121 coderLimb resrLimb := .k Tryz.func121 rfl (by kernel_rfl)
noncomputable def fnq_exponent : FnD := ⟨Tryz.prog,[0,2,3,4,5,6,7,32,33],[],39,false⟩
def codeq_exponent : DC := (.seq (.reg [ox 2 (.mv (oi 0)),ox 3 (.mv (.c (.bool false)))]) (.seq (.reg [om 9 0,ot 10 (.call 45 [.t 9,(.c (.str [45]))]),ot 8 (.mv (.t 10)),ot 11 (.ext (.t 8) 0),ot 12 (.ext (.t 8) 1),ow 0 11,ow 4 12]) (.seq (.reg [om 14 0,ot 15 (.call 125 [.t 14]),ot 13 (.mv (.t 15)),ot 16 (.ext (.t 13) 0),ot 17 (.ext (.t 13) 1),ow 5 16,ow 3 17]) (.seq (.reg [om 19 5,ot 20 (.call 167 [.t 19]),ot 18 (.mv (.t 20)),ot 21 (.ext (.t 18) 0),ot 22 (.ext (.t 18) 1),ow 6 21,ow 7 22]) (.seq (.seq (.reg [om 23 3,ot 24 (.un .not (.t 23)),ot 25 (.mv (.t 24)),og 26 (.mv (.x 7)) 25 false,og 27 (.un .not (.t 26)) 25 false,ot 28 (.pick (.t 25) (.c (.bool true)) (.t 27)),ot 29 (.mv (.t 28)),og 30 (.mv (.x 6)) 29 false,og 31 (.bin .gtr (.t 30) (.c (.int .u64 40))) 29 false,ox 32 (.pick (.t 29) (.c (.bool true)) (.t 31))]) (.cond (.x 32) (.seq (.reg [ox 2 (.mv (oi 0)),ox 3 (.mv (.c (.bool false)))]) .ret) .skip)) (.seq (.seq (.reg [ox 33 (.mv (.x 4))]) (.cond (.x 33) (.seq (.reg [om 34 6,ot 35 (.conv .i64 (.t 34)),ot 36 (.un .neg (.t 35)),ow 2 36,ox 3 (.mv (.c (.bool true)))]) .ret) .skip)) (.seq (.reg [om 37 6,ot 38 (.conv .i64 (.t 37)),ow 2 38,ox 3 (.mv (.c (.bool true)))]) .ret)))))))
def resq_exponent : List RV := [.t 2, .t 3]
theorem isq_exponent : IsFn fnq_exponent 127 codeq_exponent resq_exponent := .k Tryz.func127 rfl (by kernel_rfl)
noncomputable def fnrTimes : FnD := ⟨Tryz.prog,[0,1,2,6,7,8,9,10,16],[],36,false⟩
def coderTimes : DC := (.seq (.reg [ox 6 (.mv (.c .nils))]) (.seq (.reg [om 11 2,ot 12 (.mks 1 4 [(.int .u32 0)] (.t 11) (.t 11)),ow 7 12]) (.seq (.reg [ox 8 (.mv (.c (.int .u64 0)))]) (.seq (.seq (.reg [ox 9 (.mv (oi 0))]) (.block 0 (.loop (.seq (.seq (.reg [om 13 9,om 14 0,ot 15 (.len 1 (.t 14)),ox 16 (.bin .leq (.t 13) (.t 15))]) (.cond (.x 16) .skip (.exit 0))) (.seq (.block 1 (.seq (.reg [om 19 0,om 20 9,ot 21 (.call 121 [.t 19,.t 20]),om 22 1,ot 23 (.conv .u64 (.t 22)),ot 24 (.bin .mul (.t 21) (.t 23)),om 25 8,ot 26 (.bin .add (.t 24) (.t 25)),ow 10 26]) (.reg [om 27 7,om 28 10,ot 29 (.conv .u32 (.t 28)),ot 30 (.bsl 1 [(.int .u32 0)] [(0,1,.t 29)]),ot 31 (.app 66 1 4 (.t 27) (.t 30)),om 32 10,ot 33 (.bin .shr (.t 32) (.c (.int .u64 32))),ow 7 31,ow 8 33]))) (.reg [om 17 9,ot 18 (.bin .add (.t 17) (oi 1)),ow 9 18])))))) (.seq (.reg [om 34 7,ot 35 (.call 153 [.t 34]),ow 6 35]) .ret)))))
def resrTimes : List RV := [.t 6]
theorem nbrTimes : fnrTimes.nb = 0 := rfl
theorem isrTimes : IsFn fnrTimes 131 coderTimes resrTimes := .k Tryz.func131 rfl (by kernel_rfl)
noncomputable def fnpQuo : FnD := ⟨Tryz.prog,[0,1,2,3,4],[],20,false⟩
def codepQuo : DC := (.seq (.reg [ox 2 (.box (.x 0)),ox 3 (.box (.x 1)),ox 4 (.alloc [(.bool false),.nils,.nils])]) (.seq (.regd [ot 5 (.ldn 3 (.x 2)),ot 6 (.call 64 [.t 5]),ot 7 (.ldn 3 (.x 3)),ot 8 (.call 64 [.t 7]),on (.stn 3 (.x 2) (.t 6)),on (.stn 3 (.x 3) (.t 8))]) (.seq (.regd [ot 9 (.fad 0 (.x 2)),ot 10 (.ldn 2 (.t 9)),ot 11 (.ldn 3 (.x 3)),ot 12 (.call 143 [.t 11]),ot 13 (.call 142 [.t 10,.t 12]),ot 14 (.ldn 3 (.x 2)),ot 15 (.call 143 [.t 14]),ot 16 (.fad 0 (.x 3)),ot 17 (.ldn 2 (.t 16)),ot 18 (.call 142 [.t 15,.t 17]),ot 19 (.call 58 [.t 13,.t 18]),on (.stn 3 (.x 4) (.t 19))]) .ret)))
def respQuo : List RV := [.cn 3 4]
theorem nbpQuo : fnpQuo.nb = 0 := rfl
theorem ispQuo : IsFn fnpQuo 135 codepQuo respQuo := .k Tryz.func135 rfl (by kernel_rfl)
noncomputable def fnnTrim : FnD := ⟨Tryz.prog,[0,2,3,15],[],21,false⟩
def codenTrim : DC := (.seq (.reg [ox 2 (.mv (.c .nils))]) (.seq (.reg [om 4 0,ot 5 (.len 1 (.t 4)),ow 3 5]) (.seq (.block 0 (.loop (.seq (.seq (.reg [om 6 3,ot 7 (.bin .gtr (.t 6) (oi 0)),ot 8 (.mv (.t 7)),og 9 (.mv (.x 0)) 8 true,og 10 (.mv (.x 3)) 8 true,og 11 (.bin .sub (.t 10) (oi 1)) 8 true,og 12 (.iad 1 (.t 9) (.t 11)) 8 true,og 13 (.ld (.t 12)) 8 true,og 14 (.bin .eql (.t 13) (.c (.int .u32 0))) 8 true,ox 15 (.pick (.t 8) (.t 14) (.c (.bool false)))]) (.cond (.x 15) .skip (.exit 0))) (.block 1 (.reg [om 16 3,ot 17 (.bin .sub (.t 16) (oi 1)),ow 3 17]))))) (.seq (.reg [om 18 0,om 19 3,ot 20 (.slc 1 (.t 18) none (some (.t 19))),ow 2 20]) .ret))))
def resnTrim : List RV := [.t 2]
theorem isnTrim : IsFn fnnTrim 139 codenTrim resnTrim := .k Tryz.func139 rfl (by kernel_rfl)
noncomputable def fnpDen : FnD := ⟨Tryz.prog,[0,1,2,6],[],13,false⟩
def codepDen : DC := (.seq (.reg [ox 1 (.box (.x 0)),ox 2 (.alloc [(.bool false),.nils])]) (.seq (.seq (.reg [ot 3 (.fad 2 (.x 1)),ot 4 (.ld (.t 3)),ot 5 (.len 1 (.t 4)),ox 6 (.bin .eql (.t 5) (oi 0))]) (.cond (.x 6) (.seq (.reg [ot 7 (.bsl 1 [(.int .u32 0)] [(0,1,(.c (.int .u32 1)))]),ot 8 (.build [(.bool false),.nils] [(1,1,.t 7)]),on (.stn 2 (.x 2) (.t 8))]) .ret) .skip)) (.seq (.reg [ot 9 (.fad 2 (.x 1)),ot 10 (.ld (.t 9)),ot 11 (.call 119 [.t 10]),ot 12 (.build [(.bool false),.nils] [(1,1,.t 11)]),on (.stn 2 (.x 2) (.t 12))]) .ret)))
def respDen : List RV := [.cn 2 2]
theorem nbpDen : fnpDen.nb = 0 := rfl
theorem ispDen : IsFn fnpDen 143 codepDen respDen := .k Tryz.func143 rfl (by kernel_rfl)
noncomputable def fnrTrim : FnD := ⟨Tryz.prog,[0,2,14],[],21,false⟩
def coderTrim : DC := (.seq (.reg [ox 2 (.mv (.c .nils))]) (.seq (.block 0 (.loop (.seq (.seq (.reg [om 3 0,ot 4 (.len 1 (.t 3)),ot 5 (.bin .gtr (.t 4) (oi 0)),ot 6 (.mv (.t 5)),og 7 (.mv (.x 0)) 6 true,og 8 (.mv (.x 0)) 6 true,og 9 (.len 1 (.t 8)) 6 true,og 10 (.bin .sub (.t 9) (oi 1)) 6 true,og 11 (.iad 1 (.t 7) (.t 10)) 6 true,og 12 (.ld (.t 11)) 6 true,og 13 (.bin .eql (.t 12) (.c (.int .u32 0))) 6 true,ox 14 (.pick (.t 6) (.t 13) (.c (.bool false)))]) (.cond (.x 14) .skip (.exit 0))) (.block 1 (.reg [om 15 0,om 16 0,ot 17 (.len 1 (.t 16)),ot 18 (.bin .sub (.t 17) (oi 1)),ot 19 (.slc 1 (.t 15) none (some (.t 18))),ow 0 19]))))) (.seq (.reg [om 20 0,ow 2 20]) .ret)))
def resrTrim : List RV := [.t 2]
theorem isrTrim : IsFn fnrTrim 153 coderTrim resrTrim := .k Tryz.func153 rfl (by kernel_rfl)
noncomputable def fnsValid : FnD := ⟨Tryz.prog,[0,1,2],[],17,false⟩
def codesValid : DC := (.seq (.reg [ox 1 (.box (.x 0)),ox 2 (.mv (.c (.bool false)))]) (.seq (.reg [ot 3 (.fad 1 (.x 1)),ot 4 (.ld (.t 3)),ot 5 (.call 159 [.t 4]),ot 6 (.mv (.t 5)),og 7 (.fad 0 (.x 1)) 6 true,og 8 (.ld (.t 7)) 6 true,og 9 (.mv (.t 8)) 6 true,og 10 (.fad 1 (.x 1)) 9 true,og 11 (.ld (.t 10)) 9 true,og 12 (.len 1 (.t 11)) 9 true,og 13 (.bin .eql (.t 12) (oi 0)) 9 true,og 14 (.pick (.t 9) (.t 13) (.c (.bool false))) 6 true,og 15 (.un .not (.t 14)) 6 true,ot 16 (.pick (.t 6) (.t 15) (.c (.bool false))),ow 2 16]) .ret))
def ressValid : List RV := [.t 2]
theorem nbsValid : fnsValid.nb = 0 := rfl
theorem issValid : IsFn fnsValid 158 codesValid ressValid := .k Tryz.func158 rfl (by kernel_rfl)
noncomputable def fnislCut : FnD := ⟨Tryz.prog,[0,1,4,5,6,7,12],[],23,false⟩
def codeislCut : DC := (.seq (.reg [ox 4 (.mv (.c (.str []))),ox 5 (.mv (.c (.str []))),ox 6 (.mv (.c (.bool false)))]) (.seq (.seq (.reg [om 8 0,om 9 1,ot 10 (.call 180 [.t 8,.t 9]),ow 7 10]) (.seq (.reg [om 11 7,ox 12 (.bin .geq (.t 11) (oi 0))]) (.cond (.x 12) (.seq (.regd [om 13 0,om 14 7,ot 15 (.slcS (.t 13) none (some (.t 14))),om 16 0,om 17 7,om 18 1,ot 19 (.lenS (.t 18)),ot 20 (.bin .add (.t 17) (.t 19)),ot 21 (.slcS (.t 16) (some (.t 20)) none),ow 4 15,ow 5 21,ox 6 (.mv (.c (.bool true)))]) .ret) .skip))) (.seq (.reg [om 22 0,ow 4 22,ox 5 (.mv (.c (.str []))),ox 6 (.mv (.c (.bool false)))]) .ret)))
def resislCut : List RV := [.t 4, .t 5, .t 6]
theorem isislCut : IsFn fnislCut 162 codeislCut resislCut := .k Tryz.func162 rfl (by kernel_rfl)
noncomputable def fnnShifted : FnD := ⟨Tryz.prog,[0,1,4,5,6,7,8,13,14,15,16],[],41,false⟩
def codenShifted : DC := (.seq (.reg [ox 4 (.mv (.c .nils))]) (.seq (.reg [om 9 0,ot 10 (.len 1 (.t 9)),ot 11 (.bin .add (.t 10) (oi 1)),ot 12 (.mks 1 4 [(.int .u32 0)] (.t 11) (.t 11)),ow 5 12]) (.seq (.seq (.reg [ox 13 (.mv (.x 0)),ox 14 (.len 1 (.x 13)),ox 15 (.mv (oi 0))]) (.block 0 (.loop (.seq (.reg [ox 16 (.bin .lss (.x 15) (.x 14))]) (.seq (.cond (.x 16) .skip (.exit 0)) (.seq (.block 1 (.seq (.reg [om 17 15,ot 18 (.iad 1 (.x 13) (.x 15)),ot 19 (.ld (.t 18)),ow 6 17,ow 7 19]) (.seq (.reg [om 20 7,ot 21 (.conv .u64 (.t 20)),om 22 1,ot 23 (.bin .shl (.t 21) (.t 22)),ow 8 23]) (.seq (.reg [om 24 5,om 25 6,ot 26 (.iad 1 (.t 24) (.t 25)),ot 27 (.ld (.t 26)),om 28 8,ot 29 (.conv .u32 (.t 28)),ot 30 (.bin .or (.t 27) (.t 29)),ot 31 (.iad 1 (.t 24) (.t 25)),on (.st (.t 31) (.t 30))]) (.reg [om 32 5,om 33 6,ot 34 (.bin .add (.t 33) (oi 1)),om 35 8,ot 36 (.bin .shr (.t 35) (.c (.int .u64 32))),ot 37 (.conv .u32 (.t 36)),ot 38 (.iad 1 (.t 32) (.t 34)),on (.st (.t 38) (.t 37))]))))) (.reg [ot 39 (.bin .add (.x 15) (oi 1)),ow 15 39]))))))) (.seq (.reg [om 40 5,ow 4 40]) .ret))))
def resnShifted : List RV := [.t 4]
theorem nbnShifted : fnnShifted.nb = 0 := rfl
theorem isnShifted : IsFn fnnShifted 171 codenShifted resnShifted := .k Tryz.func171 rfl (by kernel_rfl)
noncomputable def fnrcmp : FnD := ⟨Tryz.prog,[0,1,4,5,10,15,20,31,40],[],41,false⟩
def codercmp : DC := (.seq (.reg [ox 4 (.mv (oi 0))]) (.seq (.seq (.reg [om 6 0,ot 7 (.len 1 (.t 6)),om 8 1,ot 9 (.len 1 (.t 8)),ox 10 (.bin .neq (.t 7) (.t 9))]) (.cond (.x 10) (.seq (.seq (.reg [om 11 0,ot 12 (.len 1 (.t 11)),om 13 1,ot 14 (.len 1 (.t 13)),ox 15 (.bin .lss (.t 12) (.t 14))]) (.cond (.x 15) (.seq (.reg [ox 4 (.mv (oi (-1)))]) .ret) .skip)) (.seq (.reg [ox 4 (.mv (oi 1))]) .ret)) .skip)) (.seq (.seq (.reg [om 16 0,ot 17 (.len 1 (.t 16)),ot 18 (.bin .sub (.t 17) (oi 1)),ow 5 18]) (.block 0 (.loop (.seq (.seq (.reg [om 19 5,ox 20 (.bin .geq (.t 19) (oi 0))]) (.cond (.x 20) .skip (.exit 0))) (.seq (.block 1 (.seq (.seq (.regd [om 23 0,om 24 5,ot 25 (.iad 1 (.t 23) (.t 24)),ot 26 (.ld (.t 25)),om 27 1,om 28 5,ot 29 (.iad 1 (.t 27) (.t 28)),ot 30 (.ld (.t 29)),ox 31 (.bin .lss (.t 26) (.t 30))]) (.cond (.x 31) (.seq (.reg [ox 4 (.mv (oi (-1)))]) .ret) .skip)) (.seq (.regd [om 32 0,om 33 5,ot 34 (.iad 1 (.t 32) (.t 33)),ot 35 (.ld (.t 34)),om 36 1,om 37 5,ot 38 (.iad 1 (.t 36) (.t 37)),ot 39 (.ld (.t 38)),ox 40 (.bin .gtr (.t 35) (.t 39))]) (.cond (.x 40) (.seq (.reg [ox 4 (.mv (oi 1))]) .ret) .skip)))) (.reg [om 21 5,ot 22 (.bin .sub (.t 21) (oi 1)),ow 5 22])))))) (.seq (.reg [ox 4 (.mv (oi 0))]) .ret))))
def resrcmp : List RV := [.t 4]
theorem isrcmp : IsFn fnrcmp 175 codercmp resrcmp := .k Tryz.func175 rfl (by kernel_rfl)
noncomputable def fnlrCoefs : FnD := ⟨Tryz.prog,[0,1,2,3,4,10,11,12,13,14,15,16,17,18,19,20,21,22,23,24,26,27,28,29,30,31,32,35,49,56,70,72,73,74,129,136,161,162,163,164,193],[1000003],196,false⟩
def codelrCoefs : DC := (.seq (.reg [ox 10 (.mv (.c (.bool false)))]) (.seq (.seq (.reg [om 33 2,ot 34 (.call 6 [.t 33,(oi 200)]),ox 35 (.un .not (.t 34))]) (.cond (.x 35) (.seq (.reg [ot 36 (.call 7 []),ow 10 36]) .ret) .skip)) (.seq (.seq (.reg [om 37 1,ot 38 (.len 1 (.t 37)),ot 39 (.bin .gtr (.t 38) (oi 20)),ot 40 (.mv (.t 39)),og 41 (.mv (.x 2)) 40 false,og 42 (.len 3 (.t 41)) 40 false,og 43 (.bin .gtr (.t 42) (oi 20)) 40 false,ot 44 (.pick (.t 40) (.c (.bool true)) (.t 43)),ot 45 (.mv (.t 44)),og 46 (.mv (.x 3)) 45 false,og 47 (.lenS (.t 46)) 45 false,og 48 (.bin .gtr (.t 47) (oi 300)) 45 false,ox 49 (.pick (.t 45) (.c (.bool true)) (.t 48))]) (.cond (.x 49) (.seq (.reg [ot 50 (.call 7 []),ow 10 50]) .ret) .skip)) (.seq (.reg [om 51 0,ot 52 (.call 8 [.t 51]),ow 11 52]) (.seq (.reg [ox 12 (.mv (.c .nils))]) (.seq (.reg [ox 13 (.mv (.c .nils))]) (.seq (.seq (.reg [om 53 11,ot 54 (.call 14 [.t 53,(oi 4)]),ow 14 54]) (.block 0 (.loop (.seq (.seq (.reg [om 55 14,ox 56 (.bin .gtr (.t 55) (oi 0))]) (.cond (.x 56) .skip (.exit 0))) (.seq (.block 1 (.reg [om 59 12,om 60 11,ot 61 (.call 18 [.t 60]),ot 62 (.bsl 1 [(.str [])] [(0,1,.t 61)]),ot 63 (.app 9 1 16 (.t 59) (.t 62)),om 64 13,om 65 11,ot 66 (.call 9 [.t 65]),ot 67 (.bsl 3 [(.bool false),.nils,.nils] [(0,3,.t 66)]),ot 68 (.app 27 3 56 (.t 64) (.t 67)),ow 12 63,ow 13 68])) (.reg [om 57 14,ot 58 (.bin .sub (.t 57) (oi 1)),ow 14 58])))))) (.seq (.seq (.reg [om 69 11,ox 70 (.call 19 [.t 69,(oi 3)])]) (.cond (.x 70) (.seq (.reg [ox 12 (.mv (.c .nils))]) (.seq (.reg [om 71 13,ox 72 (.len 3 (.t 71)),ox 73 (.mv (oi 0))]) (.block 2 (.loop (.seq (.reg [ox 74 (.bin .lss (.x 73) (.x 72))]) (.seq (.cond (.x 74) .skip (.exit 2)) (.seq (.block 3 (.reg [om 75 12,om 76 11,ot 77 (.call 20 [.t 76]),ot 78 (.bsl 1 [(.str [])] [(0,1,.t 77)]),ot 79 (.app 9 1 16 (.t 75) (.t 78)),ow 12 79])) (.reg [ot 80 (.bin .add (.x 73) (oi 1)),ow 73 80])))))))) .skip)) (.seq (.reg [om 81 11,ot 82 (.bsl 1 [(.int .i64 0),(.int .i64 0),(.int .i64 0),(.int .i64 0),(.int .i64 0),(.int .i64 0)] [(0,1,(oi 0)),(1,1,(oi 1)),(2,1,(oi 3)),(3,1,(oi 20)),(4,1,(oi 21)),(5,1,(oi (-1)))]),ot 83 (.call 21 [.t 81,.t 82]),ow 15 83]) (.seq (.reg [om 85 12,om 86 13,om 87 15,ot 88 (.call 22 [.t 85,.t 86,.t 87]),ot 84 (.mv (.t 88)),ot 89 (.ext (.t 84) 0),ot 90 (.ext (.t 84) 1),ow 16 89,ow 17 90]) (.seq (.reg [om 92 12,om 93 13,om 94 15,ot 95 (.call 23 [.t 92,.t 93,.t 94]),ot 91 (.mv (.t 95)),ot 96 (.ext (.t 91) 0),ot 97 (.ext (.t 91) 1),ow 18 96,ow 19 97]) (.seq (.reg [om 99 1,om 100 2,om 101 4,ot 102 (.call 22 [.t 99,.t 100,.t 101]),ot 98 (.mv (.t 102)),ot 103 (.ext (.t 98) 0),ot 104 (.ext (.t 98) 1),ow 20 103,ow 21 104]) (.seq (.reg [om 106 1,om 107 2,om 108 4,ot 109 (.call 23 [.t 106,.t 107,.t 108]),ot 105 (.mv (.t 109)),ot 110 (.ext (.t 105) 0),ot 111 (.ext (.t 105) 1),ow 22 110,ow 23 111]) (.seq (.seq (.reg [om 112 16,om 113 18,ot 114 (.bin .neq (.t 112) (.t 113)),ot 115 (.mv (.t 114)),og 116 (.mv (.x 17)) 115 false,og 117 (.mv (.x 19)) 115 false,og 118 (.bin .neq (.t 116) (.t 117)) 115 false,ot 119 (.pick (.t 115) (.c (.bool true)) (.t 118)),ot 120 (.mv (.t 119)),og 121 (.mv (.x 20)) 120 false,og 122 (.mv (.x 22)) 120 false,og 123 (.bin .neq (.t 121) (.t 122)) 120 false,ot 124 (.pick (.t 120) (.c (.bool true)) (.t 123)),ot 125 (.mv (.t 124)),og 126 (.mv (.x 21)) 125 false,og 127 (.mv (.x 23)) 125 false,og 128 (.bin .neq (.t 126) (.t 127)) 125 false,ox 129 (.pick (.t 125) (.c (.bool true)) (.t 128))]) (.cond (.x 129) (.seq (.reg [ox 10 (.mv (.c (.bool false)))]) .ret) .skip)) (.seq (.seq (.reg [om 130 16,ot 131 (.lenS (.t 130)),ot 132 (.bin .gtr (.t 131) (oi 0)),ot 133 (.mv (.t 132)),og 134 (.mv (.x 11)) 133 true,og 135 (.call 19 [.t 134,(oi 2)]) 133 true,ox 136 (.pick (.t 133) (.t 135) (.c (.bool false)))]) (.cond (.x 136) (.seq (.reg [om 137 11,om 138 16,ot 139 (.lenS (.t 138)),ot 140 (.call 14 [.t 137,.t 139]),ow 24 140]) (.regd [om 141 16,om 142 24,ot 143 (.slcS (.t 141) none (some (.t 142))),om 144 11,ot 145 (.call 14 [.t 144,(oi 6)]),ot 146 (.bin .add (oi 45) (.t 145)),ot 147 (.conv .u8 (.t 146)),ot 148 (.bsl 1 [(.int .u8 0)] [(0,1,.t 147)]),ot 149 (.b2s (.t 148)),ot 150 (.bin .add (.t 143) (.t 149)),om 151 16,om 152 24,om 153 11,ot 154 (.call 14 [.t 153,(oi 2)]),ot 155 (.bin .add (.t 152) (.t 154)),ot 156 (.slcS (.t 151) (some (.t 155)) none),ot 157 (.bin .add (.t 150) (.t 156)),ow 16 157])) .skip)) (.seq (.seq (.reg [om 158 16,om 159 20,om 160 3,ox 161 (.bsl 1 [(.str []),(.str []),(.str [])] [(0,1,.t 158),(1,1,.t 159),(2,1,.t 160)]),ox 162 (.len 1 (.x 161)),ox 163 (.mv (oi 0))]) (.block 4 (.loop (.seq (.reg [ox 164 (.bin .lss (.x 163) (.x 162))]) (.seq (.cond (.x 164) .skip (.exit 4)) (.seq (.block 5 (.seq (.reg [ot 165 (.iad 1 (.x 161) (.x 163)),ot 166 (.ld (.t 165)),ow 26 166]) (.seq (.reg [om 168 26,ot 169 (.call 24 [.t 168]),ot 167 (.mv (.t 169)),ot 170 (.ext (.t 167) 0),ot 171 (.ext (.t 167) 1),ot 172 (.ext (.t 167) 2),ow 27 170,ow 28 171,ow 29 172]) (.seq (.reg [om 174 26,ot 175 (.call 25 [.t 174]),ot 173 (.mv (.t 175)),ot 176 (.ext (.t 173) 0),ot 177 (.ext (.t 173) 1),ot 178 (.ext (.t 173) 2),ow 30 176,ow 31 177,ow 32 178]) (.seq (.reg [om 179 29,om 180 32,ot 181 (.bin .neq (.t 179) (.t 180)),ot 182 (.mv (.t 181)),og 183 (.mv (.x 27)) 182 false,og 184 (.mv (.x 30)) 182 false,og 185 (.call 26 [.t 183,.t 184]) 182 false,og 186 (.un .not (.t 185)) 182 false,ot 187 (.pick (.t 182) (.c (.bool true)) (.t 186)),ot 188 (.mv (.t 187)),og 189 (.mv (.x 28)) 188 false,og 190 (.mv (.x 31)) 188 false,og 191 (.call 27 [.t 189,.t 190]) 188 false,og 192 (.un .not (.t 191)) 188 false,ox 193 (.pick (.t 188) (.c (.bool true)) (.t 192))]) (.cond (.x 193) (.seq (.reg [ox 10 (.mv (.c (.bool false)))]) .ret) .skip)))))) (.reg [ot 194 (.bin .add (.x 163) (oi 1)),ow 163 194]))))))) (.seq (.reg [ot 195 (.call 7 []),ow 10 195]) .ret)))))))))))))))))
def reslrCoefs : List RV := [.t 10]
theorem islrCoefs : IsFn fnlrCoefs 4 codelrCoefs reslrCoefs := .k Tryz.func4 rfl (by kernel_rfl)
noncomputable def fnwNew : FnD := ⟨Tryz.prog,[0,2,5],[],11,false⟩
def codewNew : DC := (.seq (.reg [ox 2 (.mv (.c .nilp))]) (.seq (.seq (.reg [om 3 0,ot 4 (.len 1 (.t 3)),ox 5 (.bin .gtr (.t 4) (oi 400))]) (.cond (.x 5) (.reg [om 6 0,ot 7 (.slc 1 (.t 6) none (some (oi 400))),ow 0 7]) .skip)) (.seq (.reg [om 8 0,ot 9 (.build [.nils,(.int .i64 0)] [(0,1,.t 8)]),ot 10 (.box (.t 9)),ow 2 10]) .ret)))
def reswNew : List RV := [.t 2]
theorem iswNew : IsFn fnwNew 8 codewNew reswNew := .k Tryz.func8 rfl (by kernel_rfl)
noncomputable def fnlrPlain : FnD := ⟨Tryz.prog,[0,2],[],8,false⟩
def codelrPlain : DC := (.seq (.reg [ox 2 (.mv (.c (.str [])))]) (.seq (.reg [ot 3 (.bsl 1 [(.str []),(.str []),(.str []),(.str []),(.str []),(.str []),(.str []),(.str [])] [(0,1,(.c (.str [97]))),(1,1,(.c (.str [49,48]))),(2,1,(.c (.str [45,51,47,52]))),(3,1,(.c (.str [98,99,100]))),(4,1,(.c (.str [126]))),(5,1,(.c (.str [33]))),(6,1,(.c (.str [120,50]))),(7,1,(.c (.str [97,98,99,100,101,102,103,104,105,106,107,108,109,110,111,112,113,114,115,116,117,118,119,120,121,122,48,49,50,51,52,53])))]),om 4 0,ot 5 (.call 14 [.t 4,(oi 8)]),ot 6 (.iad 1 (.t 3) (.t 5)),ot 7 (.ld (.t 6)),ow 2 7]) .ret))
def reslrPlain : List RV := [.t 2]
theorem islrPlain : IsFn fnlrPlain 20 codelrPlain reslrPlain := .k Tryz.func20 rfl (by kernel_rfl)
noncomputable def fnrpReadCoefs : FnD := ⟨Tryz.prog,[0,2,3,4,5,7,8,9,10,11,12,26,27,28,29,30,41,54,70],[6000049],73,false⟩
def coderpReadCoefs : DC := (.seq (.reg [ox 2 (.mv (.c .nils)),ox 3 (.mv (.c .nils)),ox 4 (.mv (oi 0))]) (.seq (.reg [om 14 0,ot 15 (.call 30 [.t 14]),ot 13 (.mv (.t 15)),ot 16 (.ext (.t 13) 0),ot 17 (.ext (.t 13) 1),ow 5 16,ow 4 17]) (.seq (.seq (.reg [om 18 4,ot 19 (.bin .neq (.t 18) (oi 0)),ot 20 (.mv (.t 19)),og 21 (.mv (.x 5)) 20 false,og 22 (.iad 1 (.t 21) (oi 0)) 20 false,og 23 (.ld (.t 22)) 20 false,og 24 (.len 1 (.t 23)) 20 false,og 25 (.bin .neq (.t 24) (oi 3)) 20 false,ox 26 (.pick (.t 20) (.c (.bool true)) (.t 25))]) (.cond (.x 26) (.seq (.reg [ox 2 (.mv (.c .nils)),ox 3 (.mv (.c .nils)),ox 4 (.mv (oi 3))]) .ret) .skip)) (.seq (.seq (.reg [ox 27 (.mv (.x 5)),ox 28 (.len 1 (.x 27)),ox 29 (.mv (oi 0))]) (.block 0 (.loop (.seq (.reg [ox 30 (.bin .lss (.x 29) (.x 28))]) (.seq (.cond (.x 30) .skip (.exit 0)) (.seq (.block 1 (.seq (.reg [ot 31 (.iad 1 (.x 27) (.x 29)),ot 32 (.ld (.t 31)),ow 7 32]) (.seq (.reg [om 34 7,ot 35 (.iad 1 (.t 34) (oi 1)),ot 36 (.ld (.t 35)),ot 37 (.call 46 [.t 36]),ot 33 (.mv (.t 37)),ot 38 (.ext (.t 33) 0),ot 39 (.ext (.t 33) 1),ox 8 (.alloc [(.bool false),.nils,.nils]),on (.stn 3 (.x 8) (.t 38)),ow 9 39]) (.seq (.seq (.reg [om 40 9,ox 41 (.un .not (.t 40))]) (.cond (.x 41) (.seq (.reg [ox 2 (.mv (.c .nils)),ox 3 (.mv (.c .nils)),ox 4 (.mv (oi 3))]) .ret) .skip)) (.regd [om 42 2,om 43 7,ot 44 (.iad 1 (.t 43) (oi 0)),ot 45 (.ld (.t 44)),ot 46 (.bsl 1 [(.str [])] [(0,1,.t 45)]),ot 47 (.app 9 1 16 (.t 42) (.t 46)),om 48 3,ot 49 (.ldnr 3 (.x 8)),ot 50 (.bsl 3 [(.bool false),.nils,.nils] [(0,3,.t 49)]),ot 51 (.app 27 3 56 (.t 48) (.t 50)),ow 2 47,ow 3 51]))))) (.reg [ot 52 (.bin .add (.x 29) (oi 1)),ow 29 52]))))))) (.seq (.seq (.reg [ox 10 (.mv (oi 0))]) (.block 2 (.loop (.seq (.seq (.reg [om 53 10,ox 54 (.bin .leq (.t 53) (oi 20))]) (.cond (.x 54) .skip (.exit 2))) (.seq (.block 3 (.seq (.reg [om 58 2,om 59 3,om 60 10,ot 61 (.call 22 [.t 58,.t 59,.t 60]),ot 57 (.mv (.t 61)),ot 62 (.ext (.t 57) 0),ot 63 (.ext (.t 57) 1),ow 11 62,ow 12 63]) (.seq (.reg [om 64 12,ot 65 (.bin .eql (.t 64) (oi 0)),ot 66 (.mv (.t 65)),og 67 (.mv (.x 11)) 66 true,og 68 (.mv (.x 0)) 66 true,og 69 (.bin .eql (.t 67) (.t 68)) 66 true,ox 70 (.pick (.t 66) (.t 69) (.c (.bool false)))]) (.cond (.x 70) (.seq (.reg [om 71 2,om 72 3,ow 2 71,ow 3 72,ox 4 (.mv (oi 0))]) .ret) .skip)))) (.reg [om 55 10,ot 56 (.bin .add (.t 55) (oi 1)),ow 10 56])))))) (.seq (.reg [ox 2 (.mv (.c .nils)),ox 3 (.mv (.c .nils)),ox 4 (.mv (oi 3))]) .ret))))))
def resrpReadCoefs : List RV := [.t 2, .t 3, .t 4]
theorem isrpReadCoefs : IsFn fnrpReadCoefs 24 coderpReadCoefs resrpReadCoefs := .k Tryz.func24 rfl (by kernel_rfl)
noncomputable def fnpSame : FnD := ⟨Tryz.prog,[0,1,2,3,4],[],17,false⟩
def codepSame : DC := (.seq (.reg [ox 2 (.box (.x 0)),ox 3 (.box (.x 1)),ox 4 (.mv (.c (.bool false)))]) (.seq (.reg [ot 5 (.fad 0 (.x 2)),ot 6 (.ldn 2 (.t 5)),ot 7 (.fad 0 (.x 3)),ot 8 (.ldn 2 (.t 7)),ot 9 (.call 94 [.t 6,.t 8]),ot 10 (.mv (.t 9)),og 11 (.fad 2 (.x 2)) 10 true,og 12 (.ld (.t 11)) 10 true,og 13 (.fad 2 (.x 3)) 10 true,og 14 (.ld (.t 13)) 10 true,og 15 (.call 95 [.t 12,.t 14]) 10 true,ot 16 (.pick (.t 10) (.t 15) (.c (.bool false))),ow 4 16]) .ret))
def respSame : List RV := [.t 4]
theorem nbpSame : fnpSame.nb = 0 := rfl
theorem ispSame : IsFn fnpSame 53 codepSame respSame := .k Tryz.func53 rfl (by kernel_rfl)
noncomputable def fnsFromInt : FnD := ⟨Tryz.prog,[0,2,4],[],17,false⟩
def codesFromInt : DC := (.seq (.reg [ox 2 (.alloc [(.bool false),.nils])]) (.seq (.seq (.reg [om 3 0,ox 4 (.bin .lss (.t 3) (oi 0))]) (.cond (.x 4) (.seq (.reg [om 5 0,ot 6 (.bin .add (.t 5) (oi 1)),ot 7 (.un .neg (.t 6)),ot 8 (.conv .u64 (.t 7)),ot 9 (.call 107 [.t 8]),ot 10 (.bsl 1 [(.int .u32 0)] [(0,1,(.c (.int .u32 1)))]),ot 11 (.call 106 [.t 9,.t 10]),ot 12 (.call 105 [(.c (.bool true)),.t 11]),on (.stn 2 (.x 2) (.t 12))]) .ret) .skip)) (.seq (.reg [om 13 0,ot 14 (.conv .u64 (.t 13)),ot 15 (.call 107 [.t 14]),ot 16 (.call 105 [(.c (.bool false)),.t 15]),on (.stn 2 (.x 2) (.t 16))]) .ret)))
def ressFromInt : List RV := [.cn 2 2]
theorem nbsFromInt : fnsFromInt.nb = 0 := rfl
theorem issFromInt : IsFn fnsFromInt 59 codesFromInt ressFromInt := .k Tryz.func59 rfl (by kernel_rfl)
noncomputable def fnpTake : FnD := ⟨Tryz.prog,[0,1,2,5],[],14,false⟩
def codepTake : DC := (.seq (.reg [ox 1 (.box (.x 0)),ox 2 (.alloc [(.bool false),.nils,.nils])]) (.seq (.seq (.reg [ot 3 (.ldn 3 (.x 1)),ot 4 (.call 117 [.t 3]),ox 5 (.un .not (.t 4))]) (.cond (.x 5) (.seq (.reg [ot 6 (.build [(.bool false),.nils,.nils] []),on (.stn 3 (.x 2) (.t 6))]) .ret) .skip)) (.seq (.regd [ot 7 (.fad 0 (.x 1)),ot 8 (.ldn 2 (.t 7)),ot 9 (.call 118 [.t 8]),ot 10 (.fad 2 (.x 1)),ot 11 (.ld (.t 10)),ot 12 (.call 119 [.t 11]),ot 13 (.build [(.bool false),.nils,.nils] [(0,2,.t 9),(2,1,.t 12)]),on (.stn 3 (.x 2) (.t 13))]) .ret)))
def respTake : List RV := [.cn 3 2]
theorem nbpTake : fnpTake.nb = 0 := rfl
theorem ispTake : IsFn fnpTake 64 codepTake respTake := .k Tryz.func64 rfl (by kernel_rfl)
noncomputable def fnq_lowest : FnD := ⟨Tryz.prog,[0,1,2,4,5,6,31],[],38,false⟩
def codeq_lowest : DC := (.seq (.reg [ox 2 (.box (.x 0)),ox 4 (.alloc [(.bool false),.nils,.nils])]) (.seq (.reg [ot 9 (.fad 1 (.x 2)),ot 10 (.ld (.t 9)),om 11 1,ot 12 (.call 130 [.t 10,.t 11]),ow 5 12]) (.seq (.reg [ot 14 (.fad 1 (.x 2)),ot 15 (.ld (.t 14)),om 16 5,ot 17 (.call 77 [.t 15,.t 16]),ot 13 (.mv (.t 17)),ot 18 (.ext (.t 13) 0),ot 19 (.ext (.t 13) 1),ot 20 (.ext (.t 13) 2),ow 6 18,ot 7 (.mv (.t 19)),ot 8 (.mv (.t 20))]) (.seq (.reg [om 22 1,om 23 5,ot 24 (.call 77 [.t 22,.t 23]),ot 21 (.mv (.t 24)),ot 25 (.ext (.t 21) 0),ot 26 (.ext (.t 21) 1),ot 27 (.ext (.t 21) 2),ow 1 25]) (.seq (.seq (.reg [om 28 1,ot 29 (.call 83 []),ot 30 (.call 81 [.t 28,.t 29]),ox 31 (.bin .eql (.t 30) (oi 0))]) (.cond (.x 31) (.reg [ox 1 (.mv (.c .nils))]) .skip)) (.seq (.reg [ot 32 (.fad 0 (.x 2)),ot 33 (.ld (.t 32)),om 34 6,ot 35 (.build [(.bool false),.nils] [(0,1,.t 33),(1,1,.t 34)]),om 36 1,ot 37 (.build [(.bool false),.nils,.nils] [(0,2,.t 35),(2,1,.t 36)]),on (.stn 3 (.x 4) (.t 37))]) .ret))))))
def resq_lowest : List RV := [.cn 3 4]
theorem nbq_lowest : fnq_lowest.nb = 0 := rfl
theorem isq_lowest : IsFn fnq_lowest 70 codeq_lowest resq_lowest := .k Tryz.func70 rfl (by kernel_rfl)
noncomputable def fnp_decimal : FnD := ⟨Tryz.prog,[0,2,3,4,5,6,8,9,10,11,12,42,56],[],68,false⟩
def codep_decimal : DC := (.seq (.reg [ox 2 (.alloc [(.bool false),.nils,.nils]),ox 3 (.mv (.c (.bool false)))]) (.seq (.reg [om 14 0,ot 15 (.call 72 [.t 14,(.c (.str [46]))]),ot 13 (.mv (.t 15)),ot 16 (.ext (.t 13) 0),ot 17 (.ext (.t 13) 1),ot 18 (.ext (.t 13) 2),ow 4 16,ow 5 17,ow 6 18]) (.seq (.seq (.reg [om 20 4,ot 21 (.call 73 [.t 20]),ot 19 (.mv (.t 21)),ot 22 (.ext (.t 19) 0),ot 23 (.ext (.t 19) 1),ot 7 (.mv (.t 22)),ow 8 23]) (.seq (.reg [om 24 8,ot 25 (.un .not (.t 24)),ot 26 (.mv (.t 25)),og 27 (.mv (.x 6)) 26 false,og 28 (.bin .geq (.t 27) (oi 0)) 26 false,og 29 (.mv (.t 28)) 26 false,og 30 (.mv (.x 5)) 29 true,og 31 (.call 132 [.t 30]) 29 true,og 32 (.un .not (.t 31)) 29 true,og 33 (.pick (.t 29) (.t 32) (.c (.bool false))) 26 false,ot 34 (.pick (.t 26) (.c (.bool true)) (.t 33)),ot 35 (.mv (.t 34)),og 36 (.mv (.x 4)) 35 false,og 37 (.lenS (.t 36)) 35 false,og 38 (.mv (.x 5)) 35 false,og 39 (.lenS (.t 38)) 35 false,og 40 (.bin .add (.t 37) (.t 39)) 35 false,og 41 (.bin .gtr (.t 40) (oi 4000)) 35 false,ox 42 (.pick (.t 35) (.c (.bool true)) (.t 41))]) (.cond (.x 42) (.seq (.reg [ot 43 (.build [(.bool false),.nils,.nils] []),on (.stn 3 (.x 2) (.t 43)),ox 3 (.mv (.c (.bool false)))]) .ret) .skip))) (.seq (.reg [om 45 4,om 46 5,ot 47 (.bin .add (.t 45) (.t 46)),ot 48 (.call 133 [.t 47]),ot 49 (.call 73 [.t 48]),ot 44 (.mv (.t 49)),ot 50 (.ext (.t 44) 0),ot 51 (.ext (.t 44) 1),ow 9 50,ow 10 51]) (.seq (.reg [ot 52 (.bsl 1 [(.int .u32 0)] [(0,1,(.c (.int .u32 1)))]),ow 11 52]) (.seq (.seq (.reg [ox 12 (.mv (oi 0))]) (.block 0 (.loop (.seq (.seq (.reg [om 53 12,om 54 5,ot 55 (.lenS (.t 54)),ox 56 (.bin .lss (.t 53) (.t 55))]) (.cond (.x 56) .skip (.exit 0))) (.seq (.block 1 (.reg [om 59 11,ot 60 (.bsl 1 [(.int .u32 0)] [(0,1,(.c (.int .u32 10)))]),ot 61 (.call 84 [.t 59,.t 60]),ow 11 61])) (.reg [om 57 12,ot 58 (.bin .add (.t 57) (oi 1)),ow 12 58])))))) (.seq (.reg [om 62 9,ot 63 (.build [(.bool false),.nils] [(1,1,.t 62)]),om 64 11,ot 65 (.build [(.bool false),.nils] [(1,1,.t 64)]),ot 66 (.call 58 [.t 63,.t 65]),om 67 10,on (.stn 3 (.x 2) (.t 66)),ow 3 67]) .ret)))))))
def resp_decimal : List RV := [.cn 3 2, .t 3]
theorem nbp_decimal : fnp_decimal.nb = 0 := rfl
theorem isp_decimal : IsFn fnp_decimal 74 codep_decimal resp_decimal := .k Tryz.func74 rfl (by kernel_rfl)
noncomputable def fnnMul : FnD := ⟨Tryz.prog,[0,1,4,5,6,7,8,9,10,21,22,23,24,28,29,30,31],[],71,false⟩
def codenMul : DC := (.seq (.reg [ox 4 (.mv (.c .nils))]) (.seq (.reg [om 11 0,ot 12 (.call 112 [.t 11]),om 13 1,ot 14 (.call 112 [.t 13]),ow 0 12,ow 1 14]) (.seq (.reg [om 15 0,ot 16 (.len 1 (.t 15)),om 17 1,ot 18 (.len 1 (.t 17)),ot 19 (.bin .add (.t 16) (.t 18)),ot 20 (.mks 1 4 [(.int .u32 0)] (.t 19) (.t 19)),ow 5 20]) (.seq (.seq (.reg [ox 21 (.mv (.x 0)),ox 22 (.len 1 (.x 21)),ox 23 (.mv (oi 0))]) (.block 0 (.loop (.seq (.reg [ox 24 (.bin .lss (.x 23) (.x 22))]) (.seq (.cond (.x 24) .skip (.exit 0)) (.seq (.block 1 (.seq (.reg [om 25 23,ot 26 (.iad 1 (.x 21) (.x 23)),ot 27 (.ld (.t 26)),ow 6 25,ow 7 27]) (.seq (.reg [ox 8 (.mv (.c (.int .u64 0)))]) (.seq (.seq (.reg [ox 28 (.mv (.x 1)),ox 29 (.len 1 (.x 28)),ox 30 (.mv (oi 0))]) (.block 2 (.loop (.seq (.reg [ox 31 (.bin .lss (.x 30) (.x 29))]) (.seq (.cond (.x 31) .skip (.exit 2)) (.seq (.block 3 (.seq (.reg [om 32 30,ot 33 (.iad 1 (.x 28) (.x 30)),ot 34 (.ld (.t 33)),ow 9 32,ow 10 34]) (.seq (.reg [om 35 8,om 36 7,ot 37 (.conv .u64 (.t 36)),om 38 10,ot 39 (.conv .u64 (.t 38)),ot 40 (.bin .mul (.t 37) (.t 39)),om 41 5,om 42 6,om 43 9,ot 44 (.bin .add (.t 42) (.t 43)),ot 45 (.iad 1 (.t 41) (.t 44)),ot 46 (.ld (.t 45)),ot 47 (.conv .u64 (.t 46)),ot 48 (.bin .add (.t 40) (.t 47)),ot 49 (.bin .add (.t 35) (.t 48)),ow 8 49]) (.seq (.reg [om 50 5,om 51 6,om 52 9,ot 53 (.bin .add (.t 51) (.t 52)),om 54 8,ot 55 (.conv .u32 (.t 54)),ot 56 (.iad 1 (.t 50) (.t 53)),on (.st (.t 56) (.t 55))]) (.reg [om 57 8,ot 58 (.bin .shr (.t 57) (.c (.int .u64 32))),ow 8 58]))))) (.reg [ot 59 (.bin .add (.x 30) (oi 1)),ow 30 59]))))))) (.reg [om 60 5,om 61 6,om 62 1,ot 63 (.len 1 (.t 62)),ot 64 (.bin .add (.t 61) (.t 63)),om 65 8,ot 66 (.conv .u32 (.t 65)),ot 67 (.iad 1 (.t 60) (.t 64)),on (.st (.t 67) (.t 66))]))))) (.reg [ot 68 (.bin .add (.x 23) (oi 1)),ow 23 68]))))))) (.seq (.reg [om 69 5,ot 70 (.call 139 [.t 69]),ow 4 70]) .ret)))))
def resnMul : List RV := [.t 4]
theorem nbnMul : fnnMul.nb = 0 := rfl
theorem isnMul : IsFn fnnMul 78 codenMul resnMul := .k Tryz.func78 rfl (by kernel_rfl)
noncomputable def fnnAdd : FnD := ⟨Tryz.prog,[0,1,4,5,6,7,8,9,18,25,26,27,28,35],[],58,false⟩
def codenAdd : DC := (.seq (.reg [ox 4 (.mv (.c .nils))]) (.seq (.reg [om 10 0,ot 11 (.call 112 [.t 10]),om 12 1,ot 13 (.call 112 [.t 12]),ow 0 11,ow 1 13]) (.seq (.seq (.reg [om 14 0,ot 15 (.len 1 (.t 14)),om 16 1,ot 17 (.len 1 (.t 16)),ox 18 (.bin .lss (.t 15) (.t 17))]) (.cond (.x 18) (.reg [om 19 1,om 20 0,ow 0 19,ow 1 20]) .skip)) (.seq (.reg [om 21 0,ot 22 (.len 1 (.t 21)),ot 23 (.bin .add (.t 22) (oi 1)),ot 24 (.mks 1 4 [(.int .u32 0)] (.t 23) (.t 23)),ow 5 24]) (.seq (.reg [ox 6 (.mv (.c (.int .u32 0)))]) (.seq (.seq (.reg [ox 25 (.mv (.x 0)),ox 26 (.len 1 (.x 25)),ox 27 (.mv (oi 0))]) (.block 0 (.loop (.seq (.reg [ox 28 (.bin .lss (.x 27) (.x 26))]) (.seq (.cond (.x 28) .skip (.exit 0)) (.seq (.block 1 (.seq (.reg [om 29 27,ot 30 (.iad 1 (.x 25) (.x 27)),ot 31 (.ld (.t 30)),ow 7 29,ow 8 31]) (.seq (.reg [ox 9 (.mv (.c (.int .u32 0)))]) (.seq (.seq (.reg [om 32 7,om 33 1,ot 34 (.len 1 (.t 33)),ox 35 (.bin .lss (.t 32) (.t 34))]) (.cond (.x 35) (.reg [om 36 1,om 37 7,ot 38 (.iad 1 (.t 36) (.t 37)),ot 39 (.ld (.t 38)),ow 9 39]) .skip)) (.reg [om 41 5,om 42 7,om 43 8,om 44 9,om 45 6,ot 46 (.call 141 [.t 43,.t 44,.t 45]),ot 40 (.mv (.t 46)),ot 47 (.ext (.t 40) 0),ot 48 (.ext (.t 40) 1),ot 49 (.iad 1 (.t 41) (.t 42)),on (.st (.t 49) (.t 47)),ow 6 48]))))) (.reg [ot 50 (.bin .add (.x 27) (oi 1)),ow 27 50]))))))) (.seq (.reg [om 51 5,om 52 0,ot 53 (.len 1 (.t 52)),om 54 6,ot 55 (.iad 1 (.t 51) (.t 53)),on (.st (.t 55) (.t 54))]) (.seq (.reg [om 56 5,ot 57 (.call 139 [.t 56]),ow 4 57]) .ret))))))))
def resnAdd : List RV := [.t 4]
theorem nbnAdd : fnnAdd.nb = 0 := rfl
theorem isnAdd : IsFn fnnAdd 82 codenAdd resnAdd := .k Tryz.func82 rfl (by kernel_rfl)
noncomputable def fnpAbs : FnD := ⟨Tryz.prog,[0,1,2,5],[],10,false⟩
def codepAbs : DC := (.seq (.reg [ox 1 (.box (.x 0)),ox 2 (.alloc [(.bool false),.nils,.nils])]) (.seq (.seq (.reg [ot 3 (.ldn 3 (.x 1)),ot 4 (.call 91 [.t 3]),ox 5 (.bin .lss (.t 4) (oi 0))]) (.cond (.x 5) (.seq (.reg [ot 6 (.ldn 3 (.x 1)),ot 7 (.call 71 [.t 6]),on (.stn 3 (.x 2) (.t 7))]) .ret) .skip)) (.seq (.reg [ot 8 (.ldn 3 (.x 1)),ot 9 (.call 64 [.t 8]),on (.stn 3 (.x 2) (.t 9))]) .ret)))
def respAbs : List RV := [.cn 3 2]
theorem nbpAbs : fnpAbs.nb = 0 := rfl
theorem ispAbs : IsFn fnpAbs 86 codepAbs respAbs := .k Tryz.func86 rfl (by kernel_rfl)
noncomputable def fnsAdd : FnD := ⟨Tryz.prog,[0,1,2,3,4,5,6,7,17,34],[],51,false⟩
def codesAdd : DC := (.seq (.reg [ox 2 (.box (.x 0)),ox 3 (.box (.x 1)),ox 4 (.alloc [(.bool false),.nils])]) (.seq (.regd [ot 9 (.ldn 2 (.x 2)),ot 10 (.call 118 [.t 9]),ot 11 (.ldn 2 (.x 3)),ot 12 (.call 118 [.t 11]),on (.stn 2 (.x 2) (.t 10)),on (.stn 2 (.x 3) (.t 12))]) (.seq (.seq (.reg [ot 13 (.fad 0 (.x 2)),ot 14 (.ld (.t 13)),ot 15 (.fad 0 (.x 3)),ot 16 (.ld (.t 15)),ox 17 (.beq false (.t 14) (.t 16))]) (.cond (.x 17) (.seq (.regd [ot 18 (.fad 0 (.x 2)),ot 19 (.ld (.t 18)),ot 20 (.fad 1 (.x 2)),ot 21 (.ld (.t 20)),ot 22 (.fad 1 (.x 3)),ot 23 (.ld (.t 22)),ot 24 (.call 106 [.t 21,.t 23]),ot 25 (.call 105 [.t 19,.t 24]),on (.stn 2 (.x 4) (.t 25))]) .ret) .skip)) (.seq (.seq (.reg [ot 27 (.fad 1 (.x 2)),ot 28 (.ld (.t 27)),ot 29 (.fad 1 (.x 3)),ot 30 (.ld (.t 29)),ot 31 (.call 145 [.t 28,.t 30]),ot 26 (.mv (.t 31)),ot 32 (.ext (.t 26) 0),ot 33 (.ext (.t 26) 1),ow 5 32,ow 6 33]) (.seq (.reg [ox 34 (.mv (.x 6))]) (.cond (.x 34) (.seq (.reg [ot 35 (.fad 0 (.x 2)),ot 36 (.ld (.t 35)),om 37 5,ot 38 (.call 105 [.t 36,.t 37]),on (.stn 2 (.x 4) (.t 38))]) .ret) .skip))) (.seq (.reg [ot 40 (.fad 1 (.x 3)),ot 41 (.ld (.t 40)),ot 42 (.fad 1 (.x 2)),ot 43 (.ld (.t 42)),ot 44 (.call 145 [.t 41,.t 43]),ot 39 (.mv (.t 44)),ot 45 (.ext (.t 39) 0),ot 46 (.ext (.t 39) 1),ow 7 45,ot 8 (.mv (.t 46))]) (.seq (.reg [ot 47 (.fad 0 (.x 3)),ot 48 (.ld (.t 47)),om 49 7,ot 50 (.call 105 [.t 48,.t 49]),on (.stn 2 (.x 4) (.t 50))]) .ret))))))
def ressAdd : List RV := [.cn 2 4]
theorem nbsAdd : fnsAdd.nb = 0 := rfl
theorem issAdd : IsFn fnsAdd 90 codesAdd ressAdd := .k Tryz.func90 rfl (by kernel_rfl)
noncomputable def fnsSame : FnD := ⟨Tryz.prog,[0,1,2,3,4],[],17,false⟩
def codesSame : DC := (.seq (.reg [ox 2 (.box (.x 0)),ox 3 (.box (.x 1)),ox 4 (.mv (.c (.bool false)))]) (.seq (.reg [ot 5 (.fad 0 (.x 2)),ot 6 (.ld (.t 5)),ot 7 (.fad 0 (.x 3)),ot 8 (.ld (.t 7)),ot 9 (.beq false (.t 6) (.t 8)),ot 10 (.mv (.t 9)),og 11 (.fad 1 (.x 2)) 10 true,og 12 (.ld (.t 11)) 10 true,og 13 (.fad 1 (.x 3)) 10 true,og 14 (.ld (.t 13)) 10 true,og 15 (.call 95 [.t 12,.t 14]) 10 true,ot 16 (.pick (.t 10) (.t 15) (.c (.bool false))),ow 4 16]) .ret))
def ressSame : List RV := [.t 4]
theorem nbsSame : fnsSame.nb = 0 := rfl
theorem issSame : IsFn fnsSame 94 codesSame ressSame := .k Tryz.func94 rfl (by kernel_rfl)
noncomputable def fnsNeg : FnD := ⟨Tryz.prog,[0,1,2],[],11,false⟩
def codesNeg : DC := (.seq (.reg [ox 1 (.box (.x 0)),ox 2 (.alloc [(.bool false),.nils])]) (.seq (.reg [ot 3 (.ldn 2 (.x 1)),ot 4 (.call 118 [.t 3]),on (.stn 2 (.x 1) (.t 4))]) (.seq (.reg [ot 5 (.fad 0 (.x 1)),ot 6 (.ld (.t 5)),ot 7 (.un .not (.t 6)),ot 8 (.fad 1 (.x 1)),ot 9 (.ld (.t 8)),ot 10 (.call 105 [.t 7,.t 9]),on (.stn 2 (.x 2) (.t 10))]) .ret)))
def ressNeg : List RV := [.cn 2 2]
theorem nbsNeg : fnsNeg.nb = 0 := rfl
theorem issNeg : IsFn fnsNeg 101 codesNeg ressNeg := .k Tryz.func101 rfl (by kernel_rfl)
noncomputable def fns_signed : FnD := ⟨Tryz.prog,[0,1,4],[],13,false⟩
def codes_signed : DC := (.seq (.reg [ox 4 (.alloc [(.bool false),.nils])]) (.seq (.reg [om 5 0,ot 6 (.mv (.t 5)),og 7 (.mv (.x 1)) 6 true,og 8 (.len 1 (.t 7)) 6 true,og 9 (.bin .gtr (.t 8) (oi 0)) 6 true,ot 10 (.pick (.t 6) (.t 9) (.c (.bool false))),om 11 1,ot 12 (.build [(.bool false),.nils] [(0,1,.t 10),(1,1,.t 11)]),on (.stn 2 (.x 4) (.t 12))]) .ret))
def ress_signed : List RV := [.cn 2 4]
theorem nbs_signed : fns_signed.nb = 0 := rfl
theorem iss_signed : IsFn fns_signed 105 codes_signed ress_signed := .k Tryz.func105 rfl (by kernel_rfl)
noncomputable def fni_value : FnD := ⟨Tryz.prog,[0,1,2,4],[],7,false⟩
def codei_value : DC := (.seq (.reg [ox 1 (.box (.x 0)),ox 2 (.alloc [(.bool false),.nils])]) (.seq (.seq (.reg [ot 3 (.ldn 2 (.x 1)),ox 4 (.call 154 [.t 3])]) (.cond (.x 4) (.seq (.reg [ot 5 (.ldn 2 (.x 1)),on (.stn 2 (.x 2) (.t 5))]) .ret) .skip)) (.seq (.reg [ot 6 (.build [(.bool false),.nils] []),on (.stn 2 (.x 2) (.t 6))]) .ret)))
def resi_value : List RV := [.cn 2 2]
theorem nbi_value : fni_value.nb = 0 := rfl
theorem isi_value : IsFn fni_value 110 codei_value resi_value := .k Tryz.func110 rfl (by kernel_rfl)
noncomputable def fnsTake : FnD := ⟨Tryz.prog,[0,1,2,5],[],13,false⟩
def codesTake : DC := (.seq (.reg [ox 1 (.box (.x 0)),ox 2 (.alloc [(.bool false),.nils])]) (.seq (.seq (.reg [ot 3 (.ldn 2 (.x 1)),ot 4 (.call 158 [.t 3]),ox 5 (.un .not (.t 4))]) (.cond (.x 5) (.seq (.reg [ot 6 (.build [(.bool false),.nils] []),on (.stn 2 (.x 2) (.t 6))]) .ret) .skip)) (.seq (.regd [ot 7 (.fad 0 (.x 1)),ot 8 (.ld (.t 7)),ot 9 (.fad 1 (.x 1)),ot 10 (.ld (.t 9)),ot 11 (.call 119 [.t 10]),ot 12 (.build [(.bool false),.nils] [(0,1,.t 8),(1,1,.t 11)]),on (.stn 2 (.x 2) (.t 12))]) .ret)))
def ressTake : List RV := [.cn 2 2]
theorem nbsTake : fnsTake.nb = 0 := rfl
theorem issTake : IsFn fnsTake 118 codesTake ressTake := .k Tryz.func118 rfl (by kernel_rfl)
noncomputable def fnq_digits : FnD := ⟨Tryz.prog,[0,2,4,6,7,8,9,17],[],21,false⟩
def codeq_digits : DC := (.seq (.reg [ox 2 (.mv (.c (.bool false)))]) (.seq (.seq (.reg [om 5 0,ox 6 (.s2b (.t 5)),ox 7 (.len 1 (.x 6)),ox 8 (.mv (oi 0))]) (.block 0 (.loop (.seq (.reg [ox 9 (.bin .lss (.x 8) (.x 7))]) (.seq (.cond (.x 9) .skip (.exit 0)) (.seq (.block 1 (.seq (.reg [ot 10 (.iad 1 (.x 6) (.x 8)),ot 11 (.ld (.t 10)),ow 4 11]) (.seq (.reg [om 12 4,ot 13 (.bin .lss (.t 12) (.c (.int .u8 48))),ot 14 (.mv (.t 13)),og 15 (.mv (.x 4)) 14 false,og 16 (.bin .gtr (.t 15) (.c (.int .u8 57))) 14 false,ox 17 (.pick (.t 14) (.c (.bool true)) (.t 16))]) (.cond (.x 17) (.seq (.reg [ox 2 (.mv (.c (.bool false)))]) .ret) .skip)))) (.reg [ot 18 (.bin .add (.x 8) (oi 1)),ow 8 18]))))))) (.seq (.reg [om 19 0,ot 20 (.bin .neq (.t 19) (.c (.str []))),ow 2 20]) .ret)))
def resq_digits : List RV := [.t 2]
theorem isq_digits : IsFn fnq_digits 128 codeq_digits resq_digits := .k Tryz.func128 rfl (by kernel_rfl)
noncomputable def fnp_digits : FnD := ⟨Tryz.prog,[0,2,3,7,19],[],23,false⟩
def codep_digits : DC := (.seq (.reg [ox 2 (.mv (.c (.bool false)))]) (.seq (.seq (.reg [ox 3 (.mv (oi 0))]) (.block 0 (.loop (.seq (.seq (.reg [om 4 3,om 5 0,ot 6 (.lenS (.t 5)),ox 7 (.bin .lss (.t 4) (.t 6))]) (.cond (.x 7) .skip (.exit 0))) (.seq (.block 1 (.seq (.reg [om 10 0,om 11 3,ot 12 (.idx (.t 10) (.t 11)),ot 13 (.bin .lss (.t 12) (.c (.int .u8 48))),ot 14 (.mv (.t 13)),og 15 (.mv (.x 0)) 14 false,og 16 (.mv (.x 3)) 14 false,og 17 (.idx (.t 15) (.t 16)) 14 false,og 18 (.bin .gtr (.t 17) (.c (.int .u8 57))) 14 false,ox 19 (.pick (.t 14) (.c (.bool true)) (.t 18))]) (.cond (.x 19) (.seq (.reg [ox 2 (.mv (.c (.bool false)))]) .ret) .skip))) (.reg [om 8 3,ot 9 (.bin .add (.t 8) (oi 1)),ow 3 9])))))) (.seq (.reg [om 20 0,ot 21 (.lenS (.t 20)),ot 22 (.bin .gtr (.t 21) (oi 0)),ow 2 22]) .ret)))
def resp_digits : List RV := [.t 2]
theorem isp_digits : IsFn fnp_digits 132 codep_digits resp_digits := .k Tryz.func132 rfl (by kernel_rfl)
noncomputable def fnnPower : FnD := ⟨Tryz.prog,[0,1,4,5,11,13,14,15],[],21,false⟩
def codenPower : DC := (.seq (.reg [ox 4 (.mv (.c .nils))]) (.seq (.seq (.reg [om 6 1,ot 7 (.bin .lss (.t 6) (oi 0)),ot 8 (.mv (.t 7)),og 9 (.mv (.x 1)) 8 false,og 10 (.bin .gtr (.t 9) (oi 64)) 8 false,ox 11 (.pick (.t 8) (.c (.bool true)) (.t 10))]) (.cond (.x 11) (.seq (.reg [ox 4 (.mv (.c .nils))]) .ret) .skip)) (.seq (.reg [ot 12 (.bsl 1 [(.int .u32 0)] [(0,1,(.c (.int .u32 1)))]),ow 5 12]) (.seq (.seq (.reg [ox 13 (.mv (.x 1)),ox 14 (.mv (oi 0))]) (.block 0 (.loop (.seq (.reg [ox 15 (.bin .lss (.x 14) (.x 13))]) (.seq (.cond (.x 15) .skip (.exit 0)) (.seq (.block 1 (.reg [om 16 5,om 17 0,ot 18 (.call 78 [.t 16,.t 17]),ow 5 18])) (.reg [ot 19 (.bin .add (.x 14) (oi 1)),ow 14 19]))))))) (.seq (.reg [om 20 5,ow 4 20]) .ret)))))
def resnPower : List RV := [.t 4]
theorem isnPower : IsFn fnnPower 140 codenPower resnPower := .k Tryz.func140 rfl (by kernel_rfl)
noncomputable def fnpAdd : FnD := ⟨Tryz.prog,[0,1,2,3,4],[],26,false⟩
def codepAdd : DC := (.seq (.reg [ox 2 (.box (.x 0)),ox 3 (.box (.x 1)),ox 4 (.alloc [(.bool false),.nils,.nils])]) (.seq (.regd [ot 5 (.ldn 3 (.x 2)),ot 6 (.call 64 [.t 5]),ot 7 (.ldn 3 (.x 3)),ot 8 (.call 64 [.t 7]),on (.stn 3 (.x 2) (.t 6)),on (.stn 3 (.x 3) (.t 8))]) (.seq (.regd [ot 9 (.fad 0 (.x 2)),ot 10 (.ldn 2 (.t 9)),ot 11 (.ldn 3 (.x 3)),ot 12 (.call 143 [.t 11]),ot 13 (.call 142 [.t 10,.t 12]),ot 14 (.fad 0 (.x 3)),ot 15 (.ldn 2 (.t 14)),ot 16 (.ldn 3 (.x 2)),ot 17 (.call 143 [.t 16]),ot 18 (.call 142 [.t 15,.t 17]),ot 19 (.call 90 [.t 13,.t 18]),ot 20 (.ldn 3 (.x 2)),ot 21 (.call 143 [.t 20]),ot 22 (.ldn 3 (.x 3)),ot 23 (.call 143 [.t 22]),ot 24 (.call 142 [.t 21,.t 23]),ot 25 (.call 58 [.t 19,.t 24]),on (.stn 3 (.x 4) (.t 25))]) .ret)))
def respAdd : List RV := [.cn 3 4]
theorem nbpAdd : fnpAdd.nb = 0 := rfl
theorem ispAdd : IsFn fnpAdd 144 codepAdd respAdd := .k Tryz.func144 rfl (by kernel_rfl)
noncomputable def fniValid : FnD := ⟨Tryz.prog,[0,1,2],[],17,false⟩
def codeiValid : DC := (.seq (.reg [ox 1 (.box (.x 0)),ox 2 (.mv (.c (.bool false)))]) (.seq (.reg [ot 3 (.fad 1 (.x 1)),ot 4 (.ld (.t 3)),ot 5 (.call 155 [.t 4]),ot 6 (.mv (.t 5)),og 7 (.fad 1 (.x 1)) 6 true,og 8 (.ld (.t 7)) 6 true,og 9 (.len 1 (.t 8)) 6 true,og 10 (.bin .gtr (.t 9) (oi 0)) 6 true,og 11 (.mv (.t 10)) 6 true,og 12 (.fad 0 (.x 1)) 11 false,og 13 (.ld (.t 12)) 11 false,og 14 (.un .not (.t 13)) 11 false,og 15 (.pick (.t 11) (.c (.bool true)) (.t 14)) 6 true,ot 16 (.pick (.t 6) (.t 15) (.c (.bool false))),ow 2 16]) .ret))
def resiValid : List RV := [.t 2]
theorem nbiValid : fniValid.nb = 0 := rfl
theorem isiValid : IsFn fniValid 154 codeiValid resiValid := .k Tryz.func154 rfl (by kernel_rfl)
noncomputable def fnrValid : FnD := ⟨Tryz.prog,[0,2],[],15,false⟩
def coderValid : DC := (.seq (.reg [ox 2 (.mv (.c (.bool false)))]) (.seq (.reg [om 3 0,ot 4 (.len 1 (.t 3)),ot 5 (.bin .eql (.t 4) (oi 0)),ot 6 (.mv (.t 5)),og 7 (.mv (.x 0)) 6 false,og 8 (.mv (.x 0)) 6 false,og 9 (.len 1 (.t 8)) 6 false,og 10 (.bin .sub (.t 9) (oi 1)) 6 false,og 11 (.iad 1 (.t 7) (.t 10)) 6 false,og 12 (.ld (.t 11)) 6 false,og 13 (.bin .neq (.t 12) (.c (.int .u32 0))) 6 false,ot 14 (.pick (.t 6) (.c (.bool true)) (.t 13)),ow 2 14]) .ret))
def resrValid : List RV := [.t 2]
theorem isrValid : IsFn fnrValid 159 coderValid resrValid := .k Tryz.func159 rfl (by kernel_rfl)
noncomputable def fnnUint : FnD := ⟨Tryz.prog,[0,2,3,4,5,10,11,12,13,14],[],27,false⟩
def codenUint : DC := (.seq (.reg [ox 2 (.mv (.c (.int .u64 0))),ox 3 (.mv (.c (.bool false)))]) (.seq (.reg [om 6 0,ot 7 (.call 112 [.t 6]),ow 0 7]) (.seq (.seq (.reg [om 8 0,ot 9 (.len 1 (.t 8)),ox 10 (.bin .gtr (.t 9) (oi 2))]) (.cond (.x 10) (.seq (.reg [ox 2 (.mv (.c (.int .u64 0))),ox 3 (.mv (.c (.bool false)))]) .ret) .skip)) (.seq (.seq (.reg [ox 11 (.mv (.x 0)),ox 12 (.len 1 (.x 11)),ox 13 (.mv (oi 0))]) (.block 0 (.loop (.seq (.reg [ox 14 (.bin .lss (.x 13) (.x 12))]) (.seq (.cond (.x 14) .skip (.exit 0)) (.seq (.block 1 (.seq (.reg [om 15 13,ot 16 (.iad 1 (.x 11) (.x 13)),ot 17 (.ld (.t 16)),ow 4 15,ow 5 17]) (.reg [om 18 2,om 19 5,ot 20 (.conv .u64 (.t 19)),om 21 4,ot 22 (.bin .mul (oi 32) (.t 21)),ot 23 (.bin .shl (.t 20) (.t 22)),ot 24 (.bin .or (.t 18) (.t 23)),ow 2 24]))) (.reg [ot 25 (.bin .add (.x 13) (oi 1)),ow 13 25]))))))) (.seq (.reg [om 26 2,ow 2 26,ox 3 (.mv (.c (.bool true)))]) .ret)))))
def resnUint : List RV := [.t 2, .t 3]
theorem isnUint : IsFn fnnUint 167 codenUint resnUint := .k Tryz.func167 rfl (by kernel_rfl)
noncomputable def fnnGuess : FnD := ⟨Tryz.prog,[0,1,2,3,4,10,11,12,13,45],[],53,false⟩
def codenGuess : DC := (.seq (.reg [ox 10 (.mv (.c (.int .u64 0)))]) (.seq (.reg [om 14 0,ot 15 (.conv .u64 (.t 14)),ot 16 (.bin .shl (.t 15) (.c (.int .u64 32))),om 17 1,ot 18 (.conv .u64 (.t 17)),ot 19 (.bin .or (.t 16) (.t 18)),ow 11 19]) (.seq (.regd [om 20 11,om 21 3,ot 22 (.conv .u64 (.t 21)),ot 23 (.bin .quo (.t 20) (.t 22)),om 24 11,om 25 3,ot 26 (.conv .u64 (.t 25)),ot 27 (.bin .rem (.t 24) (.t 26)),ow 12 23,ow 13 27]) (.seq (.block 0 (.loop (.seq (.seq (.reg [om 28 13,ot 29 (.bin .lss (.t 28) (.c (.int .u64 4294967296))),ot 30 (.mv (.t 29)),og 31 (.mv (.x 12)) 30 true,og 32 (.bin .geq (.t 31) (.c (.int .u64 4294967296))) 30 true,og 33 (.mv (.t 32)) 30 true,og 34 (.mv (.x 12)) 33 false,og 35 (.mv (.x 4)) 33 false,og 36 (.conv .u64 (.t 35)) 33 false,og 37 (.bin .mul (.t 34) (.t 36)) 33 false,og 38 (.mv (.x 13)) 33 false,og 39 (.bin .shl (.t 38) (.c (.int .u64 32))) 33 false,og 40 (.mv (.x 2)) 33 false,og 41 (.conv .u64 (.t 40)) 33 false,og 42 (.bin .or (.t 39) (.t 41)) 33 false,og 43 (.bin .gtr (.t 37) (.t 42)) 33 false,og 44 (.pick (.t 33) (.c (.bool true)) (.t 43)) 30 true,ox 45 (.pick (.t 30) (.t 44) (.c (.bool false)))]) (.cond (.x 45) .skip (.exit 0))) (.block 1 (.seq (.reg [om 46 12,ot 47 (.bin .sub (.t 46) (.c (.int .u64 1))),ow 12 47]) (.reg [om 48 13,om 49 3,ot 50 (.conv .u64 (.t 49)),ot 51 (.bin .add (.t 48) (.t 50)),ow 13 51])))))) (.seq (.reg [om 52 12,ow 10 52]) .ret)))))
def resnGuess : List RV := [.t 10]
theorem isnGuess : IsFn fnnGuess 172 codenGuess resnGuess := .k Tryz.func172 rfl (by kernel_rfl)
noncomputable def fnLen32 : FnD := ⟨Tryz.prog,[0,2,4,8],[],19,false⟩
def codeLen32 : DC := (.seq (.reg [ox 2 (.mv (oi 0))]) (.seq (.seq (.reg [om 3 0,ox 4 (.bin .geq (.t 3) (.c (.int .u32 65536)))]) (.cond (.x 4) (.seq (.reg [om 5 0,ot 6 (.bin .shr (.t 5) (.c (.int .u64 16))),ow 0 6]) (.reg [ox 2 (.mv (oi 16))])) .skip)) (.seq (.seq (.reg [om 7 0,ox 8 (.bin .geq (.t 7) (.c (.int .u32 256)))]) (.cond (.x 8) (.seq (.reg [om 9 0,ot 10 (.bin .shr (.t 9) (.c (.int .u64 8))),ow 0 10]) (.reg [om 11 2,ot 12 (.bin .add (.t 11) (oi 8)),ow 2 12])) .skip)) (.seq (.reg [om 13 2,om 14 0,ot 15 (.conv .u8 (.t 14)),ot 16 (.idx (.c (.str [0,1,2,2,3,3,3,3,4,4,4,4,4,4,4,4,5,5,5,5,5,5,5,5,5,5,5,5,5,5,5,5,6,6,6,6,6,6,6,6,6,6,6,6,6,6,6,6,6,6,6,6,6,6,6,6,6,6,6,6,6,6,6,6,7,7,7,7,7,7,7,7,7,7,7,7,7,7,7,7,7,7,7,7,7,7,7,7,7,7,7,7,7,7,7,7,7,7,7,7,7,7,7,7,7,7,7,7,7,7,7,7,7,7,7,7,7,7,7,7,7,7,7,7,7,7,7,7,8,8,8,8,8,8,8,8,8,8,8,8,8,8,8,8,8,8,8,8,8,8,8,8,8,8,8,8,8,8,8,8,8,8,8,8,8,8,8,8,8,8,8,8,8,8,8,8,8,8,8,8,8,8,8,8,8,8,8,8,8,8,8,8,8,8,8,8,8,8,8,8,8,8,8,8,8,8,8,8,8,8,8,8,8,8,8,8,8,8,8,8,8,8,8,8,8,8,8,8,8,8,8,8,8,8,8,8,8,8,8,8,8,8,8,8,8,8,8,8,8,8,8,8,8,8,8,8])) (.t 15)),ot 17 (.conv .i64 (.t 16)),ot 18 (.bin .add (.t 13) (.t 17)),ow 2 18]) .ret))))
def resLen32 : List RV := [.t 2]
theorem isLen32 : IsFn fnLen32 189 codeLen32 resLen32 := .k Tryz.func189 rfl (by kernel_rfl)
noncomputable def fnwOdd : FnD := ⟨Tryz.prog,[0,2,3,7,8,12,22,26],[],33,false⟩
def codewOdd : DC := (.seq (.reg [ox 2 (.alloc [(.bool false),.nils,.nils])]) (.seq (.reg [om 4 0,ot 5 (.call 10 [.t 4]),ox 3 (.alloc [(.bool false),.nils,.nils]),on (.stn 3 (.x 3) (.t 5))]) (.seq (.seq (.reg [om 6 0,ox 7 (.call 14 [.t 6,(oi 24)])]) (.block 0 (.seq (.reg [ot 9 (.bin .eql (.x 7) (oi 20)),ow 8 9]) (.cond (.x 8) (.reg [ot 10 (.bsl 1 [(.int .u32 0)] [(0,1,(.c (.int .u32 1)))]),ot 11 (.fad 2 (.x 3)),on (.st (.t 11) (.t 10))]) (.seq (.reg [ot 13 (.bin .eql (.x 7) (oi 21)),ow 12 13]) (.cond (.x 12) (.reg [ot 14 (.fad 0 (.x 3)),ot 15 (.fad 1 (.t 14)),ot 16 (.ld (.t 15)),ot 17 (.app 66 1 4 (.c .nils) (.t 16)),ot 18 (.bsl 1 [(.int .u32 0)] [(0,1,(.c (.int .u32 0)))]),ot 19 (.app 66 1 4 (.t 17) (.t 18)),ot 20 (.fad 0 (.x 3)),ot 21 (.fad 1 (.t 20)),on (.st (.t 21) (.t 19))]) (.seq (.reg [ot 23 (.bin .eql (.x 7) (oi 22)),ow 22 23]) (.cond (.x 22) (.seq (.reg [ot 24 (.build [(.bool false),.nils] [(0,1,(.c (.bool true)))]),ot 25 (.build [(.bool false),.nils,.nils] [(0,2,.t 24)]),on (.stn 3 (.x 2) (.t 25))]) .ret) (.seq (.reg [ot 27 (.bin .eql (.x 7) (oi 23)),ow 26 27]) (.cond (.x 26) (.seq (.reg [ot 28 (.bsl 1 [(.int .u32 0)] [(0,1,(.c (.int .u32 2)))]),ot 29 (.build [(.bool false),.nils] [(1,1,.t 28)]),ot 30 (.bsl 1 [(.int .u32 0)] [(0,1,(.c (.int .u32 4)))]),ot 31 (.build [(.bool false),.nils,.nils] [(0,2,.t 29),(2,1,.t 30)]),on (.stn 3 (.x 2) (.t 31))]) .ret) .skip)))))))))) (.seq (.reg [ot 32 (.ldn 3 (.x 3)),on (.stn 3 (.x 2) (.t 32))]) .ret))))
def reswOdd : List RV := [.cn 3 2]
theorem iswOdd : IsFn fnwOdd 9 codewOdd reswOdd := .k Tryz.func9 rfl (by kernel_rfl)
noncomputable def fnwPick : FnD := ⟨Tryz.prog,[0,1,4],[],12,false⟩
def codewPick : DC := (.seq (.reg [ox 4 (.mv (oi 0))]) (.seq (.reg [om 5 1,om 6 0,om 7 1,ot 8 (.len 1 (.t 7)),ot 9 (.call 14 [.t 6,.t 8]),ot 10 (.iad 1 (.t 5) (.t 9)),ot 11 (.ld (.t 10)),ow 4 11]) .ret))
def reswPick : List RV := [.t 4]
theorem iswPick : IsFn fnwPick 21 codewPick reswPick := .k Tryz.func21 rfl (by kernel_rfl)
noncomputable def fnreReadCoefs : FnD := ⟨Tryz.prog,[0,2,3,4,5,6,8,9,10,11,12,13,15,16,17,18,23,32,45,61],[6000040],64,false⟩
def codereReadCoefs : DC := (.seq (.reg [ox 2 (.mv (.c .nils)),ox 3 (.mv (.c .nils)),ox 4 (.mv (oi 0))]) (.seq (.reg [ox 5 (.mv (.c .nils))]) (.seq (.reg [ox 6 (.mv (.c .nils))]) (.seq (.seq (.reg [om 14 0,ox 15 (.call 47 [.t 14]),ox 16 (.len 1 (.x 15)),ox 17 (.mv (oi 0))]) (.block 0 (.loop (.seq (.reg [ox 18 (.bin .lss (.x 17) (.x 16))]) (.seq (.cond (.x 18) .skip (.exit 0)) (.seq (.block 1 (.seq (.reg [ot 19 (.iad 1 (.x 15) (.x 17)),ot 20 (.ld (.t 19)),ow 8 20]) (.seq (.seq (.reg [om 21 8,ot 22 (.len 1 (.t 21)),ox 23 (.bin .neq (.t 22) (oi 3))]) (.cond (.x 23) (.seq (.reg [ox 2 (.mv (.c .nils)),ox 3 (.mv (.c .nils)),ox 4 (.mv (oi 3))]) .ret) .skip)) (.seq (.reg [om 25 8,ot 26 (.iad 1 (.t 25) (oi 1)),ot 27 (.ld (.t 26)),ot 28 (.call 48 [.t 27]),ot 24 (.mv (.t 28)),ot 29 (.ext (.t 24) 0),ot 30 (.ext (.t 24) 1),ox 9 (.alloc [(.bool false),.nils,.nils]),on (.stn 3 (.x 9) (.t 29)),ow 10 30]) (.seq (.seq (.reg [om 31 10,ox 32 (.un .not (.t 31))]) (.cond (.x 32) (.seq (.reg [ox 2 (.mv (.c .nils)),ox 3 (.mv (.c .nils)),ox 4 (.mv (oi 3))]) .ret) .skip)) (.regd [om 33 5,om 34 8,ot 35 (.iad 1 (.t 34) (oi 0)),ot 36 (.ld (.t 35)),ot 37 (.bsl 1 [(.str [])] [(0,1,.t 36)]),ot 38 (.app 9 1 16 (.t 33) (.t 37)),om 39 6,ot 40 (.ldnr 3 (.x 9)),ot 41 (.bsl 3 [(.bool false),.nils,.nils] [(0,3,.t 40)]),ot 42 (.app 27 3 56 (.t 39) (.t 41)),ow 5 38,ow 6 42])))))) (.reg [ot 43 (.bin .add (.x 17) (oi 1)),ow 17 43]))))))) (.seq (.seq (.reg [ox 11 (.mv (oi 0))]) (.block 2 (.loop (.seq (.seq (.reg [om 44 11,ox 45 (.bin .leq (.t 44) (oi 20))]) (.cond (.x 45) .skip (.exit 2))) (.seq (.block 3 (.seq (.reg [om 49 5,om 50 6,om 51 11,ot 52 (.call 23 [.t 49,.t 50,.t 51]),ot 48 (.mv (.t 52)),ot 53 (.ext (.t 48) 0),ot 54 (.ext (.t 48) 1),ow 12 53,ow 13 54]) (.seq (.reg [om 55 13,ot 56 (.bin .eql (.t 55) (oi 0)),ot 57 (.mv (.t 56)),og 58 (.mv (.x 12)) 57 true,og 59 (.mv (.x 0)) 57 true,og 60 (.bin .eql (.t 58) (.t 59)) 57 true,ox 61 (.pick (.t 57) (.t 60) (.c (.bool false)))]) (.cond (.x 61) (.seq (.reg [om 62 5,om 63 6,ow 2 62,ow 3 63,ox 4 (.mv (oi 0))]) .ret) .skip)))) (.reg [om 46 11,ot 47 (.bin .add (.t 46) (oi 1)),ow 11 47])))))) (.seq (.reg [ox 2 (.mv (.c .nils)),ox 3 (.mv (.c .nils)),ox 4 (.mv (oi 3))]) .ret))))))
def resreReadCoefs : List RV := [.t 2, .t 3, .t 4]
theorem isreReadCoefs : IsFn fnreReadCoefs 25 codereReadCoefs resreReadCoefs := .k Tryz.func25 rfl (by kernel_rfl)
noncomputable def fnrpColumns : FnD := ⟨Tryz.prog,[0,2,3,4,6,7,9,10,11,12,14,15,16,24,29,30,31,32,46,50,51,52,53,56,57,58,59,65,78,79,80,81,84,85,86,87,92],[],109,false⟩
def coderpColumns : DC := (.seq (.reg [ox 2 (.mv (.c (.str []))),ox 3 (.mv (oi 0))]) (.seq (.seq (.reg [om 17 0,ot 18 (.len 1 (.t 17)),ot 19 (.bin .lss (.t 18) (oi 1)),ot 20 (.mv (.t 19)),og 21 (.mv (.x 0)) 20 false,og 22 (.len 1 (.t 21)) 20 false,og 23 (.bin .gtr (.t 22) (oi 1024)) 20 false,ox 24 (.pick (.t 20) (.c (.bool true)) (.t 23))]) (.cond (.x 24) (.seq (.reg [ox 2 (.mv (.c (.str []))),ox 3 (.mv (oi 6))]) .ret) .skip)) (.seq (.reg [om 25 0,ot 26 (.iad 1 (.t 25) (oi 0)),ot 27 (.ld (.t 26)),ot 28 (.len 1 (.t 27)),ow 4 28]) (.seq (.seq (.reg [ox 29 (.mv (.x 0)),ox 30 (.len 1 (.x 29)),ox 31 (.mv (oi 0))]) (.block 0 (.loop (.seq (.reg [ox 32 (.bin .lss (.x 31) (.x 30))]) (.seq (.cond (.x 32) .skip (.exit 0)) (.seq (.block 1 (.seq (.reg [ot 33 (.iad 1 (.x 29) (.x 31)),ot 34 (.ld (.t 33)),ow 6 34]) (.seq (.reg [om 35 6,ot 36 (.len 1 (.t 35)),om 37 4,ot 38 (.bin .neq (.t 36) (.t 37)),ot 39 (.mv (.t 38)),og 40 (.mv (.x 4)) 39 false,og 41 (.bin .lss (.t 40) (oi 1)) 39 false,ot 42 (.pick (.t 39) (.c (.bool true)) (.t 41)),ot 43 (.mv (.t 42)),og 44 (.mv (.x 4)) 43 false,og 45 (.bin .gtr (.t 44) (oi 32)) 43 false,ox 46 (.pick (.t 43) (.c (.bool true)) (.t 45))]) (.cond (.x 46) (.seq (.reg [ox 2 (.mv (.c (.str []))),ox 3 (.mv (oi 6))]) .ret) .skip)))) (.reg [ot 47 (.bin .add (.x 31) (oi 1)),ow 31 47]))))))) (.seq (.reg [om 48 4,ot 49 (.mks 1 8 [(.int .i64 0)] (.t 48) (.t 48)),ow 7 49]) (.seq (.seq (.reg [ox 50 (.mv (.x 0)),ox 51 (.len 1 (.x 50)),ox 52 (.mv (oi 0))]) (.block 2 (.loop (.seq (.reg [ox 53 (.bin .lss (.x 52) (.x 51))]) (.seq (.cond (.x 53) .skip (.exit 2)) (.seq (.block 3 (.seq (.reg [ot 54 (.iad 1 (.x 50) (.x 52)),ot 55 (.ld (.t 54)),ow 9 55]) (.seq (.reg [ox 56 (.mv (.x 9)),ox 57 (.len 1 (.x 56)),ox 58 (.mv (oi 0))]) (.block 4 (.loop (.seq (.reg [ox 59 (.bin .lss (.x 58) (.x 57))]) (.seq (.cond (.x 59) .skip (.exit 4)) (.seq (.block 5 (.seq (.reg [om 60 58,ot 61 (.iad 1 (.x 56) (.x 58)),ot 62 (.ld (.t 61)),ow 10 60,ow 11 62]) (.seq (.seq (.reg [om 63 11,ot 64 (.call 54 [.t 63]),ox 65 (.un .not (.t 64))]) (.cond (.x 65) (.seq (.reg [ox 2 (.mv (.c (.str []))),ox 3 (.mv (oi 4))]) .ret) .skip)) (.reg [om 66 7,om 67 10,om 68 7,om 69 10,ot 70 (.iad 1 (.t 68) (.t 69)),ot 71 (.ld (.t 70)),om 72 11,ot 73 (.lenS (.t 72)),ot 74 (.max2 (.t 71) (.t 73)),ot 75 (.iad 1 (.t 66) (.t 67)),on (.st (.t 75) (.t 74))])))) (.reg [ot 76 (.bin .add (.x 58) (oi 1)),ow 58 76]))))))))) (.reg [ot 77 (.bin .add (.x 52) (oi 1)),ow 52 77]))))))) (.seq (.reg [ox 12 (.alloc [.nilp,.nils])]) (.seq (.seq (.reg [ox 78 (.mv (.x 0)),ox 79 (.len 1 (.x 78)),ox 80 (.mv (oi 0))]) (.block 6 (.loop (.seq (.reg [ox 81 (.bin .lss (.x 80) (.x 79))]) (.seq (.cond (.x 81) .skip (.exit 6)) (.seq (.block 7 (.seq (.reg [ot 82 (.iad 1 (.x 78) (.x 80)),ot 83 (.ld (.t 82)),ow 14 83]) (.seq (.seq (.reg [ox 84 (.mv (.x 14)),ox 85 (.len 1 (.x 84)),ox 86 (.mv (oi 0))]) (.block 8 (.loop (.seq (.reg [ox 87 (.bin .lss (.x 86) (.x 85))]) (.seq (.cond (.x 87) .skip (.exit 8)) (.seq (.block 9 (.seq (.reg [om 88 86,ot 89 (.iad 1 (.x 84) (.x 86)),ot 90 (.ld (.t 89)),ow 15 88,ow 16 90]) (.seq (.seq (.reg [om 91 15,ox 92 (.bin .gtr (.t 91) (oi 0))]) (.cond (.x 92) (.reg [ot 93 (.call 37 [.x 12,(.c (.str [32,32]))])]) .skip)) (.seq (.reg [om 94 7,om 95 15,ot 96 (.iad 1 (.t 94) (.t 95)),ot 97 (.ld (.t 96)),om 98 16,ot 99 (.lenS (.t 98)),ot 100 (.bin .sub (.t 97) (.t 99)),ot 101 (.call 55 [(.c (.str [32])),.t 100]),ot 102 (.call 37 [.x 12,.t 101])]) (.reg [om 103 16,ot 104 (.call 37 [.x 12,.t 103])]))))) (.reg [ot 105 (.bin .add (.x 86) (oi 1)),ow 86 105]))))))) (.reg [ot 106 (.call 56 [.x 12,(.c (.int .u8 10))])])))) (.reg [ot 107 (.bin .add (.x 80) (oi 1)),ow 80 107]))))))) (.seq (.reg [ot 108 (.call 40 [.x 12]),ow 2 108,ox 3 (.mv (oi 0))]) .ret)))))))))
def resrpColumns : List RV := [.t 2, .t 3]
theorem nbrpColumns : fnrpColumns.nb = 0 := rfl
noncomputable def fnmdLight : FnD := ⟨Tryz.prog,[0,1,2],[],14,false⟩
def codemdLight : DC := (.seq (.reg [ox 1 (.box (.x 0)),ox 2 (.mv (.c (.bool false)))]) (.seq (.reg [ot 3 (.fad 0 (.x 1)),ot 4 (.fad 1 (.t 3)),ot 5 (.ld (.t 4)),ot 6 (.len 1 (.t 5)),ot 7 (.bin .leq (.t 6) (oi 8)),ot 8 (.mv (.t 7)),og 9 (.fad 2 (.x 1)) 8 true,og 10 (.ld (.t 9)) 8 true,og 11 (.len 1 (.t 10)) 8 true,og 12 (.bin .leq (.t 11) (oi 8)) 8 true,ot 13 (.pick (.t 8) (.t 12) (.c (.bool false))),ow 2 13]) .ret))
def resmdLight : List RV := [.t 2]
theorem nbmdLight : fnmdLight.nb = 0 := rfl
theorem ismdLight : IsFn fnmdLight 33 codemdLight resmdLight := .k Tryz.func33 rfl (by kernel_rfl)
noncomputable def fnpFormat : FnD := ⟨Tryz.prog,[0,1,2,8],[],20,false⟩
def codepFormat : DC := (.seq (.reg [ox 1 (.box (.x 0)),ox 2 (.mv (.c (.str [])))]) (.seq (.reg [ot 3 (.ldn 3 (.x 1)),ot 4 (.call 64 [.t 3]),on (.stn 3 (.x 1) (.t 4))]) (.seq (.seq (.reg [ot 5 (.fad 2 (.x 1)),ot 6 (.ld (.t 5)),ot 7 (.len 1 (.t 6)),ox 8 (.bin .eql (.t 7) (oi 0))]) (.cond (.x 8) (.seq (.reg [ot 9 (.fad 0 (.x 1)),ot 10 (.ldn 2 (.t 9)),ot 11 (.call 65 [.t 10]),ow 2 11]) .ret) .skip)) (.seq (.regd [ot 12 (.fad 0 (.x 1)),ot 13 (.ldn 2 (.t 12)),ot 14 (.call 65 [.t 13]),ot 15 (.bin .add (.t 14) (.c (.str [47]))),ot 16 (.fad 2 (.x 1)),ot 17 (.ld (.t 16)),ot 18 (.call 66 [.t 17]),ot 19 (.bin .add (.t 15) (.t 18)),ow 2 19]) .ret))))
def respFormat : List RV := [.t 2]
theorem nbpFormat : fnpFormat.nb = 0 := rfl
theorem ispFormat : IsFn fnpFormat 42 codepFormat respFormat := .k Tryz.func42 rfl (by kernel_rfl)
noncomputable def fnqParse : FnD := ⟨Tryz.prog,[0,2,3,4,5,6,19],[],31,false⟩
def codeqParse : DC := (.seq (.reg [ox 2 (.alloc [(.bool false),.nils,.nils]),ox 3 (.mv (.c (.bool false)))]) (.seq (.reg [om 8 0,ot 9 (.call 45 [.t 8,(.c (.str [45]))]),ot 7 (.mv (.t 9)),ot 10 (.ext (.t 7) 0),ot 11 (.ext (.t 7) 1),ow 0 10,ow 4 11]) (.seq (.reg [om 13 0,ot 14 (.call 69 [.t 13]),ot 12 (.mv (.t 14)),ot 15 (.ext (.t 12) 0),ot 16 (.ext (.t 12) 1),ot 17 (.ext (.t 12) 2),ow 5 15,ow 6 16,ow 3 17]) (.seq (.seq (.reg [om 18 3,ox 19 (.un .not (.t 18))]) (.cond (.x 19) (.seq (.reg [ot 20 (.build [(.bool false),.nils,.nils] []),on (.stn 3 (.x 2) (.t 20)),ox 3 (.mv (.c (.bool false)))]) .ret) .skip)) (.seq (.reg [om 21 4,ot 22 (.mv (.t 21)),og 23 (.mv (.x 5)) 22 true,og 24 (.len 1 (.t 23)) 22 true,og 25 (.bin .gtr (.t 24) (oi 0)) 22 true,ot 26 (.pick (.t 22) (.t 25) (.c (.bool false))),om 27 5,ot 28 (.build [(.bool false),.nils] [(0,1,.t 26),(1,1,.t 27)]),om 29 6,ot 30 (.call 70 [.t 28,.t 29]),on (.stn 3 (.x 2) (.t 30)),ox 3 (.mv (.c (.bool true)))]) .ret)))))
def resqParse : List RV := [.cn 3 2, .t 3]
theorem nbqParse : fnqParse.nb = 0 := rfl
theorem isqParse : IsFn fnqParse 46 codeqParse resqParse := .k Tryz.func46 rfl (by kernel_rfl)
noncomputable def fnqDecimal : FnD := ⟨Tryz.prog,[0,1,2,4,5,6,8,9,10,16,55,67,73,95],[],99,false⟩
def codeqDecimal : DC := (.seq (.reg [ox 2 (.box (.x 0)),ox 4 (.mv (.c (.str [])))]) (.seq (.seq (.reg [om 11 1,ot 12 (.bin .lss (.t 11) (oi 0)),ot 13 (.mv (.t 12)),og 14 (.mv (.x 1)) 13 false,og 15 (.bin .gtr (.t 14) (oi 100)) 13 false,ox 16 (.pick (.t 13) (.c (.bool true)) (.t 15))]) (.cond (.x 16) (.seq (.reg [ox 4 (.mv (.c (.str [])))]) .ret) .skip)) (.seq (.reg [ot 17 (.ldn 3 (.x 2)),ot 18 (.call 61 [.t 17]),on (.stn 3 (.x 2) (.t 18))]) (.seq (.regd [ot 20 (.fad 0 (.x 2)),ot 21 (.fad 1 (.t 20)),ot 22 (.ld (.t 21)),om 23 1,ot 24 (.call 79 [.t 23]),ot 25 (.call 78 [.t 22,.t 24]),ot 26 (.ldn 3 (.x 2)),ot 27 (.call 80 [.t 26]),ot 28 (.call 77 [.t 25,.t 27]),ot 19 (.mv (.t 28)),ot 29 (.ext (.t 19) 0),ot 30 (.ext (.t 19) 1),ot 31 (.ext (.t 19) 2),ow 5 29,ow 6 30,ot 7 (.mv (.t 31))]) (.seq (.regd [om 32 6,om 33 6,ot 34 (.call 82 [.t 32,.t 33]),ot 35 (.ldn 3 (.x 2)),ot 36 (.call 80 [.t 35]),ot 37 (.call 81 [.t 34,.t 36]),ow 8 37]) (.seq (.seq (.reg [om 38 8,ot 39 (.bin .gtr (.t 38) (oi 0)),ot 40 (.mv (.t 39)),og 41 (.mv (.x 8)) 40 false,og 42 (.bin .eql (.t 41) (oi 0)) 40 false,og 43 (.mv (.t 42)) 40 false,og 44 (.mv (.x 5)) 43 true,og 45 (.len 1 (.t 44)) 43 true,og 46 (.bin .gtr (.t 45) (oi 0)) 43 true,og 47 (.pick (.t 43) (.t 46) (.c (.bool false))) 40 false,og 48 (.mv (.t 47)) 40 false,og 49 (.mv (.x 5)) 48 true,og 50 (.iad 1 (.t 49) (oi 0)) 48 true,og 51 (.ld (.t 50)) 48 true,og 52 (.bin .rem (.t 51) (.c (.int .u32 2))) 48 true,og 53 (.bin .eql (.t 52) (.c (.int .u32 1))) 48 true,og 54 (.pick (.t 48) (.t 53) (.c (.bool false))) 40 false,ox 55 (.pick (.t 40) (.c (.bool true)) (.t 54))]) (.cond (.x 55) (.reg [om 56 5,ot 57 (.call 83 []),ot 58 (.call 82 [.t 56,.t 57]),ow 5 58]) .skip)) (.seq (.reg [om 59 5,ot 60 (.call 63 [.t 59]),ow 9 60]) (.seq (.seq (.reg [om 61 1,ot 62 (.bin .add (.t 61) (oi 1)),om 63 9,ot 64 (.lenS (.t 63)),ot 65 (.bin .sub (.t 62) (.t 64)),ow 10 65]) (.seq (.reg [om 66 10,ox 67 (.bin .gtr (.t 66) (oi 0))]) (.cond (.x 67) (.reg [om 68 10,ot 69 (.call 55 [(.c (.str [48])),.t 68]),om 70 9,ot 71 (.bin .add (.t 69) (.t 70)),ow 9 71]) .skip))) (.seq (.seq (.reg [om 72 1,ox 73 (.bin .gtr (.t 72) (oi 0))]) (.cond (.x 73) (.regd [om 74 9,om 75 9,ot 76 (.lenS (.t 75)),om 77 1,ot 78 (.bin .sub (.t 76) (.t 77)),ot 79 (.slcS (.t 74) none (some (.t 78))),ot 80 (.bin .add (.t 79) (.c (.str [46]))),om 81 9,om 82 9,ot 83 (.lenS (.t 82)),om 84 1,ot 85 (.bin .sub (.t 83) (.t 84)),ot 86 (.slcS (.t 81) (some (.t 85)) none),ot 87 (.bin .add (.t 80) (.t 86)),ow 9 87]) .skip)) (.seq (.seq (.reg [ot 88 (.fad 0 (.x 2)),ot 89 (.fad 0 (.t 88)),ot 90 (.ld (.t 89)),ot 91 (.mv (.t 90)),og 92 (.mv (.x 5)) 91 true,og 93 (.len 1 (.t 92)) 91 true,og 94 (.bin .gtr (.t 93) (oi 0)) 91 true,ox 95 (.pick (.t 91) (.t 94) (.c (.bool false)))]) (.cond (.x 95) (.reg [om 96 9,ot 97 (.bin .add (.c (.str [45])) (.t 96)),ow 9 97]) .skip)) (.seq (.reg [om 98 9,ow 4 98]) .ret)))))))))))
def resqDecimal : List RV := [.t 4]
theorem nbqDecimal : fnqDecimal.nb = 0 := rfl
theorem isqDecimal : IsFn fnqDecimal 50 codeqDecimal resqDecimal := .k Tryz.func50 rfl (by kernel_rfl)
noncomputable def fnrpCell : FnD := ⟨Tryz.prog,[0,2,3,7,19],[],28,false⟩
def coderpCell : DC := (.seq (.reg [ox 2 (.mv (.c (.bool false)))]) (.seq (.seq (.reg [ox 3 (.mv (oi 0))]) (.block 0 (.loop (.seq (.seq (.reg [om 4 3,om 5 0,ot 6 (.lenS (.t 5)),ox 7 (.bin .lss (.t 4) (.t 6))]) (.cond (.x 7) .skip (.exit 0))) (.seq (.block 1 (.seq (.reg [om 10 0,om 11 3,ot 12 (.idx (.t 10) (.t 11)),ot 13 (.bin .lss (.t 12) (.c (.int .u8 33))),ot 14 (.mv (.t 13)),og 15 (.mv (.x 0)) 14 false,og 16 (.mv (.x 3)) 14 false,og 17 (.idx (.t 15) (.t 16)) 14 false,og 18 (.bin .gtr (.t 17) (.c (.int .u8 126))) 14 false,ox 19 (.pick (.t 14) (.c (.bool true)) (.t 18))]) (.cond (.x 19) (.seq (.reg [ox 2 (.mv (.c (.bool false)))]) .ret) .skip))) (.reg [om 8 3,ot 9 (.bin .add (.t 8) (oi 1)),ow 3 9])))))) (.seq (.reg [om 20 0,ot 21 (.lenS (.t 20)),ot 22 (.bin .geq (.t 21) (oi 1)),ot 23 (.mv (.t 22)),og 24 (.mv (.x 0)) 23 true,og 25 (.lenS (.t 24)) 23 true,og 26 (.bin .leq (.t 25) (oi 32)) 23 true,ot 27 (.pick (.t 23) (.t 26) (.c (.bool false))),ow 2 27]) .ret)))
def resrpCell : List RV := [.t 2]
theorem isrpCell : IsFn fnrpCell 54 coderpCell resrpCell := .k Tryz.func54 rfl (by kernel_rfl)
noncomputable def fnq_value : FnD := ⟨Tryz.prog,[0,1,2,4],[],7,false⟩
def codeq_value : DC := (.seq (.reg [ox 1 (.box (.x 0)),ox 2 (.alloc [(.bool false),.nils,.nils])]) (.seq (.seq (.reg [ot 3 (.ldn 3 (.x 1)),ox 4 (.call 109 [.t 3])]) (.cond (.x 4) (.seq (.reg [ot 5 (.ldn 3 (.x 1)),on (.stn 3 (.x 2) (.t 5))]) .ret) .skip)) (.seq (.reg [ot 6 (.build [(.bool false),.nils,.nils] []),on (.stn 3 (.x 2) (.t 6))]) .ret)))
def resq_value : List RV := [.cn 3 2]
theorem nbq_value : fnq_value.nb = 0 := rfl
theorem isq_value : IsFn fnq_value 61 codeq_value resq_value := .k Tryz.func61 rfl (by kernel_rfl)
noncomputable def fnsFormat : FnD := ⟨Tryz.prog,[0,1,2,6],[],14,false⟩
def codesFormat : DC := (.seq (.reg [ox 1 (.box (.x 0)),ox 2 (.mv (.c (.str [])))]) (.seq (.reg [ot 3 (.ldn 2 (.x 1)),ot 4 (.call 118 [.t 3]),on (.stn 2 (.x 1) (.t 4))]) (.seq (.seq (.reg [ot 5 (.fad 0 (.x 1)),ox 6 (.ld (.t 5))]) (.cond (.x 6) (.seq (.reg [ot 7 (.fad 1 (.x 1)),ot 8 (.ld (.t 7)),ot 9 (.call 66 [.t 8]),ot 10 (.bin .add (.c (.str [45])) (.t 9)),ow 2 10]) .ret) .skip)) (.seq (.reg [ot 11 (.fad 1 (.x 1)),ot 12 (.ld (.t 11)),ot 13 (.call 66 [.t 12]),ow 2 13]) .ret))))
def ressFormat : List RV := [.t 2]
theorem nbsFormat : fnsFormat.nb = 0 := rfl
theorem issFormat : IsFn fnsFormat 65 codesFormat ressFormat := .k Tryz.func65 rfl (by kernel_rfl)
noncomputable def fnpNeg : FnD := ⟨Tryz.prog,[0,1,2],[],11,false⟩
def codepNeg : DC := (.seq (.reg [ox 1 (.box (.x 0)),ox 2 (.alloc [(.bool false),.nils,.nils])]) (.seq (.reg [ot 3 (.ldn 3 (.x 1)),ot 4 (.call 64 [.t 3]),on (.stn 3 (.x 1) (.t 4))]) (.seq (.regd [ot 5 (.fad 0 (.x 1)),ot 6 (.ldn 2 (.t 5)),ot 7 (.call 101 [.t 6]),ot 8 (.fad 2 (.x 1)),ot 9 (.ld (.t 8)),ot 10 (.build [(.bool false),.nils,.nils] [(0,2,.t 7),(2,1,.t 9)]),on (.stn 3 (.x 2) (.t 10))]) .ret)))
def respNeg : List RV := [.cn 3 2]
theorem nbpNeg : fnpNeg.nb = 0 := rfl
theorem ispNeg : IsFn fnpNeg 71 codepNeg respNeg := .k Tryz.func71 rfl (by kernel_rfl)
noncomputable def fnrUint : FnD := ⟨Tryz.prog,[0,2,3,4,5,10,15],[],27,false⟩
def coderUint : DC := (.seq (.reg [ox 2 (.mv (.c (.int .u64 0))),ox 3 (.mv (.c (.bool false)))]) (.seq (.reg [om 6 0,ot 7 (.call 119 [.t 6]),ow 0 7]) (.seq (.seq (.reg [om 8 0,ot 9 (.len 1 (.t 8)),ox 10 (.bin .gtr (.t 9) (oi 2))]) (.cond (.x 10) (.seq (.reg [ox 2 (.mv (.c (.int .u64 0))),ox 3 (.mv (.c (.bool false)))]) .ret) .skip)) (.seq (.reg [ox 4 (.mv (.c (.int .u64 0)))]) (.seq (.seq (.reg [om 11 0,ot 12 (.len 1 (.t 11)),ot 13 (.bin .sub (.t 12) (oi 1)),ow 5 13]) (.block 0 (.loop (.seq (.seq (.reg [om 14 5,ox 15 (.bin .geq (.t 14) (oi 0))]) (.cond (.x 15) .skip (.exit 0))) (.seq (.block 1 (.reg [om 18 4,ot 19 (.bin .shl (.t 18) (.c (.int .u64 32))),om 20 0,om 21 5,ot 22 (.iad 1 (.t 20) (.t 21)),ot 23 (.ld (.t 22)),ot 24 (.conv .u64 (.t 23)),ot 25 (.bin .or (.t 19) (.t 24)),ow 4 25])) (.reg [om 16 5,ot 17 (.bin .sub (.t 16) (oi 1)),ow 5 17])))))) (.seq (.reg [om 26 4,ow 2 26,ox 3 (.mv (.c (.bool true)))]) .ret))))))
def resrUint : List RV := [.t 2, .t 3]
theorem isrUint : IsFn fnrUint 75 coderUint resrUint := .k Tryz.func75 rfl (by kernel_rfl)
noncomputable def fnq_ten : FnD := ⟨Tryz.prog,[0,2,3,6],[],18,false⟩
def codeq_ten : DC := (.seq (.reg [ox 2 (.mv (.c .nils))]) (.seq (.reg [ot 4 (.call 83 []),ow 3 4]) (.seq (.block 0 (.loop (.seq (.seq (.reg [om 5 0,ox 6 (.bin .gtr (.t 5) (oi 64))]) (.cond (.x 6) .skip (.exit 0))) (.seq (.block 1 (.reg [om 9 3,ot 10 (.bsl 1 [(.int .u32 0)] [(0,1,(.c (.int .u32 10)))]),ot 11 (.call 140 [.t 10,(oi 64)]),ot 12 (.call 78 [.t 9,.t 11]),ow 3 12])) (.reg [om 7 0,ot 8 (.bin .sub (.t 7) (oi 64)),ow 0 8]))))) (.seq (.reg [om 13 3,ot 14 (.bsl 1 [(.int .u32 0)] [(0,1,(.c (.int .u32 10)))]),om 15 0,ot 16 (.call 140 [.t 14,.t 15]),ot 17 (.call 78 [.t 13,.t 16]),ow 2 17]) .ret))))
def resq_ten : List RV := [.t 2]
theorem isq_ten : IsFn fnq_ten 79 codeq_ten resq_ten := .k Tryz.func79 rfl (by kernel_rfl)
noncomputable def fnq_one : FnD := ⟨Tryz.prog,[0],[],2,false⟩
def codeq_one : DC := (.seq (.reg [ox 0 (.mv (.c .nils))]) (.seq (.reg [ot 1 (.bsl 1 [(.int .u32 0)] [(0,1,(.c (.int .u32 1)))]),ow 0 1]) .ret))
def resq_one : List RV := [.t 0]
theorem isq_one : IsFn fnq_one 83 codeq_one resq_one := .k Tryz.func83 rfl (by kernel_rfl)
noncomputable def fnpFloor : FnD := ⟨Tryz.prog,[0,1,2,3],[],18,false⟩
def codepFloor : DC := (.seq (.reg [ox 1 (.box (.x 0)),ox 2 (.alloc [(.bool false),.nils])]) (.seq (.reg [ot 6 (.ldn 3 (.x 1)),ot 7 (.call 64 [.t 6]),on (.stn 3 (.x 1) (.t 7))]) (.seq (.regd [ot 9 (.fad 0 (.x 1)),ot 10 (.ldn 2 (.t 9)),ot 11 (.ldn 3 (.x 1)),ot 12 (.call 143 [.t 11]),ot 13 (.call 103 [.t 10,.t 12]),ot 8 (.mv (.t 13)),ot 14 (.ext (.t 8) 0),ot 15 (.ext (.t 8) 1),ot 16 (.ext (.t 8) 2),ox 3 (.alloc [(.bool false),.nils]),ot 4 (.alloc [(.bool false),.nils]),on (.stn 2 (.x 3) (.t 14)),on (.stn 2 (.t 4) (.t 15)),ot 5 (.mv (.t 16))]) (.seq (.reg [ot 17 (.ldn 2 (.x 3)),on (.stn 2 (.x 2) (.t 17))]) .ret))))
def respFloor : List RV := [.cn 2 2]
theorem nbpFloor : fnpFloor.nb = 0 := rfl
theorem ispFloor : IsFn fnpFloor 87 codepFloor respFloor := .k Tryz.func87 rfl (by kernel_rfl)
noncomputable def fnpSign : FnD := ⟨Tryz.prog,[0,1,2],[],7,false⟩
def codepSign : DC := (.seq (.reg [ox 1 (.box (.x 0)),ox 2 (.mv (oi 0))]) (.seq (.reg [ot 3 (.ldn 3 (.x 1)),ot 4 (.call 64 [.t 3]),ot 5 (.fldn 0 2 (.t 4)),ot 6 (.call 92 [.t 5]),ow 2 6]) .ret))
def respSign : List RV := [.t 2]
theorem nbpSign : fnpSign.nb = 0 := rfl
theorem ispSign : IsFn fnpSign 91 codepSign respSign := .k Tryz.func91 rfl (by kernel_rfl)
noncomputable def fnrSame : FnD := ⟨Tryz.prog,[0,1,4,5,10,14,25],[],26,false⟩
def coderSame : DC := (.seq (.reg [ox 4 (.mv (.c (.bool false)))]) (.seq (.seq (.reg [om 6 0,ot 7 (.len 1 (.t 6)),om 8 1,ot 9 (.len 1 (.t 8)),ox 10 (.bin .neq (.t 7) (.t 9))]) (.cond (.x 10) (.seq (.reg [ox 4 (.mv (.c (.bool false)))]) .ret) .skip)) (.seq (.seq (.reg [ox 5 (.mv (oi 0))]) (.block 0 (.loop (.seq (.seq (.reg [om 11 5,om 12 0,ot 13 (.len 1 (.t 12)),ox 14 (.bin .lss (.t 11) (.t 13))]) (.cond (.x 14) .skip (.exit 0))) (.seq (.block 1 (.seq (.regd [om 17 0,om 18 5,ot 19 (.iad 1 (.t 17) (.t 18)),ot 20 (.ld (.t 19)),om 21 1,om 22 5,ot 23 (.iad 1 (.t 21) (.t 22)),ot 24 (.ld (.t 23)),ox 25 (.bin .neq (.t 20) (.t 24))]) (.cond (.x 25) (.seq (.reg [ox 4 (.mv (.c (.bool false)))]) .ret) .skip))) (.reg [om 15 5,ot 16 (.bin .add (.t 15) (oi 1)),ow 5 16])))))) (.seq (.reg [ox 4 (.mv (.c (.bool true)))]) .ret))))
def resrSame : List RV := [.t 4]
theorem isrSame : IsFn fnrSame 95 coderSame resrSame := .k Tryz.func95 rfl (by kernel_rfl)
noncomputable def fnsGcd : FnD := ⟨Tryz.prog,[0,1,2,3,4],[],12,false⟩
def codesGcd : DC := (.seq (.reg [ox 2 (.box (.x 0)),ox 3 (.box (.x 1)),ox 4 (.mv (.c .nils))]) (.seq (.regd [ot 5 (.ldn 2 (.x 2)),ot 6 (.call 118 [.t 5]),ot 7 (.fld 1 (.t 6)),ot 8 (.ldn 2 (.x 3)),ot 9 (.call 118 [.t 8]),ot 10 (.fld 1 (.t 9)),ot 11 (.call 152 [.t 7,.t 10]),ow 4 11]) .ret))
def ressGcd : List RV := [.t 4]
theorem nbsGcd : fnsGcd.nb = 0 := rfl
theorem issGcd : IsFn fnsGcd 102 codesGcd ressGcd := .k Tryz.func102 rfl (by kernel_rfl)
noncomputable def fnrAdd : FnD := ⟨Tryz.prog,[0,1,4,5,6,7,8,19],[],40,false⟩
def coderAdd : DC := (.seq (.reg [ox 4 (.mv (.c .nils))]) (.seq (.reg [om 9 0,ot 10 (.call 119 [.t 9]),om 11 1,ot 12 (.call 119 [.t 11]),ow 0 10,ow 1 12]) (.seq (.reg [ox 5 (.mv (.c .nils))]) (.seq (.reg [ox 6 (.mv (.c (.int .u64 0)))]) (.seq (.seq (.reg [ox 7 (.mv (oi 0))]) (.block 0 (.loop (.seq (.seq (.reg [om 13 7,om 14 0,ot 15 (.len 1 (.t 14)),om 16 1,ot 17 (.len 1 (.t 16)),ot 18 (.max2 (.t 15) (.t 17)),ox 19 (.bin .leq (.t 13) (.t 18))]) (.cond (.x 19) .skip (.exit 0))) (.seq (.block 1 (.seq (.reg [om 22 0,om 23 7,ot 24 (.call 121 [.t 22,.t 23]),om 25 1,om 26 7,ot 27 (.call 121 [.t 25,.t 26]),ot 28 (.bin .add (.t 24) (.t 27)),om 29 6,ot 30 (.bin .add (.t 28) (.t 29)),ow 8 30]) (.reg [om 31 5,om 32 8,ot 33 (.conv .u32 (.t 32)),ot 34 (.bsl 1 [(.int .u32 0)] [(0,1,.t 33)]),ot 35 (.app 66 1 4 (.t 31) (.t 34)),om 36 8,ot 37 (.bin .shr (.t 36) (.c (.int .u64 32))),ow 5 35,ow 6 37]))) (.reg [om 20 7,ot 21 (.bin .add (.t 20) (oi 1)),ow 7 21])))))) (.seq (.reg [om 38 5,ot 39 (.call 153 [.t 38]),ow 4 39]) .ret))))))
def resrAdd : List RV := [.t 4]
theorem nbrAdd : fnrAdd.nb = 0 := rfl
theorem isrAdd : IsFn fnrAdd 106 coderAdd resrAdd := .k Tryz.func106 rfl (by kernel_rfl)
noncomputable def fniSign : FnD := ⟨Tryz.prog,[0,1,2,5,10],[],13,false⟩
def codeiSign : DC := (.seq (.reg [ox 1 (.box (.x 0)),ox 2 (.mv (oi 0))]) (.seq (.seq (.reg [ot 3 (.ldn 2 (.x 1)),ot 4 (.call 110 [.t 3]),on (.stn 2 (.x 1) (.t 4))]) (.block 0 (.seq (.reg [ot 6 (.fad 1 (.x 1)),ot 7 (.ld (.t 6)),ot 8 (.len 1 (.t 7)),ot 9 (.bin .eql (.t 8) (oi 0)),ow 5 9]) (.cond (.x 5) (.seq (.reg [ox 2 (.mv (oi 0))]) .ret) (.seq (.reg [ot 11 (.fad 0 (.x 1)),ot 12 (.ld (.t 11)),ow 10 12]) (.cond (.x 10) (.seq (.reg [ox 2 (.mv (oi (-1)))]) .ret) .skip)))))) (.seq (.reg [ox 2 (.mv (oi 1))]) .ret)))
def resiSign : List RV := [.t 2]
theorem nbiSign : fniSign.nb = 0 := rfl
theorem isiSign : IsFn fniSign 111 codeiSign resiSign := .k Tryz.func111 rfl (by kernel_rfl)
noncomputable def fnrTake : FnD := ⟨Tryz.prog,[0,2,5],[],8,false⟩
def coderTake : DC := (.seq (.reg [ox 2 (.mv (.c .nils))]) (.seq (.seq (.reg [om 3 0,ot 4 (.call 159 [.t 3]),ox 5 (.un .not (.t 4))]) (.cond (.x 5) (.seq (.reg [ox 2 (.mv (.c .nils))]) .ret) .skip)) (.seq (.reg [om 6 0,ot 7 (.app 66 1 4 (.c .nils) (.t 6)),ow 2 7]) .ret)))
def resrTake : List RV := [.t 2]
theorem nbrTake : fnrTake.nb = 0 := rfl
theorem isrTake : IsFn fnrTake 119 coderTake resrTake := .k Tryz.func119 rfl (by kernel_rfl)
noncomputable def fnstrCut : FnD := ⟨Tryz.prog,[0,1,4,5,6],[],13,false⟩
def codestrCut : DC := (.seq (.reg [ox 4 (.mv (.c (.str []))),ox 5 (.mv (.c (.str []))),ox 6 (.mv (.c (.bool false)))]) (.seq (.reg [om 7 0,om 8 1,ot 9 (.call 162 [.t 7,.t 8]),ot 10 (.ext (.t 9) 0),ot 11 (.ext (.t 9) 1),ot 12 (.ext (.t 9) 2),ow 4 10,ow 5 11,ow 6 12]) .ret))
def resstrCut : List RV := [.t 4, .t 5, .t 6]
theorem isstrCut : IsFn fnstrCut 124 codestrCut resstrCut := .k Tryz.func124 rfl (by kernel_rfl)
noncomputable def fnq_significant : FnD := ⟨Tryz.prog,[0,2,6],[],8,false⟩
def codeq_significant : DC := (.seq (.reg [ox 2 (.mv (.c (.str [])))]) (.seq (.seq (.reg [om 3 0,ot 4 (.call 168 [.t 3,(.c (.str [48]))]),ow 0 4]) (.seq (.reg [om 5 0,ox 6 (.bin .eql (.t 5) (.c (.str [])))]) (.cond (.x 6) (.seq (.reg [ox 2 (.mv (.c (.str [48])))]) .ret) .skip))) (.seq (.reg [om 7 0,ow 2 7]) .ret)))
def resq_significant : List RV := [.t 2]
theorem isq_significant : IsFn fnq_significant 129 codeq_significant resq_significant := .k Tryz.func129 rfl (by kernel_rfl)
noncomputable def fnp_zeros : FnD := ⟨Tryz.prog,[0,2,10],[],14,false⟩
def codep_zeros : DC := (.seq (.reg [ox 2 (.mv (.c (.str [])))]) (.seq (.block 0 (.loop (.seq (.seq (.reg [om 3 0,ot 4 (.lenS (.t 3)),ot 5 (.bin .gtr (.t 4) (oi 1)),ot 6 (.mv (.t 5)),og 7 (.mv (.x 0)) 6 true,og 8 (.idx (.t 7) (oi 0)) 6 true,og 9 (.bin .eql (.t 8) (.c (.int .u8 48))) 6 true,ox 10 (.pick (.t 6) (.t 9) (.c (.bool false)))]) (.cond (.x 10) .skip (.exit 0))) (.block 1 (.reg [om 11 0,ot 12 (.slcS (.t 11) (some (oi 1)) none),ow 0 12]))))) (.seq (.reg [om 13 0,ow 2 13]) .ret)))
def resp_zeros : List RV := [.t 2]
theorem isp_zeros : IsFn fnp_zeros 133 codep_zeros resp_zeros := .k Tryz.func133 rfl (by kernel_rfl)
noncomputable def fnnFromUint : FnD := ⟨Tryz.prog,[0,2],[],10,false⟩
def codenFromUint : DC := (.seq (.reg [ox 2 (.mv (.c .nils))]) (.seq (.reg [om 3 0,ot 4 (.conv .u32 (.t 3)),om 5 0,ot 6 (.bin .shr (.t 5) (.c (.int .u64 32))),ot 7 (.conv .u32 (.t 6)),ot 8 (.bsl 1 [(.int .u32 0),(.int .u32 0)] [(0,1,.t 4),(1,1,.t 7)]),ot 9 (.call 139 [.t 8]),ow 2 9]) .ret))
def resnFromUint : List RV := [.t 2]
theorem isnFromUint : IsFn fnnFromUint 137 codenFromUint resnFromUint := .k Tryz.func137 rfl (by kernel_rfl)
noncomputable def fnAdd32 : FnD := ⟨Tryz.prog,[0,1,2,6,7,8],[],22,false⟩
def codeAdd32 : DC := (.seq (.reg [ox 6 (.mv (.c (.int .u32 0))),ox 7 (.mv (.c (.int .u32 0)))]) (.seq (.reg [om 9 0,ot 10 (.conv .u64 (.t 9)),om 11 1,ot 12 (.conv .u64 (.t 11)),ot 13 (.bin .add (.t 10) (.t 12)),om 14 2,ot 15 (.conv .u64 (.t 14)),ot 16 (.bin .add (.t 13) (.t 15)),ow 8 16]) (.seq (.reg [om 17 8,ot 18 (.conv .u32 (.t 17)),ow 6 18]) (.seq (.reg [om 19 8,ot 20 (.bin .shr (.t 19) (.c (.int .u64 32))),ot 21 (.conv .u32 (.t 20)),ow 7 21]) .ret))))
def resAdd32 : List RV := [.t 6, .t 7]
theorem isAdd32 : IsFn fnAdd32 141 codeAdd32 resAdd32 := .k Tryz.func141 rfl (by kernel_rfl)
noncomputable def fnrSub : FnD := ⟨Tryz.prog,[0,1,4,5,6,7,8,9,17,21],[],44,false⟩
def coderSub : DC := (.seq (.reg [ox 4 (.mv (.c .nils)),ox 5 (.mv (.c (.bool false)))]) (.seq (.reg [om 10 0,ot 11 (.call 119 [.t 10]),om 12 1,ot 13 (.call 119 [.t 12]),ow 0 11,ow 1 13]) (.seq (.seq (.reg [om 14 0,om 15 1,ot 16 (.call 175 [.t 14,.t 15]),ox 17 (.bin .lss (.t 16) (oi 0))]) (.cond (.x 17) (.seq (.reg [ox 4 (.mv (.c .nils)),ox 5 (.mv (.c (.bool false)))]) .ret) .skip)) (.seq (.reg [ox 6 (.mv (.c .nils))]) (.seq (.reg [ox 7 (.mv (.c (.int .u64 0)))]) (.seq (.seq (.reg [ox 8 (.mv (oi 0))]) (.block 0 (.loop (.seq (.seq (.reg [om 18 8,om 19 0,ot 20 (.len 1 (.t 19)),ox 21 (.bin .lss (.t 18) (.t 20))]) (.cond (.x 21) .skip (.exit 0))) (.seq (.block 1 (.seq (.reg [om 24 0,om 25 8,ot 26 (.call 121 [.t 24,.t 25]),ot 27 (.bin .add (.t 26) (.c (.int .u64 4294967296))),om 28 1,om 29 8,ot 30 (.call 121 [.t 28,.t 29]),ot 31 (.bin .sub (.t 27) (.t 30)),om 32 7,ot 33 (.bin .sub (.t 31) (.t 32)),ow 9 33]) (.reg [om 34 6,om 35 9,ot 36 (.conv .u32 (.t 35)),ot 37 (.bsl 1 [(.int .u32 0)] [(0,1,.t 36)]),ot 38 (.app 66 1 4 (.t 34) (.t 37)),om 39 9,ot 40 (.bin .shr (.t 39) (.c (.int .u64 32))),ot 41 (.bin .sub (.c (.int .u64 1)) (.t 40)),ow 6 38,ow 7 41]))) (.reg [om 22 8,ot 23 (.bin .add (.t 22) (oi 1)),ow 8 23])))))) (.seq (.reg [om 42 6,ot 43 (.call 153 [.t 42]),ow 4 43,ox 5 (.mv (.c (.bool true)))]) .ret)))))))
def resrSub : List RV := [.t 4, .t 5]
theorem nbrSub : fnrSub.nb = 0 := rfl
theorem isrSub : IsFn fnrSub 145 coderSub resrSub := .k Tryz.func145 rfl (by kernel_rfl)
noncomputable def fnnValid : FnD := ⟨Tryz.prog,[0,2],[],15,false⟩
def codenValid : DC := (.seq (.reg [ox 2 (.mv (.c (.bool false)))]) (.seq (.reg [om 3 0,ot 4 (.len 1 (.t 3)),ot 5 (.bin .eql (.t 4) (oi 0)),ot 6 (.mv (.t 5)),og 7 (.mv (.x 0)) 6 false,og 8 (.mv (.x 0)) 6 false,og 9 (.len 1 (.t 8)) 6 false,og 10 (.bin .sub (.t 9) (oi 1)) 6 false,og 11 (.iad 1 (.t 7) (.t 10)) 6 false,og 12 (.ld (.t 11)) 6 false,og 13 (.bin .neq (.t 12) (.c (.int .u32 0))) 6 false,ot 14 (.pick (.t 6) (.c (.bool true)) (.t 13)),ow 2 14]) .ret))
def resnValid : List RV := [.t 2]
theorem isnValid : IsFn fnnValid 155 codenValid resnValid := .k Tryz.func155 rfl (by kernel_rfl)
noncomputable def fnrDouble : FnD := ⟨Tryz.prog,[0,1,4,5,9],[],14,false⟩
def coderDouble : DC := (.seq (.reg [ox 4 (.mv (.c .nils))]) (.seq (.reg [om 6 0,ot 7 (.call 131 [.t 6,(.c (.int .u32 2)),(oi 0)]),ow 5 7]) (.seq (.seq (.reg [om 8 1,ox 9 (.bin .eql (.t 8) (.c (.int .u32 1)))]) (.cond (.x 9) (.reg [om 10 5,ot 11 (.bsl 1 [(.int .u32 0)] [(0,1,(.c (.int .u32 1)))]),ot 12 (.call 106 [.t 10,.t 11]),ow 5 12]) .skip)) (.seq (.reg [om 13 5,ow 4 13]) .ret))))
def resrDouble : List RV := [.t 4]
theorem isrDouble : IsFn fnrDouble 160 coderDouble resrDouble := .k Tryz.func160 rfl (by kernel_rfl)
noncomputable def fnngcd : FnD := ⟨Tryz.prog,[0,1,4,6],[],12,false⟩
def codengcd : DC := (.seq (.reg [ox 4 (.mv (.c (.int .u64 0)))]) (.seq (.block 0 (.loop (.seq (.seq (.reg [om 5 1,ox 6 (.bin .neq (.t 5) (.c (.int .u64 0)))]) (.cond (.x 6) .skip (.exit 0))) (.block 1 (.regd [om 7 1,om 8 0,om 9 1,ot 10 (.bin .rem (.t 8) (.t 9)),ow 0 7,ow 1 10]))))) (.seq (.reg [om 11 0,ow 4 11]) .ret)))
def resngcd : List RV := [.t 4]
theorem isngcd : IsFn fnngcd 169 codengcd resngcd := .k Tryz.func169 rfl (by kernel_rfl)
noncomputable def fnnReduce : FnD := ⟨Tryz.prog,[0,1,2,6,7,8,9,10,12,13,14,19],[],49,false⟩
def codenReduce : DC := (.seq (.reg [ox 6 (.mv (.c (.bool false)))]) (.seq (.reg [ox 7 (.mv (.c (.int .u64 0))),ox 8 (.mv (.c (.int .u32 0)))]) (.seq (.seq (.reg [om 11 0,ox 12 (.len 1 (.t 11)),ox 13 (.mv (oi 0))]) (.block 0 (.loop (.seq (.reg [ox 14 (.bin .lss (.x 13) (.x 12))]) (.seq (.cond (.x 14) .skip (.exit 0)) (.seq (.block 1 (.seq (.reg [om 15 13,ow 9 15]) (.seq (.reg [ox 10 (.mv (.c (.int .u64 0)))]) (.seq (.seq (.reg [om 16 9,om 17 1,ot 18 (.len 1 (.t 17)),ox 19 (.bin .lss (.t 16) (.t 18))]) (.cond (.x 19) (.reg [om 20 1,om 21 9,ot 22 (.iad 1 (.t 20) (.t 21)),ot 23 (.ld (.t 22)),ot 24 (.conv .u64 (.t 23)),ow 10 24]) .skip)) (.seq (.reg [om 25 7,om 26 2,om 27 10,ot 28 (.bin .mul (.t 26) (.t 27)),ot 29 (.bin .add (.t 25) (.t 28)),ow 7 29]) (.seq (.reg [om 31 0,om 32 9,om 33 0,om 34 9,ot 35 (.iad 1 (.t 33) (.t 34)),ot 36 (.ld (.t 35)),om 37 7,ot 38 (.conv .u32 (.t 37)),om 39 8,ot 40 (.call 190 [.t 36,.t 38,.t 39]),ot 30 (.mv (.t 40)),ot 41 (.ext (.t 30) 0),ot 42 (.ext (.t 30) 1),ot 43 (.iad 1 (.t 31) (.t 32)),on (.st (.t 43) (.t 41)),ow 8 42]) (.reg [om 44 7,ot 45 (.bin .shr (.t 44) (.c (.int .u64 32))),ow 7 45]))))))) (.reg [ot 46 (.bin .add (.x 13) (oi 1)),ow 13 46]))))))) (.seq (.reg [om 47 8,ot 48 (.bin .neq (.t 47) (.c (.int .u32 0))),ow 6 48]) .ret))))
def resnReduce : List RV := [.t 6]
theorem isnReduce : IsFn fnnReduce 173 codenReduce resnReduce := .k Tryz.func173 rfl (by kernel_rfl)
noncomputable def fnSub32 : FnD := ⟨Tryz.prog,[0,1,2,6,7],[],25,false⟩
def codeSub32 : DC := (.seq (.reg [ox 6 (.mv (.c (.int .u32 0))),ox 7 (.mv (.c (.int .u32 0)))]) (.seq (.reg [om 8 0,om 9 1,ot 10 (.bin .sub (.t 8) (.t 9)),om 11 2,ot 12 (.bin .sub (.t 10) (.t 11)),ow 6 12]) (.seq (.reg [om 13 0,ot 14 (.un .xor (.t 13)),om 15 1,ot 16 (.bin .and (.t 14) (.t 15)),om 17 0,om 18 1,ot 19 (.bin .xor (.t 17) (.t 18)),ot 20 (.un .xor (.t 19)),om 21 6,ot 22 (.bin .and (.t 20) (.t 21)),ot 23 (.bin .or (.t 16) (.t 22)),ot 24 (.bin .shr (.t 23) (.c (.int .u64 31))),ow 7 24]) .ret)))
def resSub32 : List RV := [.t 6, .t 7]
theorem isSub32 : IsFn fnSub32 190 codeSub32 resSub32 := .k Tryz.func190 rfl (by kernel_rfl)
noncomputable def fnmdLightList : FnD := ⟨Tryz.prog,[0,1,4,5,9,13,21],[],22,false⟩
def codemdLightList : DC := (.seq (.reg [ox 4 (.mv (.c (.bool false)))]) (.seq (.seq (.reg [om 6 0,ot 7 (.len 3 (.t 6)),om 8 1,ox 9 (.bin .gtr (.t 7) (.t 8))]) (.cond (.x 9) (.seq (.reg [ox 4 (.mv (.c (.bool false)))]) .ret) .skip)) (.seq (.seq (.reg [ox 5 (.mv (oi 0))]) (.block 0 (.loop (.seq (.seq (.reg [om 10 5,om 11 0,ot 12 (.len 3 (.t 11)),ox 13 (.bin .lss (.t 10) (.t 12))]) (.cond (.x 13) .skip (.exit 0))) (.seq (.block 1 (.seq (.reg [om 16 0,om 17 5,ot 18 (.iad 3 (.t 16) (.t 17)),ot 19 (.ldn 3 (.t 18)),ot 20 (.call 33 [.t 19]),ox 21 (.un .not (.t 20))]) (.cond (.x 21) (.seq (.reg [ox 4 (.mv (.c (.bool false)))]) .ret) .skip))) (.reg [om 14 5,ot 15 (.bin .add (.t 14) (oi 1)),ow 5 15])))))) (.seq (.reg [ox 4 (.mv (.c (.bool true)))]) .ret))))
def resmdLightList : List RV := [.t 4]
theorem ismdLightList : IsFn fnmdLightList 6 codemdLightList resmdLightList := .k Tryz.func6 rfl (by kernel_rfl)
noncomputable def fnwRat : FnD := ⟨Tryz.prog,[0,2,4,5,14],[],27,false⟩
def codewRat : DC := (.seq (.reg [ox 2 (.alloc [(.bool false),.nils,.nils])]) (.seq (.seq (.reg [om 3 0,ox 4 (.call 14 [.t 3,(oi 8)])]) (.block 0 (.seq (.reg [ot 6 (.bin .eql (.x 4) (oi 6)),ow 5 6]) (.cond (.x 5) (.seq (.reg [om 7 0,ot 8 (.call 14 [.t 7,(oi 13)]),ot 9 (.bin .sub (.t 8) (oi 6)),om 10 0,ot 11 (.call 14 [.t 10,(oi 6)]),ot 12 (.bin .add (oi 1) (.t 11)),ot 13 (.call 34 [.t 9,.t 12]),on (.stn 3 (.x 2) (.t 13))]) .ret) (.seq (.reg [ot 15 (.bin .eql (.x 4) (oi 7)),ow 14 15]) (.cond (.x 14) (.seq (.reg [om 16 0,ot 17 (.call 14 [.t 16,(oi 2001)]),ot 18 (.bin .sub (.t 17) (oi 1000)),om 19 0,ot 20 (.bsl 1 [(.int .i64 0),(.int .i64 0),(.int .i64 0)] [(0,1,(oi 1)),(1,1,(oi 1)),(2,1,(oi 7))]),ot 21 (.call 21 [.t 19,.t 20]),ot 22 (.call 34 [.t 18,.t 21]),on (.stn 3 (.x 2) (.t 22))]) .ret) .skip)))))) (.seq (.reg [om 23 0,ot 24 (.call 14 [.t 23,(oi 9)]),ot 25 (.bin .sub (.t 24) (oi 4)),ot 26 (.call 35 [.t 25]),on (.stn 3 (.x 2) (.t 26))]) .ret)))
def reswRat : List RV := [.cn 3 2]
theorem iswRat : IsFn fnwRat 10 codewRat reswRat := .k Tryz.func10 rfl (by kernel_rfl)
noncomputable def fnwNext : FnD := ⟨Tryz.prog,[0,1,4,18],[],39,false⟩
def codewNext : DC := (.seq (.reg [ox 4 (.mv (oi 0))]) (.seq (.seq (.regd [om 5 1,ot 6 (.bin .lss (.t 5) (oi 1)),ot 7 (.mv (.t 6)),og 8 (.mv (.x 0)) 7 false,og 9 (.nilc (.t 8)) 7 false,og 10 (.fad 1 (.t 9)) 7 false,og 11 (.ld (.t 10)) 7 false,og 12 (.mv (.x 0)) 7 false,og 13 (.nilc (.t 12)) 7 false,og 14 (.fad 0 (.t 13)) 7 false,og 15 (.ld (.t 14)) 7 false,og 16 (.len 1 (.t 15)) 7 false,og 17 (.bin .geq (.t 11) (.t 16)) 7 false,ox 18 (.pick (.t 7) (.c (.bool true)) (.t 17))]) (.cond (.x 18) (.seq (.reg [ox 4 (.mv (oi 0))]) .ret) .skip)) (.seq (.reg [om 19 0,ot 20 (.nilc (.t 19)),ot 21 (.fad 1 (.t 20)),ot 22 (.ld (.t 21)),ot 23 (.bin .add (.t 22) (oi 1)),ot 24 (.nilc (.t 19)),ot 25 (.fad 1 (.t 24)),on (.st (.t 25) (.t 23))]) (.seq (.regd [om 26 0,ot 27 (.nilc (.t 26)),ot 28 (.fad 0 (.t 27)),ot 29 (.ld (.t 28)),om 30 0,ot 31 (.nilc (.t 30)),ot 32 (.fad 1 (.t 31)),ot 33 (.ld (.t 32)),ot 34 (.bin .sub (.t 33) (oi 1)),ot 35 (.iad 1 (.t 29) (.t 34)),ot 36 (.ld (.t 35)),om 37 1,ot 38 (.call 43 [.t 36,.t 37]),ow 4 38]) .ret))))
def reswNext : List RV := [.t 4]
theorem iswNext : IsFn fnwNext 14 codewNext reswNext := .k Tryz.func14 rfl (by kernel_rfl)
noncomputable def fnlrWord : FnD := ⟨Tryz.prog,[0,2],[],8,false⟩
def codelrWord : DC := (.seq (.reg [ox 2 (.mv (.c (.str [])))]) (.seq (.reg [ot 3 (.bsl 1 [(.str []),(.str []),(.str []),(.str []),(.str []),(.str []),(.str []),(.str []),(.str []),(.str []),(.str []),(.str []),(.str []),(.str []),(.str []),(.str [])] [(0,1,(.c (.str [97]))),(1,1,(.c (.str [49,48]))),(2,1,(.c (.str [45,51,47,52]))),(3,1,(.c (.str [98,99,100]))),(4,1,(.c (.str [126]))),(5,1,(.c (.str [33]))),(6,1,(.c (.str [120,50]))),(7,1,(.c (.str []))),(8,1,(.c (.str [97,32,98]))),(9,1,(.c (.str [10]))),(10,1,(.c (.str [127]))),(11,1,(.c (.str [97,98,99,100,101,102,103,104,105,106,107,108,109,110,111,112,113,114,115,116,117,118,119,120,121,122,48,49,50,51,52,53]))),(12,1,(.c (.str [97,98,99,100,101,102,103,104,105,106,107,108,109,110,111,112,113,114,115,116,117,118,119,120,121,122,48,49,50,51,52,53,54]))),(13,1,(.c (.str [121]))),(14,1,(.c (.str [122]))),(15,1,(.c (.str [119])))]),om 4 0,ot 5 (.call 14 [.t 4,(oi 16)]),ot 6 (.iad 1 (.t 3) (.t 5)),ot 7 (.ld (.t 6)),ow 2 7]) .ret))
def reslrWord : List RV := [.t 2]
theorem islrWord : IsFn fnlrWord 18 codelrWord reslrWord := .k Tryz.func18 rfl (by kernel_rfl)
noncomputable def fnrpCoefs : FnD := ⟨Tryz.prog,[0,1,2,6,7,8,9,10,20,26,27,28,29,30],[],55,false⟩
def coderpCoefs : DC := (.seq (.reg [ox 6 (.mv (.c (.str []))),ox 7 (.mv (oi 0))]) (.seq (.seq (.reg [om 11 0,ot 12 (.len 1 (.t 11)),ot 13 (.bin .lss (.t 12) (oi 1)),ot 14 (.mv (.t 13)),og 15 (.mv (.x 1)) 14 false,og 16 (.len 3 (.t 15)) 14 false,og 17 (.mv (.x 0)) 14 false,og 18 (.len 1 (.t 17)) 14 false,og 19 (.bin .neq (.t 16) (.t 18)) 14 false,ox 20 (.pick (.t 14) (.c (.bool true)) (.t 19))]) (.cond (.x 20) (.seq (.reg [ox 6 (.mv (.c (.str []))),ox 7 (.mv (oi 6))]) .ret) .skip)) (.seq (.seq (.reg [om 21 2,ot 22 (.bin .lss (.t 21) (oi 0)),ot 23 (.mv (.t 22)),og 24 (.mv (.x 2)) 23 false,og 25 (.bin .gtr (.t 24) (oi 20)) 23 false,ox 26 (.pick (.t 23) (.c (.bool true)) (.t 25))]) (.cond (.x 26) (.seq (.reg [ox 6 (.mv (.c (.str []))),ox 7 (.mv (oi 1))]) .ret) .skip)) (.seq (.reg [ox 8 (.mv (.c .nils))]) (.seq (.seq (.reg [ox 27 (.mv (.x 0)),ox 28 (.len 1 (.x 27)),ox 29 (.mv (oi 0))]) (.block 0 (.loop (.seq (.reg [ox 30 (.bin .lss (.x 29) (.x 28))]) (.seq (.cond (.x 30) .skip (.exit 0)) (.seq (.block 1 (.seq (.reg [om 31 29,ot 32 (.iad 1 (.x 27) (.x 29)),ot 33 (.ld (.t 32)),ow 9 31,ow 10 33]) (.regd [om 34 8,om 35 10,om 36 1,om 37 9,ot 38 (.iad 3 (.t 36) (.t 37)),ot 39 (.ldn 3 (.t 38)),ot 40 (.call 39 [.t 39]),om 41 1,om 42 9,ot 43 (.iad 3 (.t 41) (.t 42)),ot 44 (.ldn 3 (.t 43)),om 45 2,ot 46 (.call 50 [.t 44,.t 45]),ot 47 (.bsl 1 [(.str []),(.str []),(.str [])] [(0,1,.t 35),(1,1,.t 40),(2,1,.t 46)]),ot 48 (.bsl 1 [.nils] [(0,1,.t 47)]),ot 49 (.app 39 1 24 (.t 34) (.t 48)),ow 8 49]))) (.reg [ot 50 (.bin .add (.x 29) (oi 1)),ow 29 50]))))))) (.seq (.reg [om 51 8,ot 52 (.call 29 [.t 51]),ot 53 (.ext (.t 52) 0),ot 54 (.ext (.t 52) 1),ow 6 53,ow 7 54]) .ret))))))
def resrpCoefs : List RV := [.t 6, .t 7]
theorem isrpCoefs : IsFn fnrpCoefs 22 coderpCoefs resrpCoefs := .k Tryz.func22 rfl (by kernel_rfl)
noncomputable def fnreSameWords : FnD := ⟨Tryz.prog,[0,1,4,5,10,12,13,14,24],[],26,false⟩
def codereSameWords : DC := (.seq (.reg [ox 4 (.mv (.c (.bool false)))]) (.seq (.seq (.reg [om 6 0,ot 7 (.len 1 (.t 6)),om 8 1,ot 9 (.len 1 (.t 8)),ox 10 (.bin .neq (.t 7) (.t 9))]) (.cond (.x 10) (.seq (.reg [ox 4 (.mv (.c (.bool false)))]) .ret) .skip)) (.seq (.seq (.reg [om 11 0,ox 12 (.len 1 (.t 11)),ox 13 (.mv (oi 0))]) (.block 0 (.loop (.seq (.reg [ox 14 (.bin .lss (.x 13) (.x 12))]) (.seq (.cond (.x 14) .skip (.exit 0)) (.seq (.block 1 (.seq (.reg [om 15 13,ow 5 15]) (.seq (.regd [om 16 0,om 17 5,ot 18 (.iad 1 (.t 16) (.t 17)),ot 19 (.ld (.t 18)),om 20 1,om 21 5,ot 22 (.iad 1 (.t 20) (.t 21)),ot 23 (.ld (.t 22)),ox 24 (.bin .neq (.t 19) (.t 23))]) (.cond (.x 24) (.seq (.reg [ox 4 (.mv (.c (.bool false)))]) .ret) .skip)))) (.reg [ot 25 (.bin .add (.x 13) (oi 1)),ow 13 25]))))))) (.seq (.reg [ox 4 (.mv (.c (.bool true)))]) .ret))))
def resreSameWords : List RV := [.t 4]
theorem isreSameWords : IsFn fnreSameWords 26 codereSameWords resreSameWords := .k Tryz.func26 rfl (by kernel_rfl)
noncomputable def fnrpParse : FnD := ⟨Tryz.prog,[0,2,3,4,5,6,8,9,11,12,13,25,26,27,28,29,33,34,35,36,40,62],[],64,false⟩
def coderpParse : DC := (.seq (.reg [ox 2 (.mv (.c .nils)),ox 3 (.mv (oi 0))]) (.seq (.reg [om 15 0,ot 16 (.call 44 [.t 15]),ot 14 (.mv (.t 16)),ot 17 (.ext (.t 14) 0),ot 18 (.ext (.t 14) 1),ow 4 17,ow 5 18]) (.seq (.seq (.reg [om 19 5,ot 20 (.un .not (.t 19)),ot 21 (.mv (.t 20)),og 22 (.mv (.x 4)) 21 false,og 23 (.len 1 (.t 22)) 21 false,og 24 (.bin .gtr (.t 23) (oi 1024)) 21 false,ox 25 (.pick (.t 21) (.c (.bool true)) (.t 24))]) (.cond (.x 25) (.seq (.reg [ox 2 (.mv (.c .nils)),ox 3 (.mv (oi 3))]) .ret) .skip)) (.seq (.reg [ox 6 (.mv (.c .nils))]) (.seq (.seq (.reg [ox 26 (.mv (.x 4)),ox 27 (.len 1 (.x 26)),ox 28 (.mv (oi 0))]) (.block 0 (.loop (.seq (.reg [ox 29 (.bin .lss (.x 28) (.x 27))]) (.seq (.cond (.x 29) .skip (.exit 0)) (.seq (.block 1 (.seq (.reg [ot 30 (.iad 1 (.x 26) (.x 28)),ot 31 (.ld (.t 30)),ow 8 31]) (.seq (.reg [ox 9 (.mv (.c .nils))]) (.seq (.seq (.reg [om 32 8,ox 33 (.call 57 [.t 32,(.c (.str [32]))]),ox 34 (.len 1 (.x 33)),ox 35 (.mv (oi 0))]) (.block 2 (.loop (.seq (.reg [ox 36 (.bin .lss (.x 35) (.x 34))]) (.seq (.cond (.x 36) .skip (.exit 2)) (.seq (.block 3 (.seq (.reg [ot 37 (.iad 1 (.x 33) (.x 35)),ot 38 (.ld (.t 37)),ow 11 38]) (.seq (.reg [om 39 11,ox 40 (.bin .neq (.t 39) (.c (.str [])))]) (.cond (.x 40) (.reg [om 41 9,om 42 11,ot 43 (.bsl 1 [(.str [])] [(0,1,.t 42)]),ot 44 (.app 9 1 16 (.t 41) (.t 43)),ow 9 44]) .skip)))) (.reg [ot 45 (.bin .add (.x 35) (oi 1)),ow 35 45]))))))) (.reg [om 46 6,om 47 9,ot 48 (.bsl 1 [.nils] [(0,1,.t 47)]),ot 49 (.app 39 1 24 (.t 46) (.t 48)),ow 6 49]))))) (.reg [ot 50 (.bin .add (.x 28) (oi 1)),ow 28 50]))))))) (.seq (.seq (.reg [om 52 6,ot 53 (.call 29 [.t 52]),ot 51 (.mv (.t 53)),ot 54 (.ext (.t 51) 0),ot 55 (.ext (.t 51) 1),ow 12 54,ow 13 55]) (.seq (.reg [om 56 13,ot 57 (.bin .neq (.t 56) (oi 0)),ot 58 (.mv (.t 57)),og 59 (.mv (.x 12)) 58 false,og 60 (.mv (.x 0)) 58 false,og 61 (.bin .neq (.t 59) (.t 60)) 58 false,ox 62 (.pick (.t 58) (.c (.bool true)) (.t 61))]) (.cond (.x 62) (.seq (.reg [ox 2 (.mv (.c .nils)),ox 3 (.mv (oi 3))]) .ret) .skip))) (.seq (.reg [om 63 6,ow 2 63,ox 3 (.mv (oi 0))]) .ret)))))))
def resrpParse : List RV := [.t 2, .t 3]
theorem isrpParse : IsFn fnrpParse 30 coderpParse resrpParse := .k Tryz.func30 rfl (by kernel_rfl)
noncomputable def fnpFraction : FnD := ⟨Tryz.prog,[0,1,4],[],10,false⟩
def codepFraction : DC := (.seq (.reg [ox 4 (.alloc [(.bool false),.nils,.nils])]) (.seq (.reg [om 5 0,ot 6 (.call 59 [.t 5]),om 7 1,ot 8 (.call 59 [.t 7]),ot 9 (.call 58 [.t 6,.t 8]),on (.stn 3 (.x 4) (.t 9))]) .ret))
def respFraction : List RV := [.cn 3 4]
theorem ispFraction : IsFn fnpFraction 34 codepFraction respFraction := .k Tryz.func34 rfl (by kernel_rfl)
noncomputable def fnwMod : FnD := ⟨Tryz.prog,[0,1,4,5,10],[],15,false⟩
def codewMod : DC := (.seq (.reg [ox 4 (.mv (oi 0))]) (.seq (.reg [om 6 0,om 7 1,ot 8 (.bin .rem (.t 6) (.t 7)),ow 5 8]) (.seq (.seq (.reg [om 9 5,ox 10 (.bin .lss (.t 9) (oi 0))]) (.cond (.x 10) (.reg [om 11 5,om 12 1,ot 13 (.bin .add (.t 11) (.t 12)),ow 5 13]) .skip)) (.seq (.reg [om 14 5,ow 4 14]) .ret))))
def reswMod : List RV := [.t 4]
theorem iswMod : IsFn fnwMod 43 codewMod reswMod := .k Tryz.func43 rfl (by kernel_rfl)
noncomputable def fnreWords : FnD := ⟨Tryz.prog,[0,2,3,4,5,6,7,11,22,29,35],[],41,false⟩
def codereWords : DC := (.seq (.reg [ox 2 (.mv (.c .nils))]) (.seq (.reg [ox 3 (.mv (.c .nils))]) (.seq (.reg [ox 4 (.mv (.c .nils))]) (.seq (.reg [ox 5 (.mv (.c (.str [])))]) (.seq (.seq (.reg [ox 6 (.mv (oi 0))]) (.block 0 (.loop (.seq (.seq (.reg [om 8 6,om 9 0,ot 10 (.lenS (.t 9)),ox 11 (.bin .lss (.t 8) (.t 10))]) (.cond (.x 11) .skip (.exit 0))) (.seq (.block 1 (.seq (.reg [om 14 0,om 15 6,ot 16 (.idx (.t 14) (.t 15)),ow 7 16]) (.seq (.seq (.reg [om 17 7,ot 18 (.bin .neq (.t 17) (.c (.int .u8 32))),ot 19 (.mv (.t 18)),og 20 (.mv (.x 7)) 19 true,og 21 (.bin .neq (.t 20) (.c (.int .u8 10))) 19 true,ox 22 (.pick (.t 19) (.t 21) (.c (.bool false)))]) (.cond (.x 22) (.seq (.reg [om 23 5,om 24 7,ot 25 (.bsl 1 [(.int .u8 0)] [(0,1,.t 24)]),ot 26 (.b2s (.t 25)),ot 27 (.bin .add (.t 23) (.t 26)),ow 5 27]) (.exit 1)) .skip)) (.seq (.seq (.reg [om 28 5,ox 29 (.bin .neq (.t 28) (.c (.str [])))]) (.cond (.x 29) (.seq (.reg [om 30 4,om 31 5,ot 32 (.bsl 1 [(.str [])] [(0,1,.t 31)]),ot 33 (.app 9 1 16 (.t 30) (.t 32)),ow 4 33]) (.reg [ox 5 (.mv (.c (.str [])))])) .skip)) (.seq (.reg [om 34 7,ox 35 (.bin .eql (.t 34) (.c (.int .u8 10)))]) (.cond (.x 35) (.seq (.reg [om 36 3,om 37 4,ot 38 (.bsl 1 [.nils] [(0,1,.t 37)]),ot 39 (.app 39 1 24 (.t 36) (.t 38)),ow 3 39]) (.reg [ox 4 (.mv (.c .nils))])) .skip)))))) (.reg [om 12 6,ot 13 (.bin .add (.t 12) (oi 1)),ow 6 13])))))) (.seq (.reg [om 40 3,ow 2 40]) .ret))))))
def resreWords : List RV := [.t 2]
theorem isreWords : IsFn fnreWords 47 codereWords resreWords := .k Tryz.func47 rfl (by kernel_rfl)
noncomputable def fnpDecimal : FnD := ⟨Tryz.prog,[0,1,2,4,5,6,7,8,9,10,16,20,61,70,74,96],[],100,false⟩
def codepDecimal : DC := (.seq (.reg [ox 2 (.box (.x 0)),ox 4 (.mv (.c (.str [])))]) (.seq (.seq (.reg [om 11 1,ot 12 (.bin .lss (.t 11) (oi 0)),ot 13 (.mv (.t 12)),og 14 (.mv (.x 1)) 13 false,og 15 (.bin .gtr (.t 14) (oi 100)) 13 false,ox 16 (.pick (.t 13) (.c (.bool true)) (.t 15))]) (.cond (.x 16) (.seq (.reg [ox 4 (.mv (.c (.str [])))]) .ret) .skip)) (.seq (.reg [ot 17 (.bsl 1 [(.int .u32 0)] [(0,1,(.c (.int .u32 1)))]),ow 5 17]) (.seq (.seq (.reg [ox 6 (.mv (oi 0))]) (.block 0 (.loop (.seq (.seq (.reg [om 18 6,om 19 1,ox 20 (.bin .lss (.t 18) (.t 19))]) (.cond (.x 20) .skip (.exit 0))) (.seq (.block 1 (.reg [om 23 5,ot 24 (.bsl 1 [(.int .u32 0)] [(0,1,(.c (.int .u32 10)))]),ot 25 (.call 84 [.t 23,.t 24]),ow 5 25])) (.reg [om 21 6,ot 22 (.bin .add (.t 21) (oi 1)),ow 6 22])))))) (.seq (.reg [ot 26 (.ldn 3 (.x 2)),ot 27 (.call 86 [.t 26]),om 28 5,ot 29 (.build [(.bool false),.nils] [(1,1,.t 28)]),ot 30 (.build [(.bool false),.nils,.nils] [(0,2,.t 29)]),ot 31 (.call 85 [.t 27,.t 30]),ox 7 (.alloc [(.bool false),.nils,.nils]),on (.stn 3 (.x 7) (.t 31))]) (.seq (.reg [ot 32 (.ldn 3 (.x 7)),ot 33 (.call 87 [.t 32]),ox 8 (.alloc [(.bool false),.nils]),on (.stn 2 (.x 8) (.t 33))]) (.seq (.reg [ot 34 (.ldn 3 (.x 7)),ot 35 (.ldn 2 (.x 8)),ot 36 (.build [(.bool false),.nils,.nils] [(0,2,.t 35)]),ot 37 (.call 89 [.t 34,.t 36]),ot 38 (.call 35 [(oi 2)]),ot 39 (.call 85 [.t 37,.t 38]),ot 40 (.call 35 [(oi 1)]),ot 41 (.call 88 [.t 39,.t 40]),ow 9 41]) (.seq (.seq (.reg [om 42 9,ot 43 (.bin .gtr (.t 42) (oi 0)),ot 44 (.mv (.t 43)),og 45 (.mv (.x 9)) 44 false,og 46 (.bin .eql (.t 45) (oi 0)) 44 false,og 47 (.mv (.t 46)) 44 false,og 48 (.fad 1 (.x 8)) 47 true,og 49 (.ld (.t 48)) 47 true,og 50 (.len 1 (.t 49)) 47 true,og 51 (.bin .gtr (.t 50) (oi 0)) 47 true,og 52 (.pick (.t 47) (.t 51) (.c (.bool false))) 44 false,og 53 (.mv (.t 52)) 44 false,og 54 (.fad 1 (.x 8)) 53 true,og 55 (.ld (.t 54)) 53 true,og 56 (.iad 1 (.t 55) (oi 0)) 53 true,og 57 (.ld (.t 56)) 53 true,og 58 (.bin .rem (.t 57) (.c (.int .u32 2))) 53 true,og 59 (.bin .eql (.t 58) (.c (.int .u32 1))) 53 true,og 60 (.pick (.t 53) (.t 59) (.c (.bool false))) 44 false,ox 61 (.pick (.t 44) (.c (.bool true)) (.t 60))]) (.cond (.x 61) (.regd [ot 62 (.ldn 2 (.x 8)),ot 63 (.call 59 [(oi 1)]),ot 64 (.call 90 [.t 62,.t 63]),on (.stn 2 (.x 8) (.t 64))]) .skip)) (.seq (.reg [ot 65 (.ldn 2 (.x 8)),ot 66 (.call 65 [.t 65]),ow 10 66]) (.seq (.block 2 (.loop (.seq (.seq (.reg [om 67 10,ot 68 (.lenS (.t 67)),om 69 1,ox 70 (.bin .leq (.t 68) (.t 69))]) (.cond (.x 70) .skip (.exit 2))) (.block 3 (.reg [om 71 10,ot 72 (.bin .add (.c (.str [48])) (.t 71)),ow 10 72]))))) (.seq (.seq (.reg [om 73 1,ox 74 (.bin .gtr (.t 73) (oi 0))]) (.cond (.x 74) (.regd [om 75 10,om 76 10,ot 77 (.lenS (.t 76)),om 78 1,ot 79 (.bin .sub (.t 77) (.t 78)),ot 80 (.slcS (.t 75) none (some (.t 79))),ot 81 (.bin .add (.t 80) (.c (.str [46]))),om 82 10,om 83 10,ot 84 (.lenS (.t 83)),om 85 1,ot 86 (.bin .sub (.t 84) (.t 85)),ot 87 (.slcS (.t 82) (some (.t 86)) none),ot 88 (.bin .add (.t 81) (.t 87)),ow 10 88]) .skip)) (.seq (.seq (.reg [ot 89 (.ldn 3 (.x 2)),ot 90 (.call 91 [.t 89]),ot 91 (.bin .lss (.t 90) (oi 0)),ot 92 (.mv (.t 91)),og 93 (.ldn 2 (.x 8)) 92 true,og 94 (.call 92 [.t 93]) 92 true,og 95 (.bin .gtr (.t 94) (oi 0)) 92 true,ox 96 (.pick (.t 92) (.t 95) (.c (.bool false)))]) (.cond (.x 96) (.reg [om 97 10,ot 98 (.bin .add (.c (.str [45])) (.t 97)),ow 10 98]) .skip)) (.seq (.reg [om 99 10,ow 4 99]) .ret)))))))))))))
def respDecimal : List RV := [.t 4]
theorem nbpDecimal : fnpDecimal.nb = 0 := rfl
theorem ispDecimal : IsFn fnpDecimal 51 codepDecimal respDecimal := .k Tryz.func51 rfl (by kernel_rfl)
noncomputable def fniFormat : FnD := ⟨Tryz.prog,[0,1,2,3,10],[],14,false⟩
def codeiFormat : DC := (.seq (.reg [ox 1 (.box (.x 0)),ox 2 (.mv (.c (.str [])))]) (.seq (.reg [ot 4 (.ldn 2 (.x 1)),ot 5 (.call 110 [.t 4]),ot 6 (.fld 1 (.t 5)),ot 7 (.call 63 [.t 6]),ow 3 7]) (.seq (.seq (.reg [ot 8 (.ldn 2 (.x 1)),ot 9 (.call 111 [.t 8]),ox 10 (.bin .lss (.t 9) (oi 0))]) (.cond (.x 10) (.seq (.reg [om 11 3,ot 12 (.bin .add (.c (.str [45])) (.t 11)),ow 2 12]) .ret) .skip)) (.seq (.reg [om 13 3,ow 2 13]) .ret))))
def resiFormat : List RV := [.t 2]
theorem nbiFormat : fniFormat.nb = 0 := rfl
theorem isiFormat : IsFn fniFormat 62 codeiFormat resiFormat := .k Tryz.func62 rfl (by kernel_rfl)
noncomputable def fnrFormat : FnD := ⟨Tryz.prog,[0,2,3,4,5,26],[],29,false⟩
def coderFormat : DC := (.seq (.reg [ox 2 (.mv (.c (.str [])))]) (.seq (.reg [om 7 0,ot 8 (.call 119 [.t 7]),ow 0 8]) (.seq (.reg [ox 3 (.mv (.c (.str [])))]) (.block 0 (.loop (.block 1 (.seq (.reg [om 10 0,ot 11 (.bsl 1 [(.int .u32 0)] [(0,1,(.c (.int .u32 10)))]),ot 12 (.call 120 [.t 10,.t 11]),ot 9 (.mv (.t 12)),ot 13 (.ext (.t 9) 0),ot 14 (.ext (.t 9) 1),ot 15 (.ext (.t 9) 2),ow 4 13,ow 5 14,ot 6 (.mv (.t 15))]) (.seq (.reg [om 16 5,ot 17 (.call 121 [.t 16,(oi 0)]),ot 18 (.bin .add (.c (.int .u64 48)) (.t 17)),ot 19 (.conv .u8 (.t 18)),ot 20 (.bsl 1 [(.int .u8 0)] [(0,1,.t 19)]),ot 21 (.b2s (.t 20)),om 22 3,ot 23 (.bin .add (.t 21) (.t 22)),ow 3 23]) (.seq (.seq (.reg [om 24 4,ot 25 (.len 1 (.t 24)),ox 26 (.bin .eql (.t 25) (oi 0))]) (.cond (.x 26) (.seq (.reg [om 27 3,ow 2 27]) .ret) .skip)) (.reg [om 28 4,ow 0 28]))))))))))
def resrFormat : List RV := [.t 2]
theorem isrFormat : IsFn fnrFormat 66 coderFormat resrFormat := .k Tryz.func66 rfl (by kernel_rfl)
noncomputable def fnp_cut : FnD := ⟨Tryz.prog,[0,1,4,5,6,7,8,12,18,27],[],37,false⟩
def codep_cut : DC := (.seq (.reg [ox 4 (.mv (.c (.str []))),ox 5 (.mv (.c (.str []))),ox 6 (.mv (oi 0))]) (.seq (.seq (.reg [ox 7 (.mv (oi 0))]) (.block 0 (.loop (.seq (.seq (.reg [om 9 7,om 10 0,ot 11 (.lenS (.t 10)),ox 12 (.bin .lss (.t 9) (.t 11))]) (.cond (.x 12) .skip (.exit 0))) (.seq (.block 1 (.seq (.reg [ox 8 (.mv (oi 0))]) (.block 2 (.loop (.seq (.seq (.reg [om 15 8,om 16 1,ot 17 (.lenS (.t 16)),ox 18 (.bin .lss (.t 15) (.t 17))]) (.cond (.x 18) .skip (.exit 2))) (.seq (.block 3 (.seq (.regd [om 21 0,om 22 7,ot 23 (.idx (.t 21) (.t 22)),om 24 1,om 25 8,ot 26 (.idx (.t 24) (.t 25)),ox 27 (.bin .eql (.t 23) (.t 26))]) (.cond (.x 27) (.seq (.regd [om 28 0,om 29 7,ot 30 (.slcS (.t 28) none (some (.t 29))),om 31 0,om 32 7,ot 33 (.bin .add (.t 32) (oi 1)),ot 34 (.slcS (.t 31) (some (.t 33)) none),om 35 7,ow 4 30,ow 5 34,ow 6 35]) .ret) .skip))) (.reg [om 19 8,ot 20 (.bin .add (.t 19) (oi 1)),ow 8 20]))))))) (.reg [om 13 7,ot 14 (.bin .add (.t 13) (oi 1)),ow 7 14])))))) (.seq (.reg [om 36 0,ow 4 36,ox 5 (.mv (.c (.str []))),ox 6 (.mv (oi (-1)))]) .ret)))
def resp_cut : List RV := [.t 4, .t 5, .t 6]
theorem isp_cut : IsFn fnp_cut 72 codep_cut resp_cut := .k Tryz.func72 rfl (by kernel_rfl)
noncomputable def fnp_scaled : FnD := ⟨Tryz.prog,[0,1,2,3,6,7,13],[],20,false⟩
def codep_scaled : DC := (.seq (.reg [ox 3 (.box (.x 0)),ox 6 (.alloc [(.bool false),.nils,.nils])]) (.seq (.reg [ot 8 (.bsl 1 [(.int .u32 0)] [(0,1,(.c (.int .u32 10)))]),om 9 2,ot 10 (.call 134 [.t 8,.t 9]),ot 11 (.build [(.bool false),.nils] [(1,1,.t 10)]),ot 12 (.build [(.bool false),.nils,.nils] [(0,2,.t 11)]),ox 7 (.alloc [(.bool false),.nils,.nils]),on (.stn 3 (.x 7) (.t 12))]) (.seq (.seq (.reg [ox 13 (.mv (.x 1))]) (.cond (.x 13) (.seq (.reg [ot 14 (.ldn 3 (.x 3)),ot 15 (.ldn 3 (.x 7)),ot 16 (.call 135 [.t 14,.t 15]),on (.stn 3 (.x 6) (.t 16))]) .ret) .skip)) (.seq (.reg [ot 17 (.ldn 3 (.x 3)),ot 18 (.ldn 3 (.x 7)),ot 19 (.call 85 [.t 17,.t 18]),on (.stn 3 (.x 6) (.t 19))]) .ret))))
def resp_scaled : List RV := [.cn 3 6]
theorem nbp_scaled : fnp_scaled.nb = 0 := rfl
theorem isp_scaled : IsFn fnp_scaled 76 codep_scaled resp_scaled := .k Tryz.func76 rfl (by kernel_rfl)
noncomputable def fnq_den : FnD := ⟨Tryz.prog,[0,1,2,6],[],10,false⟩
def codeq_den : DC := (.seq (.reg [ox 1 (.box (.x 0)),ox 2 (.mv (.c .nils))]) (.seq (.seq (.reg [ot 3 (.fad 2 (.x 1)),ot 4 (.ld (.t 3)),ot 5 (.len 1 (.t 4)),ox 6 (.bin .eql (.t 5) (oi 0))]) (.cond (.x 6) (.seq (.reg [ot 7 (.call 83 []),ow 2 7]) .ret) .skip)) (.seq (.reg [ot 8 (.fad 2 (.x 1)),ot 9 (.ld (.t 8)),ow 2 9]) .ret)))
def resq_den : List RV := [.t 2]
theorem nbq_den : fnq_den.nb = 0 := rfl
theorem isq_den : IsFn fnq_den 80 codeq_den resq_den := .k Tryz.func80 rfl (by kernel_rfl)
noncomputable def fnrMul : FnD := ⟨Tryz.prog,[0,1,4,5,6,14],[],27,false⟩
def coderMul : DC := (.seq (.reg [ox 4 (.mv (.c .nils))]) (.seq (.reg [om 7 0,ot 8 (.call 119 [.t 7]),om 9 1,ot 10 (.call 119 [.t 9]),ow 0 8,ow 1 10]) (.seq (.reg [ox 5 (.mv (.c .nils))]) (.seq (.seq (.reg [ox 6 (.mv (oi 0))]) (.block 0 (.loop (.seq (.seq (.reg [om 11 6,om 12 1,ot 13 (.len 1 (.t 12)),ox 14 (.bin .lss (.t 11) (.t 13))]) (.cond (.x 14) .skip (.exit 0))) (.seq (.block 1 (.reg [om 17 5,om 18 0,om 19 1,om 20 6,ot 21 (.iad 1 (.t 19) (.t 20)),ot 22 (.ld (.t 21)),om 23 6,ot 24 (.call 131 [.t 18,.t 22,.t 23]),ot 25 (.call 106 [.t 17,.t 24]),ow 5 25])) (.reg [om 15 6,ot 16 (.bin .add (.t 15) (oi 1)),ow 6 16])))))) (.seq (.reg [om 26 5,ow 4 26]) .ret)))))
def resrMul : List RV := [.t 4]
theorem isrMul : IsFn fnrMul 84 coderMul resrMul := .k Tryz.func84 rfl (by kernel_rfl)
noncomputable def fnpCompare : FnD := ⟨Tryz.prog,[0,1,2,3,4],[],9,false⟩
def codepCompare : DC := (.seq (.reg [ox 2 (.box (.x 0)),ox 3 (.box (.x 1)),ox 4 (.mv (oi 0))]) (.seq (.reg [ot 5 (.ldn 3 (.x 2)),ot 6 (.ldn 3 (.x 3)),ot 7 (.call 89 [.t 5,.t 6]),ot 8 (.call 91 [.t 7]),ow 4 8]) .ret))
def respCompare : List RV := [.t 4]
theorem nbpCompare : fnpCompare.nb = 0 := rfl
theorem ispCompare : IsFn fnpCompare 88 codepCompare respCompare := .k Tryz.func88 rfl (by kernel_rfl)
noncomputable def fnsSign : FnD := ⟨Tryz.prog,[0,1,2,5,8],[],13,false⟩
def codesSign : DC := (.seq (.reg [ox 1 (.box (.x 0)),ox 2 (.mv (oi 0))]) (.seq (.reg [ot 3 (.ldn 2 (.x 1)),ot 4 (.call 118 [.t 3]),on (.stn 2 (.x 1) (.t 4))]) (.seq (.block 0 (.seq (.reg [ot 6 (.fad 0 (.x 1)),ot 7 (.ld (.t 6)),ow 5 7]) (.cond (.x 5) (.seq (.reg [ox 2 (.mv (oi (-1)))]) .ret) (.seq (.reg [ot 9 (.fad 1 (.x 1)),ot 10 (.ld (.t 9)),ot 11 (.len 1 (.t 10)),ot 12 (.bin .gtr (.t 11) (oi 0)),ow 8 12]) (.cond (.x 8) (.seq (.reg [ox 2 (.mv (oi 1))]) .ret) .skip))))) (.seq (.reg [ox 2 (.mv (oi 0))]) .ret))))
def ressSign : List RV := [.t 2]
theorem nbsSign : fnsSign.nb = 0 := rfl
theorem issSign : IsFn fnsSign 92 codesSign ressSign := .k Tryz.func92 rfl (by kernel_rfl)
noncomputable def fnsDiv : FnD := ⟨Tryz.prog,[0,1,2,3,4,5,6,7,8,9,24,33],[],53,false⟩
def codesDiv : DC := (.seq (.reg [ox 2 (.box (.x 0)),ox 3 (.box (.x 1)),ox 4 (.alloc [(.bool false),.nils]),ox 5 (.alloc [(.bool false),.nils]),ox 6 (.mv (.c (.bool false)))]) (.seq (.regd [ot 10 (.ldn 2 (.x 2)),ot 11 (.call 118 [.t 10]),ot 12 (.ldn 2 (.x 3)),ot 13 (.call 118 [.t 12]),on (.stn 2 (.x 2) (.t 11)),on (.stn 2 (.x 3) (.t 13))]) (.seq (.reg [ot 15 (.fad 1 (.x 2)),ot 16 (.ld (.t 15)),ot 17 (.fad 1 (.x 3)),ot 18 (.ld (.t 17)),ot 19 (.call 120 [.t 16,.t 18]),ot 14 (.mv (.t 19)),ot 20 (.ext (.t 14) 0),ot 21 (.ext (.t 14) 1),ot 22 (.ext (.t 14) 2),ow 7 20,ow 8 21,ow 9 22]) (.seq (.seq (.reg [om 23 9,ox 24 (.un .not (.t 23))]) (.cond (.x 24) (.seq (.reg [ot 25 (.build [(.bool false),.nils] []),ot 26 (.build [(.bool false),.nils] []),on (.stn 2 (.x 4) (.t 25)),on (.stn 2 (.x 5) (.t 26)),ox 6 (.mv (.c (.bool false)))]) .ret) .skip)) (.seq (.seq (.reg [ot 27 (.fad 0 (.x 2)),ot 28 (.ld (.t 27)),ot 29 (.mv (.t 28)),og 30 (.mv (.x 8)) 29 true,og 31 (.len 1 (.t 30)) 29 true,og 32 (.bin .gtr (.t 31) (oi 0)) 29 true,ox 33 (.pick (.t 29) (.t 32) (.c (.bool false)))]) (.cond (.x 33) (.seq (.reg [om 34 7,ot 35 (.bsl 1 [(.int .u32 0)] [(0,1,(.c (.int .u32 1)))]),ot 36 (.call 106 [.t 34,.t 35]),ow 7 36]) (.reg [ot 38 (.fad 1 (.x 3)),ot 39 (.ld (.t 38)),om 40 8,ot 41 (.call 145 [.t 39,.t 40]),ot 37 (.mv (.t 41)),ot 42 (.ext (.t 37) 0),ot 43 (.ext (.t 37) 1),ow 8 42])) .skip)) (.seq (.reg [ot 44 (.fad 0 (.x 2)),ot 45 (.ld (.t 44)),ot 46 (.fad 0 (.x 3)),ot 47 (.ld (.t 46)),ot 48 (.beq true (.t 45) (.t 47)),om 49 7,ot 50 (.call 105 [.t 48,.t 49]),om 51 8,ot 52 (.call 105 [(.c (.bool false)),.t 51]),on (.stn 2 (.x 4) (.t 50)),on (.stn 2 (.x 5) (.t 52)),ox 6 (.mv (.c (.bool true)))]) .ret))))))
def ressDiv : List RV := [.cn 2 4, .cn 2 5, .t 6]
theorem nbsDiv : fnsDiv.nb = 0 := rfl
theorem issDiv : IsFn fnsDiv 103 codesDiv ressDiv := .k Tryz.func103 rfl (by kernel_rfl)
noncomputable def fnrFromUint : FnD := ⟨Tryz.prog,[0,2],[],10,false⟩
def coderFromUint : DC := (.seq (.reg [ox 2 (.mv (.c .nils))]) (.seq (.reg [om 3 0,ot 4 (.conv .u32 (.t 3)),om 5 0,ot 6 (.bin .shr (.t 5) (.c (.int .u64 32))),ot 7 (.conv .u32 (.t 6)),ot 8 (.bsl 1 [(.int .u32 0),(.int .u32 0)] [(0,1,.t 4),(1,1,.t 7)]),ot 9 (.call 153 [.t 8]),ow 2 9]) .ret))
def resrFromUint : List RV := [.t 2]
theorem isrFromUint : IsFn fnrFromUint 107 coderFromUint resrFromUint := .k Tryz.func107 rfl (by kernel_rfl)
noncomputable def fnnValue : FnD := ⟨Tryz.prog,[0,2,4],[],6,false⟩
def codenValue : DC := (.seq (.reg [ox 2 (.mv (.c .nils))]) (.seq (.seq (.reg [om 3 0,ox 4 (.call 155 [.t 3])]) (.cond (.x 4) (.seq (.reg [om 5 0,ow 2 5]) .ret) .skip)) (.seq (.reg [ox 2 (.mv (.c .nils))]) .ret)))
def resnValue : List RV := [.t 2]
theorem isnValue : IsFn fnnValue 112 codenValue resnValue := .k Tryz.func112 rfl (by kernel_rfl)
noncomputable def fnrDiv : FnD := ⟨Tryz.prog,[0,1,4,5,6,7,8,9,10,11,18,24,38],[],46,false⟩
def coderDiv : DC := (.seq (.reg [ox 4 (.mv (.c .nils)),ox 5 (.mv (.c .nils)),ox 6 (.mv (.c (.bool false)))]) (.seq (.reg [om 12 0,ot 13 (.call 119 [.t 12]),om 14 1,ot 15 (.call 119 [.t 14]),ow 0 13,ow 1 15]) (.seq (.seq (.reg [om 16 1,ot 17 (.len 1 (.t 16)),ox 18 (.bin .eql (.t 17) (oi 0))]) (.cond (.x 18) (.seq (.reg [ox 4 (.mv (.c .nils)),ox 5 (.mv (.c .nils)),ox 6 (.mv (.c (.bool false)))]) .ret) .skip)) (.seq (.reg [ox 7 (.mv (.c .nils)),ox 8 (.mv (.c .nils))]) (.seq (.seq (.reg [om 19 0,ot 20 (.len 1 (.t 19)),ot 21 (.bin .mul (oi 32) (.t 20)),ot 22 (.bin .sub (.t 21) (oi 1)),ow 9 22]) (.block 0 (.loop (.seq (.seq (.reg [om 23 9,ox 24 (.bin .geq (.t 23) (oi 0))]) (.cond (.x 24) .skip (.exit 0))) (.seq (.block 1 (.seq (.reg [om 27 8,om 28 0,om 29 9,ot 30 (.call 161 [.t 28,.t 29]),ot 31 (.call 160 [.t 27,.t 30]),ow 8 31]) (.seq (.reg [om 33 8,om 34 1,ot 35 (.call 145 [.t 33,.t 34]),ot 32 (.mv (.t 35)),ot 36 (.ext (.t 32) 0),ot 37 (.ext (.t 32) 1),ow 10 36,ow 11 37]) (.seq (.reg [ox 38 (.mv (.x 11))]) (.cond (.x 38) (.reg [om 39 10,om 40 7,ot 41 (.call 160 [.t 40,(.c (.int .u32 1))]),ow 8 39,ow 7 41]) (.reg [om 42 7,ot 43 (.call 160 [.t 42,(.c (.int .u32 0))]),ow 7 43])))))) (.reg [om 25 9,ot 26 (.bin .sub (.t 25) (oi 1)),ow 9 26])))))) (.seq (.reg [om 44 7,om 45 8,ow 4 44,ow 5 45,ox 6 (.mv (.c (.bool true)))]) .ret))))))
def resrDiv : List RV := [.t 4, .t 5, .t 6]
theorem isrDiv : IsFn fnrDiv 120 coderDiv resrDiv := .k Tryz.func120 rfl (by kernel_rfl)
noncomputable def fnnParse : FnD := ⟨Tryz.prog,[0,2,3,4,5,6,7,9,26,33,41,47,48,49,50,58],[],74,false⟩
def codenParse : DC := (.seq (.reg [ox 2 (.mv (.c .nils)),ox 3 (.mv (.c (.bool false)))]) (.seq (.seq (.reg [om 10 0,ot 11 (.bin .eql (.t 10) (.c (.str []))),ot 12 (.mv (.t 11)),og 13 (.mv (.x 0)) 12 false,og 14 (.lenS (.t 13)) 12 false,og 15 (.bin .gtr (.t 14) (oi 4000)) 12 false,ot 16 (.pick (.t 12) (.c (.bool true)) (.t 15)),ot 17 (.mv (.t 16)),og 18 (.mv (.x 0)) 17 false,og 19 (.idx (.t 18) (oi 0)) 17 false,og 20 (.bin .eql (.t 19) (.c (.int .u8 48))) 17 false,og 21 (.mv (.t 20)) 17 false,og 22 (.mv (.x 0)) 21 true,og 23 (.lenS (.t 22)) 21 true,og 24 (.bin .gtr (.t 23) (oi 1)) 21 true,og 25 (.pick (.t 21) (.t 24) (.c (.bool false))) 17 false,ox 26 (.pick (.t 17) (.c (.bool true)) (.t 25))]) (.cond (.x 26) (.seq (.reg [ox 2 (.mv (.c .nils)),ox 3 (.mv (.c (.bool false)))]) .ret) .skip)) (.seq (.reg [om 27 0,ot 28 (.lenS (.t 27)),ot 29 (.bin .rem (.t 28) (oi 9)),ow 4 29]) (.seq (.seq (.reg [ox 5 (.mv (oi 0))]) (.block 0 (.loop (.seq (.seq (.reg [om 30 5,om 31 0,ot 32 (.lenS (.t 31)),ox 33 (.bin .lss (.t 30) (.t 32))]) (.cond (.x 33) .skip (.exit 0))) (.block 1 (.seq (.reg [om 34 5,ot 35 (.bin .add (.t 34) (oi 9)),ow 6 35]) (.seq (.seq (.reg [om 36 5,ot 37 (.bin .eql (.t 36) (oi 0)),ot 38 (.mv (.t 37)),og 39 (.mv (.x 4)) 38 true,og 40 (.bin .gtr (.t 39) (oi 0)) 38 true,ox 41 (.pick (.t 38) (.t 40) (.c (.bool false)))]) (.cond (.x 41) (.reg [om 42 4,ow 6 42]) .skip)) (.seq (.reg [ox 7 (.mv (.c (.int .u64 0)))]) (.seq (.seq (.reg [om 43 0,om 44 5,om 45 6,ot 46 (.slcS (.t 43) (some (.t 44)) (some (.t 45))),ox 47 (.s2b (.t 46)),ox 48 (.len 1 (.x 47)),ox 49 (.mv (oi 0))]) (.block 2 (.loop (.seq (.reg [ox 50 (.bin .lss (.x 49) (.x 48))]) (.seq (.cond (.x 50) .skip (.exit 2)) (.seq (.block 3 (.seq (.reg [ot 51 (.iad 1 (.x 47) (.x 49)),ot 52 (.ld (.t 51)),ow 9 52]) (.seq (.seq (.reg [om 53 9,ot 54 (.bin .lss (.t 53) (.c (.int .u8 48))),ot 55 (.mv (.t 54)),og 56 (.mv (.x 9)) 55 false,og 57 (.bin .gtr (.t 56) (.c (.int .u8 57))) 55 false,ox 58 (.pick (.t 55) (.c (.bool true)) (.t 57))]) (.cond (.x 58) (.seq (.reg [ox 2 (.mv (.c .nils)),ox 3 (.mv (.c (.bool false)))]) .ret) .skip)) (.reg [om 59 7,ot 60 (.bin .mul (.c (.int .u64 10)) (.t 59)),om 61 9,ot 62 (.bin .sub (.t 61) (.c (.int .u8 48))),ot 63 (.conv .u64 (.t 62)),ot 64 (.bin .add (.t 60) (.t 63)),ow 7 64])))) (.reg [ot 65 (.bin .add (.x 49) (oi 1)),ow 49 65]))))))) (.seq (.reg [om 66 2,ot 67 (.bsl 1 [(.int .u32 0)] [(0,1,(.c (.int .u32 1000000000)))]),ot 68 (.call 78 [.t 66,.t 67]),om 69 7,ot 70 (.call 137 [.t 69]),ot 71 (.call 82 [.t 68,.t 70]),ow 2 71]) (.reg [om 72 6,ow 5 72]))))))))))) (.seq (.reg [om 73 2,ow 2 73,ox 3 (.mv (.c (.bool true)))]) .ret)))))
def resnParse : List RV := [.t 2, .t 3]
theorem isnParse : IsFn fnnParse 125 codenParse resnParse := .k Tryz.func125 rfl (by kernel_rfl)
noncomputable def fnnGcd : FnD := ⟨Tryz.prog,[0,1,4,5,6,7,8,10,18,32],[],48,false⟩
def codenGcd : DC := (.seq (.reg [ox 4 (.mv (.c .nils))]) (.seq (.reg [om 12 0,ot 13 (.call 112 [.t 12]),om 14 1,ot 15 (.call 112 [.t 14]),ow 0 13,ow 1 15]) (.seq (.block 0 (.loop (.seq (.seq (.reg [om 16 1,ot 17 (.len 1 (.t 16)),ox 18 (.bin .gtr (.t 17) (oi 0))]) (.cond (.x 18) .skip (.exit 0))) (.block 1 (.seq (.reg [om 20 0,ot 21 (.call 167 [.t 20]),ot 19 (.mv (.t 21)),ot 22 (.ext (.t 19) 0),ot 23 (.ext (.t 19) 1),ow 5 22,ow 6 23]) (.seq (.seq (.reg [om 25 1,ot 26 (.call 167 [.t 25]),ot 24 (.mv (.t 26)),ot 27 (.ext (.t 24) 0),ot 28 (.ext (.t 24) 1),ow 7 27,ow 8 28]) (.seq (.reg [om 29 6,ot 30 (.mv (.t 29)),og 31 (.mv (.x 8)) 30 true,ox 32 (.pick (.t 30) (.t 31) (.c (.bool false)))]) (.cond (.x 32) (.seq (.reg [om 33 5,om 34 7,ot 35 (.call 169 [.t 33,.t 34]),ot 36 (.call 137 [.t 35]),ow 4 36]) .ret) .skip))) (.seq (.reg [om 38 0,om 39 1,ot 40 (.call 77 [.t 38,.t 39]),ot 37 (.mv (.t 40)),ot 41 (.ext (.t 37) 0),ot 42 (.ext (.t 37) 1),ot 43 (.ext (.t 37) 2),ot 9 (.mv (.t 41)),ow 10 42,ot 11 (.mv (.t 43))]) (.reg [om 44 1,om 45 10,ow 0 44,ow 1 45])))))))) (.seq (.reg [om 46 0,ot 47 (.call 136 [.t 46]),ow 4 47]) .ret))))
def resnGcd : List RV := [.t 4]
theorem isnGcd : IsFn fnnGcd 130 codenGcd resnGcd := .k Tryz.func130 rfl (by kernel_rfl)
noncomputable def fnrPower : FnD := ⟨Tryz.prog,[0,1,4,5,6,12,16],[],23,false⟩
def coderPower : DC := (.seq (.reg [ox 4 (.mv (.c .nils))]) (.seq (.seq (.reg [om 7 1,ot 8 (.bin .lss (.t 7) (oi 0)),ot 9 (.mv (.t 8)),og 10 (.mv (.x 1)) 9 false,og 11 (.bin .gtr (.t 10) (oi 64)) 9 false,ox 12 (.pick (.t 9) (.c (.bool true)) (.t 11))]) (.cond (.x 12) (.seq (.reg [ox 4 (.mv (.c .nils))]) .ret) .skip)) (.seq (.reg [ot 13 (.bsl 1 [(.int .u32 0)] [(0,1,(.c (.int .u32 1)))]),ow 5 13]) (.seq (.seq (.reg [ox 6 (.mv (oi 0))]) (.block 0 (.loop (.seq (.seq (.reg [om 14 6,om 15 1,ox 16 (.bin .lss (.t 14) (.t 15))]) (.cond (.x 16) .skip (.exit 0))) (.seq (.block 1 (.reg [om 19 5,om 20 0,ot 21 (.call 84 [.t 19,.t 20]),ow 5 21])) (.reg [om 17 6,ot 18 (.bin .add (.t 17) (oi 1)),ow 6 18])))))) (.seq (.reg [om 22 5,ow 4 22]) .ret)))))
def resrPower : List RV := [.t 4]
theorem isrPower : IsFn fnrPower 134 coderPower resrPower := .k Tryz.func134 rfl (by kernel_rfl)
noncomputable def fnnDivide : FnD := ⟨Tryz.prog,[0,1,4,5,6,7,8,9,10,11,12,39,82,102,103,104],[],130,false⟩
def codenDivide : DC := (.seq (.reg [ox 4 (.mv (.c .nils)),ox 5 (.mv (.c .nils))]) (.seq (.reg [om 13 1,om 14 1,ot 15 (.len 1 (.t 14)),ot 16 (.bin .sub (.t 15) (oi 1)),ot 17 (.iad 1 (.t 13) (.t 16)),ot 18 (.ld (.t 17)),ot 19 (.call 170 [.t 18]),om 20 1,ot 21 (.len 1 (.t 20)),ow 6 19,ow 7 21]) (.seq (.reg [om 22 0,om 23 6,ot 24 (.call 171 [.t 22,.t 23]),om 25 1,om 26 6,ot 27 (.call 171 [.t 25,.t 26]),ot 28 (.call 139 [.t 27]),ow 8 24,ow 9 28]) (.seq (.reg [om 29 0,ot 30 (.len 1 (.t 29)),om 31 7,ot 32 (.bin .sub (.t 30) (.t 31)),ot 33 (.bin .add (.t 32) (oi 1)),ot 34 (.mks 1 4 [(.int .u32 0)] (.t 33) (.t 33)),ow 4 34]) (.seq (.seq (.reg [om 35 4,ot 36 (.len 1 (.t 35)),ot 37 (.bin .sub (.t 36) (oi 1)),ow 10 37]) (.block 0 (.loop (.seq (.seq (.reg [om 38 10,ox 39 (.bin .geq (.t 38) (oi 0))]) (.cond (.x 39) .skip (.exit 0))) (.seq (.block 1 (.seq (.regd [om 42 8,om 43 10,om 44 7,ot 45 (.bin .add (.t 43) (.t 44)),ot 46 (.iad 1 (.t 42) (.t 45)),ot 47 (.ld (.t 46)),om 48 8,om 49 10,om 50 7,ot 51 (.bin .add (.t 49) (.t 50)),ot 52 (.bin .sub (.t 51) (oi 1)),ot 53 (.iad 1 (.t 48) (.t 52)),ot 54 (.ld (.t 53)),om 55 8,om 56 10,om 57 7,ot 58 (.bin .add (.t 56) (.t 57)),ot 59 (.bin .sub (.t 58) (oi 2)),ot 60 (.iad 1 (.t 55) (.t 59)),ot 61 (.ld (.t 60)),om 62 9,om 63 7,ot 64 (.bin .sub (.t 63) (oi 1)),ot 65 (.iad 1 (.t 62) (.t 64)),ot 66 (.ld (.t 65)),om 67 9,om 68 7,ot 69 (.bin .sub (.t 68) (oi 2)),ot 70 (.iad 1 (.t 67) (.t 69)),ot 71 (.ld (.t 70)),ot 72 (.call 172 [.t 47,.t 54,.t 61,.t 66,.t 71]),ow 11 72]) (.seq (.seq (.reg [om 73 8,om 74 10,om 75 10,om 76 7,ot 77 (.bin .add (.t 75) (.t 76)),ot 78 (.bin .add (.t 77) (oi 1)),ot 79 (.slc 1 (.t 73) (some (.t 74)) (some (.t 78))),om 80 9,om 81 11,ox 82 (.call 173 [.t 79,.t 80,.t 81])]) (.cond (.x 82) (.seq (.reg [om 83 8,om 84 10,om 85 10,om 86 7,ot 87 (.bin .add (.t 85) (.t 86)),ot 88 (.bin .add (.t 87) (oi 1)),ot 89 (.slc 1 (.t 83) (some (.t 84)) (some (.t 88))),om 90 9,ot 91 (.call 174 [.t 89,.t 90])]) (.reg [om 92 11,ot 93 (.bin .sub (.t 92) (.c (.int .u64 1))),ow 11 93])) .skip)) (.reg [om 94 4,om 95 10,om 96 11,ot 97 (.conv .u32 (.t 96)),ot 98 (.iad 1 (.t 94) (.t 95)),on (.st (.t 98) (.t 97))])))) (.reg [om 40 10,ot 41 (.bin .sub (.t 40) (oi 1)),ow 10 41])))))) (.seq (.reg [om 99 7,ot 100 (.mks 1 4 [(.int .u32 0)] (.t 99) (.t 99)),ow 5 100]) (.seq (.seq (.reg [om 101 5,ox 102 (.len 1 (.t 101)),ox 103 (.mv (oi 0))]) (.block 2 (.loop (.seq (.reg [ox 104 (.bin .lss (.x 103) (.x 102))]) (.seq (.cond (.x 104) .skip (.exit 2)) (.seq (.block 3 (.seq (.reg [om 105 103,ow 12 105]) (.regd [om 106 5,om 107 12,om 108 8,om 109 12,ot 110 (.bin .add (.t 109) (oi 1)),ot 111 (.iad 1 (.t 108) (.t 110)),ot 112 (.ld (.t 111)),ot 113 (.conv .u64 (.t 112)),ot 114 (.bin .shl (.t 113) (.c (.int .u64 32))),om 115 8,om 116 12,ot 117 (.iad 1 (.t 115) (.t 116)),ot 118 (.ld (.t 117)),ot 119 (.conv .u64 (.t 118)),ot 120 (.bin .or (.t 114) (.t 119)),om 121 6,ot 122 (.bin .shr (.t 120) (.t 121)),ot 123 (.conv .u32 (.t 122)),ot 124 (.iad 1 (.t 106) (.t 107)),on (.st (.t 124) (.t 123))]))) (.reg [ot 125 (.bin .add (.x 103) (oi 1)),ow 103 125]))))))) (.seq (.reg [om 126 4,ot 127 (.call 139 [.t 126]),om 128 5,ot 129 (.call 139 [.t 128]),ow 4 127,ow 5 129]) .ret))))))))
def resnDivide : List RV := [.t 4, .t 5]
theorem nbnDivide : fnnDivide.nb = 0 := rfl
theorem isnDivide : IsFn fnnDivide 138 codenDivide resnDivide := .k Tryz.func138 rfl (by kernel_rfl)
noncomputable def fnsMul : FnD := ⟨Tryz.prog,[0,1,2,3,4],[],20,false⟩
def codesMul : DC := (.seq (.reg [ox 2 (.box (.x 0)),ox 3 (.box (.x 1)),ox 4 (.alloc [(.bool false),.nils])]) (.seq (.regd [ot 5 (.ldn 2 (.x 2)),ot 6 (.call 118 [.t 5]),ot 7 (.ldn 2 (.x 3)),ot 8 (.call 118 [.t 7]),on (.stn 2 (.x 2) (.t 6)),on (.stn 2 (.x 3) (.t 8))]) (.seq (.regd [ot 9 (.fad 0 (.x 2)),ot 10 (.ld (.t 9)),ot 11 (.fad 0 (.x 3)),ot 12 (.ld (.t 11)),ot 13 (.beq true (.t 10) (.t 12)),ot 14 (.fad 1 (.x 2)),ot 15 (.ld (.t 14)),ot 16 (.fad 1 (.x 3)),ot 17 (.ld (.t 16)),ot 18 (.call 84 [.t 15,.t 17]),ot 19 (.call 105 [.t 13,.t 18]),on (.stn 2 (.x 4) (.t 19))]) .ret)))
def ressMul : List RV := [.cn 2 4]
theorem nbsMul : fnsMul.nb = 0 := rfl
theorem issMul : IsFn fnsMul 142 codesMul ressMul := .k Tryz.func142 rfl (by kernel_rfl)
noncomputable def fnrGcd : FnD := ⟨Tryz.prog,[0,1,4,6,14],[],25,false⟩
def coderGcd : DC := (.seq (.reg [ox 4 (.mv (.c .nils))]) (.seq (.reg [om 8 0,ot 9 (.call 119 [.t 8]),om 10 1,ot 11 (.call 119 [.t 10]),ow 0 9,ow 1 11]) (.seq (.block 0 (.loop (.seq (.seq (.reg [om 12 1,ot 13 (.len 1 (.t 12)),ox 14 (.bin .gtr (.t 13) (oi 0))]) (.cond (.x 14) .skip (.exit 0))) (.block 1 (.seq (.reg [om 16 0,om 17 1,ot 18 (.call 120 [.t 16,.t 17]),ot 15 (.mv (.t 18)),ot 19 (.ext (.t 15) 0),ot 20 (.ext (.t 15) 1),ot 21 (.ext (.t 15) 2),ot 5 (.mv (.t 19)),ow 6 20,ot 7 (.mv (.t 21))]) (.reg [om 22 1,om 23 6,ow 0 22,ow 1 23])))))) (.seq (.reg [om 24 0,ow 4 24]) .ret))))
def resrGcd : List RV := [.t 4]
theorem isrGcd : IsFn fnrGcd 152 coderGcd resrGcd := .k Tryz.func152 rfl (by kernel_rfl)
noncomputable def fnDiv32 : FnD := ⟨Tryz.prog,[0,1,2,6,7,8,15],[],33,false⟩
def codeDiv32 : DC := (.seq (.reg [ox 6 (.mv (.c (.int .u32 0))),ox 7 (.mv (.c (.int .u32 0)))]) (.seq (.seq (.reg [om 9 2,ot 10 (.bin .neq (.t 9) (.c (.int .u32 0))),ot 11 (.mv (.t 10)),og 12 (.mv (.x 2)) 11 true,og 13 (.mv (.x 0)) 11 true,og 14 (.bin .leq (.t 12) (.t 13)) 11 true,ox 15 (.pick (.t 11) (.t 14) (.c (.bool false)))]) (.cond (.x 15) (.reg [ot 16 (.ld (.c .undef)),on (.pan (.t 16))]) .skip)) (.seq (.reg [om 17 0,ot 18 (.conv .u64 (.t 17)),ot 19 (.bin .shl (.t 18) (.c (.int .u64 32))),om 20 1,ot 21 (.conv .u64 (.t 20)),ot 22 (.bin .or (.t 19) (.t 21)),ow 8 22]) (.seq (.regd [om 23 8,om 24 2,ot 25 (.conv .u64 (.t 24)),ot 26 (.bin .quo (.t 23) (.t 25)),ot 27 (.conv .u32 (.t 26)),om 28 8,om 29 2,ot 30 (.conv .u64 (.t 29)),ot 31 (.bin .rem (.t 28) (.t 30)),ot 32 (.conv .u32 (.t 31)),ow 6 27,ow 7 32]) .ret))))
def resDiv32 : List RV := [.t 6, .t 7]
theorem isDiv32 : IsFn fnDiv32 156 codeDiv32 resDiv32 := .k Tryz.func156 rfl (by kernel_rfl)
noncomputable def fnrBit : FnD := ⟨Tryz.prog,[0,1,4],[],15,false⟩
def coderBit : DC := (.seq (.reg [ox 4 (.mv (.c (.int .u32 0)))]) (.seq (.reg [om 5 0,om 6 1,ot 7 (.bin .quo (.t 6) (oi 32)),ot 8 (.iad 1 (.t 5) (.t 7)),ot 9 (.ld (.t 8)),om 10 1,ot 11 (.bin .rem (.t 10) (oi 32)),ot 12 (.conv .u64 (.t 11)),ot 13 (.bin .shr (.t 9) (.t 12)),ot 14 (.bin .and (.t 13) (.c (.int .u32 1))),ow 4 14]) .ret))
def resrBit : List RV := [.t 4]
theorem isrBit : IsFn fnrBit 161 coderBit resrBit := .k Tryz.func161 rfl (by kernel_rfl)
noncomputable def fnLz32 : FnD := ⟨Tryz.prog,[0,2],[],6,false⟩
def codeLz32 : DC := (.seq (.reg [ox 2 (.mv (oi 0))]) (.seq (.reg [om 3 0,ot 4 (.call 189 [.t 3]),ot 5 (.bin .sub (oi 32) (.t 4)),ow 2 5]) .ret))
def resLz32 : List RV := [.t 2]
theorem isLz32 : IsFn fnLz32 170 codeLz32 resLz32 := .k Tryz.func170 rfl (by kernel_rfl)
noncomputable def fnnRestore : FnD := ⟨Tryz.prog,[0,1,4,5,6,8,9,10,15],[],34,false⟩
def codenRestore : DC := (.seq (.reg [ox 4 (.mv (.c (.int .u32 0)))]) (.seq (.reg [om 7 0,ox 8 (.len 1 (.t 7)),ox 9 (.mv (oi 0))]) (.block 0 (.loop (.seq (.reg [ox 10 (.bin .lss (.x 9) (.x 8))]) (.seq (.cond (.x 10) .skip (.exit 0)) (.seq (.block 1 (.seq (.reg [om 11 9,ow 5 11]) (.seq (.reg [ox 6 (.mv (.c (.int .u32 0)))]) (.seq (.seq (.reg [om 12 5,om 13 1,ot 14 (.len 1 (.t 13)),ox 15 (.bin .lss (.t 12) (.t 14))]) (.cond (.x 15) (.reg [om 16 1,om 17 5,ot 18 (.iad 1 (.t 16) (.t 17)),ot 19 (.ld (.t 18)),ow 6 19]) .skip)) (.reg [om 21 0,om 22 5,om 23 0,om 24 5,ot 25 (.iad 1 (.t 23) (.t 24)),ot 26 (.ld (.t 25)),om 27 6,om 28 4,ot 29 (.call 141 [.t 26,.t 27,.t 28]),ot 20 (.mv (.t 29)),ot 30 (.ext (.t 20) 0),ot 31 (.ext (.t 20) 1),ot 32 (.iad 1 (.t 21) (.t 22)),on (.st (.t 32) (.t 30)),ow 4 31]))))) (.reg [ot 33 (.bin .add (.x 9) (oi 1)),ow 9 33]))))))))
def resnRestore : List RV := []
theorem isnRestore : IsFn fnnRestore 174 codenRestore resnRestore := .k Tryz.func174 rfl (by kernel_rfl)
end Go.Proofs.YtjfedgpbedppeaaGreatDoor
namespace Go.Proofs
open Go.Shelf
def Tryz.lays169_ren : Go.Shelf.Ren := ⟨fun | 169 => 40 | n => n, fun | 70 => 69 | 9 => 9 | 0 => 0 | 72 => 71 | 37 => 38 | 127 => 102 | 3 => 3 | 5 => 5 | n => n, fun | n => n⟩
theorem Tryz.lays169 : Go.Proofs.Lays.n169 Tryz.prog Tryz.lays169_ren := {
 mixed := by kernel_rfl
 f169 := Tryz.func40.trans (congrArg some (by kernel_rfl))
 t0 := Tryz.underlying0
 a0 := Tryz.isAgg0
 z0 := Tryz.sizeOf0
 v0 := Tryz.zeroValue0
 t3 := Tryz.underlying3
 a3 := Tryz.isAgg3
 z3 := Tryz.sizeOf3
 v3 := Tryz.zeroValue3
 t9 := Tryz.underlying9
 a9 := Tryz.isAgg9
 z9 := Tryz.sizeOf9
 v9 := Tryz.zeroValue9
 t37 := Tryz.underlying38
 a37 := Tryz.isAgg38
 z37 := Tryz.sizeOf38
 v37 := Tryz.zeroValue38
 t70 := Tryz.underlying69
 a70 := Tryz.isAgg69
 z70 := Tryz.sizeOf69
 v70 := Tryz.zeroValue69
 t72 := Tryz.underlying71
 a72 := Tryz.isAgg71
 z72 := Tryz.sizeOf71
 v72 := Tryz.zeroValue71
 t127 := Tryz.underlying102
 a127 := Tryz.isAgg102
 z127 := Tryz.sizeOf102
 v127 := Tryz.zeroValue102 }
theorem Tryz.Builder_Extra_169 : Builder.Extra Tryz.prog Tryz.lays169_ren := {
 sizeBuilder := by kernel_rfl
 liesBuilder := by kernel_rfl
 t5 := Tryz.underlying5
 a5 := Tryz.isAgg5
 z5 := Tryz.sizeOf5
 v5 := Tryz.zeroValue5
 infoByte := by kernel_rfl
 cellsByte := by kernel_rfl
 sizeByte := by kernel_rfl
 neB5 := by decide }
def Tryz.lays156_ren : Go.Shelf.Ren := ⟨fun | 156 => 116 | 165 => 98 | 166 => 37 | 169 => 40 | 240 => 60 | 241 => 148 | 276 => 108 | 277 => 176 | n => n, fun | 31 => 39 | 9 => 9 | 3 => 3 | 4 => 4 | 0 => 0 | 20 => 20 | 72 => 71 | 76 => 78 | 70 => 69 | 37 => 38 | 75 => 77 | 127 => 102 | 164 => 142 | 5 => 5 | 80 => 82 | n => n, fun | n => n⟩
theorem Tryz.lays156 : Go.Proofs.Lays.n156 Tryz.prog Tryz.lays156_ren := {
 mixed := by kernel_rfl
 f156 := Tryz.func116.trans (congrArg some (by kernel_rfl))
 f165 := Tryz.func98.trans (congrArg some (by kernel_rfl))
 f166 := Tryz.func37.trans (congrArg some (by kernel_rfl))
 f169 := Tryz.func40.trans (congrArg some (by kernel_rfl))
 f240 := Tryz.func60.trans (congrArg some (by kernel_rfl))
 f241 := Tryz.func148.trans (congrArg some (by kernel_rfl))
 f276 := Tryz.func108.trans (congrArg some (by kernel_rfl))
 f277 := Tryz.func176.trans (congrArg some (by kernel_rfl))
 t0 := Tryz.underlying0
 a0 := Tryz.isAgg0
 z0 := Tryz.sizeOf0
 v0 := Tryz.zeroValue0
 t3 := Tryz.underlying3
 a3 := Tryz.isAgg3
 z3 := Tryz.sizeOf3
 v3 := Tryz.zeroValue3
 t4 := Tryz.underlying4
 a4 := Tryz.isAgg4
 z4 := Tryz.sizeOf4
 v4 := Tryz.zeroValue4
 t9 := Tryz.underlying9
 a9 := Tryz.isAgg9
 z9 := Tryz.sizeOf9
 v9 := Tryz.zeroValue9
 t20 := Tryz.underlying20
 a20 := Tryz.isAgg20
 z20 := Tryz.sizeOf20
 v20 := Tryz.zeroValue20
 t31 := Tryz.underlying39
 a31 := Tryz.isAgg39
 z31 := Tryz.sizeOf39
 v31 := Tryz.zeroValue39
 t37 := Tryz.underlying38
 a37 := Tryz.isAgg38
 z37 := Tryz.sizeOf38
 v37 := Tryz.zeroValue38
 t70 := Tryz.underlying69
 a70 := Tryz.isAgg69
 z70 := Tryz.sizeOf69
 v70 := Tryz.zeroValue69
 t72 := Tryz.underlying71
 a72 := Tryz.isAgg71
 z72 := Tryz.sizeOf71
 v72 := Tryz.zeroValue71
 t75 := Tryz.underlying77
 a75 := Tryz.isAgg77
 z75 := Tryz.sizeOf77
 v75 := Tryz.zeroValue77
 t76 := Tryz.underlying78
 a76 := Tryz.isAgg78
 z76 := Tryz.sizeOf78
 v76 := Tryz.zeroValue78
 t127 := Tryz.underlying102
 a127 := Tryz.isAgg102
 z127 := Tryz.sizeOf102
 v127 := Tryz.zeroValue102
 t164 := Tryz.underlying142
 a164 := Tryz.isAgg142
 z164 := Tryz.sizeOf142
 v164 := Tryz.zeroValue142 }
theorem Tryz.Builder_Extra_156 : Builder.Extra Tryz.prog Tryz.lays156_ren := {
 sizeBuilder := by kernel_rfl
 liesBuilder := by kernel_rfl
 t5 := Tryz.underlying5
 a5 := Tryz.isAgg5
 z5 := Tryz.sizeOf5
 v5 := Tryz.zeroValue5
 infoByte := by kernel_rfl
 cellsByte := by kernel_rfl
 sizeByte := by kernel_rfl
 neB5 := by decide }
open Go.RowKit in
theorem Tryz.strings_Join (bk o c : Nat) (xs : List ByteArray) (sep : ByteArray) (w : World) (hcells : ∀ (j : Nat) x, xs[j]? = some x → w.cell? ⟨bk, o + j, none⟩ = some (.string x)) (hbk : bk < w.heap.size) (hN : xs.length ≤ 140737488355328) (hcap : xs.length ≤ c) (hlen : (Lib.join (xs.map (·.data.toList)) sep.data.toList).length ≤ 140737488355328) :
  Calls Tryz.prog 116 #[.slice (some ⟨bk, o, none⟩) xs.length c, .string sep] w fun e w' => e = .returned (.string ⟨(Lib.join (xs.map (·.data.toList)) sep.data.toList).toArray⟩) ∧ Below w.heap.size w w' := Any.strings_Join Tryz.lays156 Tryz.Builder_Extra_156 bk o c xs sep w hcells hbk hN hcap hlen
def Tryz.lays161_ren : Go.Shelf.Ren := ⟨fun | 161 => 168 | 231 => 186 | 227 => 165 | 233 => 187 | 235 => 188 | 228 => 166 | 197 => 178 | 151 => 198 | 260 => 191 | 152 => 163 | 137 => 182 | 119 => 183 | 224 => 184 | 225 => 185 | 217 => 192 | 266 => 199 | n => n, fun | 9 => 9 | 4 => 4 | 3 => 3 | 5 => 5 | 117 => 174 | 116 => 173 | 0 => 0 | 124 => 190 | 105 => 185 | 21 => 21 | 119 => 199 | 46 => 129 | 139 => 202 | 138 => 201 | n => n, fun | 3 => 2 | 4 => 3 | n => n⟩
theorem Tryz.lays161 : Go.Proofs.Lays.n161 Tryz.prog Tryz.lays161_ren := {
 mixed := by kernel_rfl
 f119 := Tryz.func183.trans (congrArg some (by kernel_rfl))
 f137 := Tryz.func182.trans (congrArg some (by kernel_rfl))
 f151 := Tryz.func198.trans (congrArg some (by kernel_rfl))
 f152 := Tryz.func163.trans (congrArg some (by kernel_rfl))
 f161 := Tryz.func168.trans (congrArg some (by kernel_rfl))
 f197 := Tryz.func178.trans (congrArg some (by kernel_rfl))
 f217 := Tryz.func192.trans (congrArg some (by kernel_rfl))
 f224 := Tryz.func184.trans (congrArg some (by kernel_rfl))
 f225 := Tryz.func185.trans (congrArg some (by kernel_rfl))
 f227 := Tryz.func165.trans (congrArg some (by kernel_rfl))
 f228 := Tryz.func166.trans (congrArg some (by kernel_rfl))
 f231 := Tryz.func186.trans (congrArg some (by kernel_rfl))
 f233 := Tryz.func187.trans (congrArg some (by kernel_rfl))
 f235 := Tryz.func188.trans (congrArg some (by kernel_rfl))
 f260 := Tryz.func191.trans (congrArg some (by kernel_rfl))
 f266 := Tryz.func199.trans (congrArg some (by kernel_rfl))
 t0 := Tryz.underlying0
 a0 := Tryz.isAgg0
 z0 := Tryz.sizeOf0
 v0 := Tryz.zeroValue0
 t3 := Tryz.underlying3
 a3 := Tryz.isAgg3
 z3 := Tryz.sizeOf3
 v3 := Tryz.zeroValue3
 t4 := Tryz.underlying4
 a4 := Tryz.isAgg4
 z4 := Tryz.sizeOf4
 v4 := Tryz.zeroValue4
 t5 := Tryz.underlying5
 a5 := Tryz.isAgg5
 z5 := Tryz.sizeOf5
 v5 := Tryz.zeroValue5
 t9 := Tryz.underlying9
 a9 := Tryz.isAgg9
 z9 := Tryz.sizeOf9
 v9 := Tryz.zeroValue9
 t21 := Tryz.underlying21
 a21 := Tryz.isAgg21
 z21 := Tryz.sizeOf21
 v21 := Tryz.zeroValue21
 t46 := Tryz.underlying129
 a46 := Tryz.isAgg129
 z46 := Tryz.sizeOf129
 v46 := Tryz.zeroValue129
 t105 := Tryz.underlying185
 a105 := Tryz.isAgg185
 z105 := Tryz.sizeOf185
 v105 := Tryz.zeroValue185
 t116 := Tryz.underlying173
 a116 := Tryz.isAgg173
 z116 := Tryz.sizeOf173
 t117 := Tryz.underlying174
 a117 := Tryz.isAgg174
 z117 := Tryz.sizeOf174
 v117 := Tryz.zeroValue174
 t119 := Tryz.underlying199
 a119 := Tryz.isAgg199
 z119 := Tryz.sizeOf199
 t124 := Tryz.underlying190
 a124 := Tryz.isAgg190
 z124 := Tryz.sizeOf190
 v124 := Tryz.zeroValue190
 t138 := Tryz.underlying201
 a138 := Tryz.isAgg201
 z138 := Tryz.sizeOf201
 v138 := Tryz.zeroValue201
 t139 := Tryz.underlying202
 a139 := Tryz.isAgg202
 z139 := Tryz.sizeOf202
 v139 := Tryz.zeroValue202
 g3 := by kernel_rfl
 g4 := by kernel_rfl }
open Go.RowKit in
theorem Tryz.strings_TrimLeft_one (s : ByteArray) (c : UInt8) (hc : c.toNat < 128) (w : World) :
  Calls Tryz.prog 168 #[.string s, .string ⟨#[c]⟩] w fun e w' => e = .returned (.string ⟨(Lib.trimLeftB s.data.toList c).toArray⟩) ∧ w' = w := Any.strings_TrimLeft_one Tryz.lays161 s c hc w
def Tryz.lays119_ren : Go.Shelf.Ren := ⟨fun | 119 => 183 | n => n, fun | 21 => 21 | 4 => 4 | n => n, fun | n => n⟩
theorem Tryz.lays119 : Go.Proofs.Lays.n119 Tryz.prog Tryz.lays119_ren := {
 mixed := by kernel_rfl
 f119 := Tryz.func183.trans (congrArg some (by kernel_rfl))
 t4 := Tryz.underlying4
 a4 := Tryz.isAgg4
 z4 := Tryz.sizeOf4
 v4 := Tryz.zeroValue4
 t21 := Tryz.underlying21
 a21 := Tryz.isAgg21
 z21 := Tryz.sizeOf21
 v21 := Tryz.zeroValue21 }
theorem Tryz.utf8_ValidRune (r : Int) (w : World) :
  Calls Tryz.prog 183 #[.int .i32 r] w fun e w' => e = .returned (.bool (Lib.validRune r)) ∧ w' = w := Any.utf8_ValidRune Tryz.lays119 r w
def Tryz.lays137_ren : Go.Shelf.Ren := ⟨fun | 137 => 182 | 217 => 192 | 266 => 199 | n => n, fun | 9 => 9 | 5 => 5 | 3 => 3 | n => n, fun | n => n⟩
theorem Tryz.lays137 : Go.Proofs.Lays.n137 Tryz.prog Tryz.lays137_ren := {
 mixed := by kernel_rfl
 f137 := Tryz.func182.trans (congrArg some (by kernel_rfl))
 f217 := Tryz.func192.trans (congrArg some (by kernel_rfl))
 f266 := Tryz.func199.trans (congrArg some (by kernel_rfl))
 t3 := Tryz.underlying3
 a3 := Tryz.isAgg3
 z3 := Tryz.sizeOf3
 v3 := Tryz.zeroValue3
 t5 := Tryz.underlying5
 a5 := Tryz.isAgg5
 z5 := Tryz.sizeOf5
 v5 := Tryz.zeroValue5
 t9 := Tryz.underlying9
 a9 := Tryz.isAgg9
 z9 := Tryz.sizeOf9
 v9 := Tryz.zeroValue9 }
open Go.RowKit in
theorem Tryz.strings_IndexByte (s : ByteArray) (c : Int) (w : World) :
  Calls Tryz.prog 182 #[.string s, .int .u8 c] w fun e w' => e = .returned (.int .i64 (Lib.indexByte s.data.toList c.toNat.toUInt8)) ∧ w' = w := Any.strings_IndexByte Tryz.lays137 s c w
def Tryz.lays103_ren : Go.Shelf.Ren := ⟨fun | 103 => 45 | 210 => 68 | 206 => 123 | n => n, fun | 9 => 9 | 4 => 4 | 24 => 86 | 3 => 3 | n => n, fun | n => n⟩
theorem Tryz.lays103 : Go.Proofs.Lays.n103 Tryz.prog Tryz.lays103_ren := {
 mixed := by kernel_rfl
 f103 := Tryz.func45.trans (congrArg some (by kernel_rfl))
 f206 := Tryz.func123.trans (congrArg some (by kernel_rfl))
 f210 := Tryz.func68.trans (congrArg some (by kernel_rfl))
 t3 := Tryz.underlying3
 a3 := Tryz.isAgg3
 z3 := Tryz.sizeOf3
 v3 := Tryz.zeroValue3
 t4 := Tryz.underlying4
 a4 := Tryz.isAgg4
 z4 := Tryz.sizeOf4
 v4 := Tryz.zeroValue4
 t9 := Tryz.underlying9
 a9 := Tryz.isAgg9
 z9 := Tryz.sizeOf9
 v9 := Tryz.zeroValue9
 t24 := Tryz.underlying86
 a24 := Tryz.isAgg86
 z24 := Tryz.sizeOf86
 v24 := Tryz.zeroValue86 }
open Go.RowKit in
theorem Tryz.strings_CutPrefix (s p : ByteArray) (w : World) :
  Calls Tryz.prog 45 #[.string s, .string p] w fun e w' => e = .returned (.tuple #[.string ⟨(Lib.trimPrefix s.data.toList p.data.toList).toArray⟩, .bool (Lib.hasPrefix s.data.toList p.data.toList)]) ∧ w' = w := Any.strings_CutPrefix Tryz.lays103 s p w
open Go.RowKit in
theorem Tryz.Builder_String_any_f (B b : Nat) (l : List UInt8) (w : World) (h : Lib.IsBuilderF 71 5 B b (Lib.byteCells l) w) (hBw : B ≤ w.heap.size) :
  Calls Tryz.prog 40 #[.pointer (some ⟨b, 0, none⟩)] w fun e w' => e = .returned (.string ⟨l.toArray⟩) ∧ (Lib.IsBuilderF 71 5 B b (Lib.byteCells l) w' ∧ Below B w w') := Any.Builder_String_any_f Tryz.lays169 Tryz.Builder_Extra_169 B b l w h hBw
def Tryz.laysM171_ren : Go.Shelf.Ren := ⟨fun | 171 => 114 | 243 => 157 | 246 => 181 | 283 => 194 | 284 => 195 | 285 => 196 | 286 => 197 | 129 => 202 | 317 => 201 | 318 => 203 | 319 => 204 | 320 => 205 | 337 => 206 | 338 => 207 | n => n, fun | 3 => 3 | 9 => 9 | 2 => 2 | 4 => 4 | 171 => 193 | 0 => 0 | 53 => 111 | 37 => 38 | 5 => 5 | 173 => 196 | 212 => 205 | 51 => 66 | 20 => 20 | 213 => 206 | 46 => 129 | 232 => 208 | 233 => 209 | n => n, fun | 17 => 4 | 18 => 5 | 19 => 6 | n => n⟩
theorem Tryz.laysM171 : Go.Proofs.LaysM.n171 Tryz.prog Tryz.laysM171_ren := {
 mixed := by kernel_rfl
 f129 := Tryz.func202.trans (congrArg some (by kernel_rfl))
 f171 := Tryz.func114.trans (congrArg some (by kernel_rfl))
 f243 := Tryz.func157.trans (congrArg some (by kernel_rfl))
 f246 := Tryz.func181.trans (congrArg some (by kernel_rfl))
 f283 := Tryz.func194.trans (congrArg some (by kernel_rfl))
 f284 := Tryz.func195.trans (congrArg some (by kernel_rfl))
 f285 := Tryz.func196.trans (congrArg some (by kernel_rfl))
 f286 := Tryz.func197.trans (congrArg some (by kernel_rfl))
 f317 := Tryz.func201.trans (congrArg some (by kernel_rfl))
 f318 := Tryz.func203.trans (congrArg some (by kernel_rfl))
 f319 := Tryz.func204.trans (congrArg some (by kernel_rfl))
 f320 := Tryz.func205.trans (congrArg some (by kernel_rfl))
 f337 := Tryz.func206.trans (congrArg some (by kernel_rfl))
 f338 := Tryz.func207.trans (congrArg some (by kernel_rfl))
 t0 := Tryz.underlying0
 a0 := Tryz.isAgg0
 z0 := Tryz.sizeOf0
 v0 := Tryz.zeroValue0
 t2 := Tryz.underlying2
 a2 := Tryz.isAgg2
 z2 := Tryz.sizeOf2
 v2 := Tryz.zeroValue2
 t3 := Tryz.underlying3
 a3 := Tryz.isAgg3
 z3 := Tryz.sizeOf3
 v3 := Tryz.zeroValue3
 t4 := Tryz.underlying4
 a4 := Tryz.isAgg4
 z4 := Tryz.sizeOf4
 v4 := Tryz.zeroValue4
 t5 := Tryz.underlying5
 a5 := Tryz.isAgg5
 z5 := Tryz.sizeOf5
 v5 := Tryz.zeroValue5
 t9 := Tryz.underlying9
 a9 := Tryz.isAgg9
 z9 := Tryz.sizeOf9
 v9 := Tryz.zeroValue9
 t20 := Tryz.underlying20
 a20 := Tryz.isAgg20
 z20 := Tryz.sizeOf20
 v20 := Tryz.zeroValue20
 t37 := Tryz.underlying38
 a37 := Tryz.isAgg38
 z37 := Tryz.sizeOf38
 v37 := Tryz.zeroValue38
 t46 := Tryz.underlying129
 a46 := Tryz.isAgg129
 z46 := Tryz.sizeOf129
 v46 := Tryz.zeroValue129
 t51 := Tryz.underlying66
 a51 := Tryz.isAgg66
 z51 := Tryz.sizeOf66
 v51 := Tryz.zeroValue66
 t53 := Tryz.underlying111
 a53 := Tryz.isAgg111
 z53 := Tryz.sizeOf111
 v53 := Tryz.zeroValue111
 t171 := Tryz.underlying193
 a171 := Tryz.isAgg193
 z171 := Tryz.sizeOf193
 v171 := Tryz.zeroValue193
 t173 := Tryz.underlying196
 a173 := Tryz.isAgg196
 z173 := Tryz.sizeOf196
 v173 := Tryz.zeroValue196
 t212 := Tryz.underlying205
 a212 := Tryz.isAgg205
 z212 := Tryz.sizeOf205
 v212 := Tryz.zeroValue205
 t213 := Tryz.underlying206
 a213 := Tryz.isAgg206
 z213 := Tryz.sizeOf206
 t232 := Tryz.underlying208
 a232 := Tryz.isAgg208
 z232 := Tryz.sizeOf208
 v232 := Tryz.zeroValue208
 t233 := Tryz.underlying209
 a233 := Tryz.isAgg209
 z233 := Tryz.sizeOf209
 v233 := Tryz.zeroValue209
 g17 := by kernel_rfl
 g18 := by kernel_rfl
 g19 := by kernel_rfl
 i0 := by kernel_rfl
 i2 := by kernel_rfl
 i3 := by kernel_rfl
 i4 := by kernel_rfl
 i5 := by kernel_rfl
 i9 := by kernel_rfl
 i20 := by kernel_rfl
 i37 := by kernel_rfl
 i46 := by kernel_rfl
 i51 := by kernel_rfl
 i53 := by kernel_rfl
 i171 := by kernel_rfl
 i173 := by kernel_rfl
 i212 := by kernel_rfl
 i232 := by kernel_rfl
 i233 := by kernel_rfl
 m17 := by kernel_rfl
 m18 := by kernel_rfl
 m19 := by kernel_rfl }
open Go.RowKit Go.Sort Go.Lib in
theorem Tryz.strconv_Itoa (n : Int) (h0 : -9223372036854775808 ≤ n) (h1 : n ≤ 9223372036854775807) (w : World) (htab : Lib.TabIs Tryz.prog w "internal/strconv.uint64pow10" .u64 Lib.pow10Tab) :
  Calls Tryz.prog 114 #[.int .i64 n] w fun e w' => e = .returned (.string ⟨(Lib.itoa n).toArray⟩) ∧ ∃ k os, w' = grow (w.drewN k) os := Any.strconv_Itoa Tryz.laysM171 n h0 h1 w htab
def Tryz.lays219_ren : Go.Shelf.Ren := ⟨fun | 219 => 180 | 217 => 192 | 225 => 185 | 224 => 184 | 267 => 193 | 266 => 199 | 314 => 200 | n => n, fun | 9 => 9 | 3 => 3 | 4 => 4 | 5 => 5 | 46 => 129 | 146 => 161 | 51 => 66 | n => n, fun | 1 => 1 | n => n⟩
theorem Tryz.lays219 : Go.Proofs.Lays.n219 Tryz.prog Tryz.lays219_ren := {
 mixed := by kernel_rfl
 f217 := Tryz.func192.trans (congrArg some (by kernel_rfl))
 f219 := Tryz.func180.trans (congrArg some (by kernel_rfl))
 f224 := Tryz.func184.trans (congrArg some (by kernel_rfl))
 f225 := Tryz.func185.trans (congrArg some (by kernel_rfl))
 f266 := Tryz.func199.trans (congrArg some (by kernel_rfl))
 f267 := Tryz.func193.trans (congrArg some (by kernel_rfl))
 f314 := Tryz.func200.trans (congrArg some (by kernel_rfl))
 t3 := Tryz.underlying3
 a3 := Tryz.isAgg3
 z3 := Tryz.sizeOf3
 v3 := Tryz.zeroValue3
 t4 := Tryz.underlying4
 a4 := Tryz.isAgg4
 z4 := Tryz.sizeOf4
 v4 := Tryz.zeroValue4
 t5 := Tryz.underlying5
 a5 := Tryz.isAgg5
 z5 := Tryz.sizeOf5
 v5 := Tryz.zeroValue5
 t9 := Tryz.underlying9
 a9 := Tryz.isAgg9
 z9 := Tryz.sizeOf9
 v9 := Tryz.zeroValue9
 t46 := Tryz.underlying129
 a46 := Tryz.isAgg129
 z46 := Tryz.sizeOf129
 v46 := Tryz.zeroValue129
 t51 := Tryz.underlying66
 a51 := Tryz.isAgg66
 z51 := Tryz.sizeOf66
 v51 := Tryz.zeroValue66
 t146 := Tryz.underlying161
 a146 := Tryz.isAgg161
 z146 := Tryz.sizeOf161
 v146 := Tryz.zeroValue161
 g1 := by kernel_rfl }
open Go.RowKit Go.Lib in
theorem Tryz.stringslite_Index_one (s : ByteArray) (c : UInt8) (w : World) :
  Calls Tryz.prog 180 #[.string s, .string ⟨#[c]⟩] w fun e w' => e = .returned (.int .i64 (Lib.indexByte s.data.toList c)) ∧ w' = w := Any.stringslite_Index_one Tryz.lays219 s c w
def Tryz.lays100_ren : Go.Shelf.Ren := ⟨fun | 100 => 67 | 207 => 122 | n => n, fun | 9 => 9 | 4 => 4 | 3 => 3 | n => n, fun | n => n⟩
theorem Tryz.lays100 : Go.Proofs.Lays.n100 Tryz.prog Tryz.lays100_ren := {
 mixed := by kernel_rfl
 f100 := Tryz.func67.trans (congrArg some (by kernel_rfl))
 f207 := Tryz.func122.trans (congrArg some (by kernel_rfl))
 t3 := Tryz.underlying3
 a3 := Tryz.isAgg3
 z3 := Tryz.sizeOf3
 v3 := Tryz.zeroValue3
 t4 := Tryz.underlying4
 a4 := Tryz.isAgg4
 z4 := Tryz.sizeOf4
 v4 := Tryz.zeroValue4
 t9 := Tryz.underlying9
 a9 := Tryz.isAgg9
 z9 := Tryz.sizeOf9
 v9 := Tryz.zeroValue9 }
open Go.RowKit Go.Lib in
theorem Tryz.strings_HasSuffix (s p : ByteArray) (w : World) (hs : s.size ≤ 9223372036854775807) :
  Calls Tryz.prog 67 #[.string s, .string p] w fun e w' => e = .returned (.bool (Lib.hasSuffix s.data.toList p.data.toList)) ∧ w' = w := Any.strings_HasSuffix Tryz.lays100 s p w hs
def Tryz.lays146_ren : Go.Shelf.Ren := ⟨fun | 146 => 57 | 221 => 100 | 268 => 149 | 138 => 150 | 143 => 151 | 195 => 177 | 197 => 178 | 218 => 179 | 219 => 180 | 260 => 191 | 217 => 192 | 225 => 185 | 224 => 184 | 267 => 193 | 266 => 199 | 314 => 200 | n => n, fun | 9 => 9 | 31 => 39 | 3 => 3 | 4 => 4 | 0 => 0 | 105 => 185 | 21 => 21 | 5 => 5 | 46 => 129 | 119 => 199 | 139 => 202 | 138 => 201 | 146 => 161 | 51 => 66 | n => n, fun | 1 => 1 | 3 => 2 | 4 => 3 | n => n⟩
theorem Tryz.lays146 : Go.Proofs.Lays.n146 Tryz.prog Tryz.lays146_ren := {
 mixed := by kernel_rfl
 f138 := Tryz.func150.trans (congrArg some (by kernel_rfl))
 f143 := Tryz.func151.trans (congrArg some (by kernel_rfl))
 f146 := Tryz.func57.trans (congrArg some (by kernel_rfl))
 f195 := Tryz.func177.trans (congrArg some (by kernel_rfl))
 f197 := Tryz.func178.trans (congrArg some (by kernel_rfl))
 f217 := Tryz.func192.trans (congrArg some (by kernel_rfl))
 f218 := Tryz.func179.trans (congrArg some (by kernel_rfl))
 f219 := Tryz.func180.trans (congrArg some (by kernel_rfl))
 f221 := Tryz.func100.trans (congrArg some (by kernel_rfl))
 f224 := Tryz.func184.trans (congrArg some (by kernel_rfl))
 f225 := Tryz.func185.trans (congrArg some (by kernel_rfl))
 f260 := Tryz.func191.trans (congrArg some (by kernel_rfl))
 f266 := Tryz.func199.trans (congrArg some (by kernel_rfl))
 f267 := Tryz.func193.trans (congrArg some (by kernel_rfl))
 f268 := Tryz.func149.trans (congrArg some (by kernel_rfl))
 f314 := Tryz.func200.trans (congrArg some (by kernel_rfl))
 t0 := Tryz.underlying0
 a0 := Tryz.isAgg0
 z0 := Tryz.sizeOf0
 v0 := Tryz.zeroValue0
 t3 := Tryz.underlying3
 a3 := Tryz.isAgg3
 z3 := Tryz.sizeOf3
 v3 := Tryz.zeroValue3
 t4 := Tryz.underlying4
 a4 := Tryz.isAgg4
 z4 := Tryz.sizeOf4
 v4 := Tryz.zeroValue4
 t5 := Tryz.underlying5
 a5 := Tryz.isAgg5
 z5 := Tryz.sizeOf5
 v5 := Tryz.zeroValue5
 t9 := Tryz.underlying9
 a9 := Tryz.isAgg9
 z9 := Tryz.sizeOf9
 v9 := Tryz.zeroValue9
 t21 := Tryz.underlying21
 a21 := Tryz.isAgg21
 z21 := Tryz.sizeOf21
 v21 := Tryz.zeroValue21
 t31 := Tryz.underlying39
 a31 := Tryz.isAgg39
 z31 := Tryz.sizeOf39
 v31 := Tryz.zeroValue39
 t46 := Tryz.underlying129
 a46 := Tryz.isAgg129
 z46 := Tryz.sizeOf129
 v46 := Tryz.zeroValue129
 t51 := Tryz.underlying66
 a51 := Tryz.isAgg66
 z51 := Tryz.sizeOf66
 v51 := Tryz.zeroValue66
 t105 := Tryz.underlying185
 a105 := Tryz.isAgg185
 z105 := Tryz.sizeOf185
 v105 := Tryz.zeroValue185
 t119 := Tryz.underlying199
 a119 := Tryz.isAgg199
 z119 := Tryz.sizeOf199
 t138 := Tryz.underlying201
 a138 := Tryz.isAgg201
 z138 := Tryz.sizeOf201
 v138 := Tryz.zeroValue201
 t139 := Tryz.underlying202
 a139 := Tryz.isAgg202
 z139 := Tryz.sizeOf202
 v139 := Tryz.zeroValue202
 t146 := Tryz.underlying161
 a146 := Tryz.isAgg161
 z146 := Tryz.sizeOf161
 v146 := Tryz.zeroValue161
 g1 := by kernel_rfl
 g3 := by kernel_rfl
 g4 := by kernel_rfl }
open Go.RowKit Go.Lib in
theorem Tryz.strings_Split (s sep : ByteArray) (m : Int) (w : World) (hs : s.size < 4294967281) (hm : w.cell? ⟨1, 0, none⟩ = some (.int .i64 m)) (h1 : 1 ≤ sep.size) :
  Calls Tryz.prog 57 #[.string s, .string sep] w fun e w' =>
   e = .returned (.slice (some ⟨w.heap.size, 0, none⟩) (Lib.countB s sep + 1) (Lib.countB s sep + 1)) ∧ w' = w.alloc (.cells ((Lib.splitB sep 0 (Lib.countB s sep) s).map Value.string).toArray 9) := Any.strings_Split Tryz.lays146 (by kernel_rfl) s sep m w hs hm h1
def Tryz.lays152_ren : Go.Shelf.Ren := ⟨fun | 152 => 163 | 137 => 182 | 119 => 183 | 224 => 184 | 225 => 185 | 217 => 192 | 266 => 199 | n => n, fun | 9 => 9 | 21 => 21 | 3 => 3 | 4 => 4 | 5 => 5 | 0 => 0 | 46 => 129 | n => n, fun | n => n⟩
theorem Tryz.lays152 : Go.Proofs.Lays.n152 Tryz.prog Tryz.lays152_ren := {
 mixed := by kernel_rfl
 f119 := Tryz.func183.trans (congrArg some (by kernel_rfl))
 f137 := Tryz.func182.trans (congrArg some (by kernel_rfl))
 f152 := Tryz.func163.trans (congrArg some (by kernel_rfl))
 f217 := Tryz.func192.trans (congrArg some (by kernel_rfl))
 f224 := Tryz.func184.trans (congrArg some (by kernel_rfl))
 f225 := Tryz.func185.trans (congrArg some (by kernel_rfl))
 f266 := Tryz.func199.trans (congrArg some (by kernel_rfl))
 t0 := Tryz.underlying0
 a0 := Tryz.isAgg0
 z0 := Tryz.sizeOf0
 v0 := Tryz.zeroValue0
 t3 := Tryz.underlying3
 a3 := Tryz.isAgg3
 z3 := Tryz.sizeOf3
 v3 := Tryz.zeroValue3
 t4 := Tryz.underlying4
 a4 := Tryz.isAgg4
 z4 := Tryz.sizeOf4
 v4 := Tryz.zeroValue4
 t5 := Tryz.underlying5
 a5 := Tryz.isAgg5
 z5 := Tryz.sizeOf5
 v5 := Tryz.zeroValue5
 t9 := Tryz.underlying9
 a9 := Tryz.isAgg9
 z9 := Tryz.sizeOf9
 v9 := Tryz.zeroValue9
 t21 := Tryz.underlying21
 a21 := Tryz.isAgg21
 z21 := Tryz.sizeOf21
 v21 := Tryz.zeroValue21
 t46 := Tryz.underlying129
 a46 := Tryz.isAgg129
 z46 := Tryz.sizeOf129
 v46 := Tryz.zeroValue129 }
open Go.RowKit Go.Lib in
theorem Tryz.strings_IndexRune_ascii (s : ByteArray) (r : Int) (w : World) (h0 : 0 ≤ r) (h1 : r < 128) :
  Calls Tryz.prog 163 #[.string s, .int .i32 r] w fun e w' => e = .returned (.int .i64 (Lib.indexByte s.data.toList r.toNat.toUInt8)) ∧ w' = w := Any.strings_IndexRune_ascii Tryz.lays152 s r w h0 h1
def Tryz.lays226_ren : Go.Shelf.Ren := ⟨fun | 226 => 164 | n => n, fun | 3 => 3 | 4 => 4 | n => n, fun | n => n⟩
theorem Tryz.lays226 : Go.Proofs.Lays.n226 Tryz.prog Tryz.lays226_ren := {
 mixed := by kernel_rfl
 f226 := Tryz.func164.trans (congrArg some (by kernel_rfl))
 t3 := Tryz.underlying3
 a3 := Tryz.isAgg3
 z3 := Tryz.sizeOf3
 v3 := Tryz.zeroValue3
 t4 := Tryz.underlying4
 a4 := Tryz.isAgg4
 z4 := Tryz.sizeOf4
 v4 := Tryz.zeroValue4 }
open Go.RowKit Go.Lib in
theorem Tryz.strings_shouldUseASCIISet (n : Int) (w : World) :
  Calls Tryz.prog 164 #[.int .i64 n] w fun e w' => e = .returned (.bool (decide (8 < n))) ∧ w' = w := Any.strings_shouldUseASCIISet Tryz.lays226 n w
def Tryz.lays153_ren : Go.Shelf.Ren := ⟨fun | 153 => 126 | 152 => 163 | 226 => 164 | 227 => 165 | 228 => 166 | 137 => 182 | 119 => 183 | 224 => 184 | 225 => 185 | 217 => 192 | 266 => 199 | n => n, fun | 9 => 9 | 3 => 3 | 4 => 4 | 5 => 5 | 21 => 21 | 117 => 174 | 116 => 173 | 0 => 0 | 46 => 129 | 124 => 190 | n => n, fun | n => n⟩
theorem Tryz.lays153 : Go.Proofs.Lays.n153 Tryz.prog Tryz.lays153_ren := {
 mixed := by kernel_rfl
 f119 := Tryz.func183.trans (congrArg some (by kernel_rfl))
 f137 := Tryz.func182.trans (congrArg some (by kernel_rfl))
 f152 := Tryz.func163.trans (congrArg some (by kernel_rfl))
 f153 := Tryz.func126.trans (congrArg some (by kernel_rfl))
 f217 := Tryz.func192.trans (congrArg some (by kernel_rfl))
 f224 := Tryz.func184.trans (congrArg some (by kernel_rfl))
 f225 := Tryz.func185.trans (congrArg some (by kernel_rfl))
 f226 := Tryz.func164.trans (congrArg some (by kernel_rfl))
 f227 := Tryz.func165.trans (congrArg some (by kernel_rfl))
 f228 := Tryz.func166.trans (congrArg some (by kernel_rfl))
 f266 := Tryz.func199.trans (congrArg some (by kernel_rfl))
 t0 := Tryz.underlying0
 a0 := Tryz.isAgg0
 z0 := Tryz.sizeOf0
 v0 := Tryz.zeroValue0
 t3 := Tryz.underlying3
 a3 := Tryz.isAgg3
 z3 := Tryz.sizeOf3
 v3 := Tryz.zeroValue3
 t4 := Tryz.underlying4
 a4 := Tryz.isAgg4
 z4 := Tryz.sizeOf4
 v4 := Tryz.zeroValue4
 t5 := Tryz.underlying5
 a5 := Tryz.isAgg5
 z5 := Tryz.sizeOf5
 v5 := Tryz.zeroValue5
 t9 := Tryz.underlying9
 a9 := Tryz.isAgg9
 z9 := Tryz.sizeOf9
 v9 := Tryz.zeroValue9
 t21 := Tryz.underlying21
 a21 := Tryz.isAgg21
 z21 := Tryz.sizeOf21
 v21 := Tryz.zeroValue21
 t46 := Tryz.underlying129
 a46 := Tryz.isAgg129
 z46 := Tryz.sizeOf129
 v46 := Tryz.zeroValue129
 t116 := Tryz.underlying173
 a116 := Tryz.isAgg173
 z116 := Tryz.sizeOf173
 t117 := Tryz.underlying174
 a117 := Tryz.isAgg174
 z117 := Tryz.sizeOf174
 v117 := Tryz.zeroValue174
 t124 := Tryz.underlying190
 a124 := Tryz.isAgg190
 z124 := Tryz.sizeOf190
 v124 := Tryz.zeroValue190 }
open Go.RowKit Go.Lib in
theorem Tryz.strings_IndexAny_long (hv116 : ∀ w, (zeroValue 173).run Tryz.prog w = .ok (.agg (Array.replicate 256 (.bool false))) w) (s chars : ByteArray) (w : World) (h2 : 2 ≤ chars.size) (h8 : 8 < s.size) (hs : s.size < 4294967281) (hcs : chars.size < 4294967281) (hascii : ∀ (j : Nat) b, chars.data.toList[j]? = some b → b.toNat < 128) :
  Calls Tryz.prog 126 #[.string s, .string chars] w fun e w' => e = .returned (.int .i64 (Lib.indexAny s.data.toList chars.data.toList)) ∧ w' = ((w.alloc (.cells (Lib.setCells chars.data.toList) 173)).alloc (.cells (Lib.setCells chars.data.toList) 173)) := Any.strings_IndexAny_long Tryz.lays153 hv116 (by kernel_rfl) s chars w h2 h8 hs hcs hascii
open Go.RowKit Go.Lib in
theorem Tryz.strings_IndexAny_laid (s chars : ByteArray) (w : World) (hs : s.size < 4294967281) (hcs : chars.size < 4294967281) (has : ∀ (j : Nat) b, s.data.toList[j]? = some b → b.toNat < 128) (hac : ∀ (j : Nat) b, chars.data.toList[j]? = some b → b.toNat < 128) :
  Calls Tryz.prog 126 #[.string s, .string chars] w fun e w' => e = .returned (.int .i64 (Lib.indexAny s.data.toList chars.data.toList)) ∧ Below w.heap.size w w' := Any.strings_IndexAny_laid Tryz.lays153 (by kernel_rfl) s chars w hs hcs has hac
def Tryz.lays105_ren : Go.Shelf.Ren := ⟨fun | 105 => 55 | 212 => 96 | 99 => 97 | 165 => 98 | 166 => 37 | 170 => 99 | 169 => 40 | 263 => 146 | 264 => 147 | 206 => 123 | 240 => 60 | 241 => 148 | 276 => 108 | 277 => 176 | n => n, fun | 9 => 9 | 3 => 3 | 4 => 4 | 20 => 20 | 0 => 0 | 46 => 129 | 109 => 130 | 5 => 5 | 72 => 71 | 76 => 78 | 51 => 66 | 146 => 161 | 53 => 111 | 148 => 165 | 70 => 69 | 37 => 38 | 75 => 77 | 127 => 102 | 164 => 142 | 80 => 82 | n => n, fun | n => n⟩
theorem Tryz.lays105 : Go.Proofs.Lays.n105 Tryz.prog Tryz.lays105_ren := {
 mixed := by kernel_rfl
 f99 := Tryz.func97.trans (congrArg some (by kernel_rfl))
 f105 := Tryz.func55.trans (congrArg some (by kernel_rfl))
 f165 := Tryz.func98.trans (congrArg some (by kernel_rfl))
 f166 := Tryz.func37.trans (congrArg some (by kernel_rfl))
 f169 := Tryz.func40.trans (congrArg some (by kernel_rfl))
 f170 := Tryz.func99.trans (congrArg some (by kernel_rfl))
 f206 := Tryz.func123.trans (congrArg some (by kernel_rfl))
 f212 := Tryz.func96.trans (congrArg some (by kernel_rfl))
 f240 := Tryz.func60.trans (congrArg some (by kernel_rfl))
 f241 := Tryz.func148.trans (congrArg some (by kernel_rfl))
 f263 := Tryz.func146.trans (congrArg some (by kernel_rfl))
 f264 := Tryz.func147.trans (congrArg some (by kernel_rfl))
 f276 := Tryz.func108.trans (congrArg some (by kernel_rfl))
 f277 := Tryz.func176.trans (congrArg some (by kernel_rfl))
 t0 := Tryz.underlying0
 a0 := Tryz.isAgg0
 z0 := Tryz.sizeOf0
 v0 := Tryz.zeroValue0
 t3 := Tryz.underlying3
 a3 := Tryz.isAgg3
 z3 := Tryz.sizeOf3
 v3 := Tryz.zeroValue3
 t4 := Tryz.underlying4
 a4 := Tryz.isAgg4
 z4 := Tryz.sizeOf4
 v4 := Tryz.zeroValue4
 t5 := Tryz.underlying5
 a5 := Tryz.isAgg5
 z5 := Tryz.sizeOf5
 v5 := Tryz.zeroValue5
 t9 := Tryz.underlying9
 a9 := Tryz.isAgg9
 z9 := Tryz.sizeOf9
 v9 := Tryz.zeroValue9
 t20 := Tryz.underlying20
 a20 := Tryz.isAgg20
 z20 := Tryz.sizeOf20
 v20 := Tryz.zeroValue20
 t37 := Tryz.underlying38
 a37 := Tryz.isAgg38
 z37 := Tryz.sizeOf38
 v37 := Tryz.zeroValue38
 t46 := Tryz.underlying129
 a46 := Tryz.isAgg129
 z46 := Tryz.sizeOf129
 v46 := Tryz.zeroValue129
 t51 := Tryz.underlying66
 a51 := Tryz.isAgg66
 z51 := Tryz.sizeOf66
 v51 := Tryz.zeroValue66
 t53 := Tryz.underlying111
 a53 := Tryz.isAgg111
 z53 := Tryz.sizeOf111
 v53 := Tryz.zeroValue111
 t70 := Tryz.underlying69
 a70 := Tryz.isAgg69
 z70 := Tryz.sizeOf69
 v70 := Tryz.zeroValue69
 t72 := Tryz.underlying71
 a72 := Tryz.isAgg71
 z72 := Tryz.sizeOf71
 v72 := Tryz.zeroValue71
 t75 := Tryz.underlying77
 a75 := Tryz.isAgg77
 z75 := Tryz.sizeOf77
 v75 := Tryz.zeroValue77
 t76 := Tryz.underlying78
 a76 := Tryz.isAgg78
 z76 := Tryz.sizeOf78
 v76 := Tryz.zeroValue78
 t109 := Tryz.underlying130
 a109 := Tryz.isAgg130
 z109 := Tryz.sizeOf130
 v109 := Tryz.zeroValue130
 t127 := Tryz.underlying102
 a127 := Tryz.isAgg102
 z127 := Tryz.sizeOf102
 v127 := Tryz.zeroValue102
 t146 := Tryz.underlying161
 a146 := Tryz.isAgg161
 z146 := Tryz.sizeOf161
 v146 := Tryz.zeroValue161
 t148 := Tryz.underlying165
 a148 := Tryz.isAgg165
 z148 := Tryz.sizeOf165
 v148 := Tryz.zeroValue165
 t164 := Tryz.underlying142
 a164 := Tryz.isAgg142
 z164 := Tryz.sizeOf142
 v164 := Tryz.zeroValue142 }
theorem Tryz.Builder_Extra_105 : Builder.Extra Tryz.prog Tryz.lays105_ren := {
 sizeBuilder := by kernel_rfl
 liesBuilder := by kernel_rfl
 t5 := Tryz.underlying5
 a5 := Tryz.isAgg5
 z5 := Tryz.sizeOf5
 v5 := Tryz.zeroValue5
 infoByte := by kernel_rfl
 cellsByte := by kernel_rfl
 sizeByte := by kernel_rfl
 neB5 := by decide }
open Go.RowKit Go.Lib in
theorem Tryz.strings_Repeat (s : ByteArray) (c : Nat) (w : World) (hc : c ≤ 9223372036854775807) (hlen : s.size * c ≤ 140737488355328) :
  Calls Tryz.prog 55 #[.string s, .int .i64 c] w fun e w' => e = .returned (.string ⟨(Lib.repeatL s.data.toList c).toArray⟩) ∧ Below w.heap.size w w' := Any.strings_Repeat Tryz.lays105 Tryz.Builder_Extra_105 s c w hc hlen
def Tryz.laysNm217_ren : Go.Shelf.Ren := ⟨fun | 17 => 115 | n => n, fun | 24 => 39 | 9 => 9 | 3 => 3 | 4 => 4 | 0 => 0 | n => n, fun | n => n⟩
theorem Tryz.laysNm217 : Go.Proofs.Lays2.n17 Tryz.prog Tryz.laysNm217_ren := {
 mixed := by kernel_rfl
 f17 := Tryz.func115.trans (congrArg some (by kernel_rfl))
 t0 := Tryz.underlying0
 a0 := Tryz.isAgg0
 z0 := Tryz.sizeOf0
 v0 := Tryz.zeroValue0
 t3 := Tryz.underlying3
 a3 := Tryz.isAgg3
 z3 := Tryz.sizeOf3
 v3 := Tryz.zeroValue3
 t4 := Tryz.underlying4
 a4 := Tryz.isAgg4
 z4 := Tryz.sizeOf4
 v4 := Tryz.zeroValue4
 t9 := Tryz.underlying9
 a9 := Tryz.isAgg9
 z9 := Tryz.sizeOf9
 v9 := Tryz.zeroValue9
 t24 := Tryz.underlying39
 a24 := Tryz.isAgg39
 z24 := Tryz.sizeOf39
 v24 := Tryz.zeroValue39 }
open Go.RowKit Go.Lib Go.Sort in
theorem Tryz.slices_Reverse_string (blk off cap : Nat) (zs : List (List UInt8)) (w : World) (hH : Holds encStr w blk off zs.toArray) (hsz : zs.length ≤ 9223372036854775807) :
  Calls Tryz.prog 115 #[.slice (some ⟨blk, off, none⟩) zs.length cap] w fun e w' => e = .returned (.tuple #[]) ∧ ∃ n, w' = putRow encStr (Sort.ahead w n) blk off zs.reverse.toArray := Any.slices_Reverse_string Tryz.laysNm217 blk off cap zs w hH hsz
end Go.Proofs
