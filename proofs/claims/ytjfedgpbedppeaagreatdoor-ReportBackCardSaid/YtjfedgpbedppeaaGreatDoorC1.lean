/- Lemmas of the walk; no conditions beyond those that each states. -/
import Derived.Test.YtjfedgpbedppeaaGreatDoorProg
import Derived.KernelRfl
import Derived.Shelf.Strings.Builder1
import Derived.Shelf.Strings.Builder2
import Derived.Shelf.Strings.OnBuilder
import Derived.Shelf.Strings.Trim
import Derived.Shelf.Small.Utf8
import Derived.Shelf.Small.Bits
import Derived.Shelf.Small.Strs
import Derived.Shelf.Small.Wraps
import Derived.Shelf.Strings.BuilderF
import Derived.Shelf.Strings.BuilderK
import Derived.Shelf.Utf8.RuneCount
import Derived.Shelf.Strings.Builder2Cap
import Derived.Shelf.Strconv.Itoa0
import Derived.Shelf.Strconv.Itoa1
import Derived.Shelf.LaysM
import Derived.Shelf.Strconv.Itoa2
import Derived.Shelf.Strconv.Itoa3
import Derived.Shelf.Strings.Search1
import Derived.Shelf.Strings.Search2
import Derived.Shelf.Strings.Search3
import Derived.Shelf.Strings.Cut
import Derived.Shelf.Strings.Count
import Derived.Shelf.Strings.Shaped
import Derived.Shelf.Strings.Prefix
import Derived.Shelf.Strings.Split
import Derived.Shelf.Strings.SplitShaped
import Derived.Shelf.Unicode.Decode
import Derived.Shelf.Strings.Runes
import Derived.Shelf.Strings.RuneCount
import Derived.Shelf.Strings.IndexAny
import Derived.Shelf.Strings.AsciiSet
import Derived.Shelf.Strings.IndexAnyAll
import Derived.Shelf.Strings.Explode
import Derived.Shelf.Bits.Mul64
import Derived.Shelf.Strings.Repeat
import Derived.Shelf.Unicode.DecodeSlow
import Derived.Shelf.Unicode.DecodeAny
import Derived.Shelf.Strings.BuilderCap
import Derived.Ground.Names2Prog
import Derived.Shelf.Slices.ReverseS
import Derived.Shelf.Slices.Cells
import Derived.Test.YtjfedgpbedppeaaGreatDoorD2
set_option linter.unusedSimpArgs false
set_option linter.unusedVariables false
set_option linter.unnecessarySimpa false
set_option maxHeartbeats 4000000
namespace Go.Proofs.YtjfedgpbedppeaaGreatDoor
open Go Go.Dat Go.Proofs
noncomputable def fnlr_awake : FnD := ⟨Tryz.prog,[0,1,2],[],16,false⟩
def codelr_awake : DC := (.seq (.reg [⟨.x 0,.mv (.c (.bool false)),none⟩]) (.seq (.reg [⟨.t 4,.bsl 1 [(.str []),(.str [])] [(0,1,(.c (.str [97]))),(1,1,(.c (.str [49,48])))],none⟩,⟨.t 5,.bsl 1 [(.str []),(.str [])] [(0,1,(.c (.str [98,99,100]))),(1,1,(.c (.str [50])))],none⟩,⟨.t 6,.bsl 1 [.nils,.nils] [(0,1,.t 4),(1,1,.t 5)],none⟩,⟨.t 7,.call 29 [.t 6],none⟩,⟨.t 3,.mv (.t 7),none⟩,⟨.t 8,.ext (.t 3) 0,none⟩,⟨.t 9,.ext (.t 3) 1,none⟩,⟨.x 1,.mv (.t 8),none⟩,⟨.x 2,.mv (.t 9),none⟩]) (.seq (.reg [⟨.t 10,.mv (.x 2),none⟩,⟨.t 11,.bin .eql (.t 10) (.c (.int .i64 0)),none⟩,⟨.t 12,.mv (.t 11),none⟩,⟨.t 13,.mv (.x 1),some (.t 12,true)⟩,⟨.t 14,.bin .eql (.t 13) (.c (.str [32,32,97,32,32,49,48,10,98,99,100,32,32,32,50,10])),some (.t 12,true)⟩,⟨.t 15,.pick (.t 12) (.t 14) (.c (.bool false)),none⟩,⟨.x 0,.mv (.t 15),none⟩]) .ret)))
def reslr_awake : List RV := [.t 0]
theorem islr_awake : IsFn fnlr_awake 7 codelr_awake reslr_awake := ⟨⟨Tryz.f7, _, Tryz.func7, rfl, rfl, by kernel_rfl, by kernel_rfl, by kernel_rfl⟩⟩
noncomputable def fnrpReadTest : FnD := ⟨Tryz.prog,[0,2,3,4,5,6,7,8,9,10,11,12,26,28,29,30,31,58,67],[],70,false⟩
def coderpReadTest : DC := (.seq (.reg [⟨.x 2,.alloc [(.bool false),.nils,.nils,(.bool false),.nils,.nils,(.bool false),.nils,.nils,(.bool false),.nils,.nils,(.bool false),.nils,.nils,(.bool false),.nils,.nils],none⟩,⟨.x 3,.mv (.c (.int .i64 0)),none⟩]) (.seq (.reg [⟨.t 14,.mv (.x 0),none⟩,⟨.t 15,.call 44 [.t 14],none⟩,⟨.t 13,.mv (.t 15),none⟩,⟨.t 16,.ext (.t 13) 0,none⟩,⟨.t 17,.ext (.t 13) 1,none⟩,⟨.x 4,.mv (.t 16),none⟩,⟨.x 5,.mv (.t 17),none⟩]) (.seq (.seq (.reg [⟨.t 18,.mv (.x 5),none⟩,⟨.t 19,.un .not (.t 18),none⟩,⟨.t 20,.mv (.t 19),none⟩,⟨.t 21,.mv (.x 4),some (.t 20,false)⟩,⟨.t 22,.len 1 (.t 21),some (.t 20,false)⟩,⟨.t 23,.call 38 [],some (.t 20,false)⟩,⟨.t 24,.len 1 (.t 23),some (.t 20,false)⟩,⟨.t 25,.bin .neq (.t 22) (.t 24),some (.t 20,false)⟩,⟨.x 26,.pick (.t 20) (.c (.bool true)) (.t 25),none⟩]) (.cond (.x 26) (.seq (.reg [⟨.t 27,.build [(.bool false),.nils,.nils,(.bool false),.nils,.nils,(.bool false),.nils,.nils,(.bool false),.nils,.nils,(.bool false),.nils,.nils,(.bool false),.nils,.nils] [],none⟩,⟨.no,.stn 18 (.x 2) (.t 27),none⟩,⟨.x 3,.mv (.c (.int .i64 3)),none⟩]) .ret) .skip)) (.seq (.reg [⟨.x 6,.alloc [(.bool false),.nils,.nils,(.bool false),.nils,.nils,(.bool false),.nils,.nils,(.bool false),.nils,.nils,(.bool false),.nils,.nils,(.bool false),.nils,.nils],none⟩]) (.seq (.seq (.reg [⟨.x 28,.call 36 [.x 6],none⟩,⟨.x 29,.len 1 (.x 28),none⟩,⟨.x 30,.mv (.c (.int .i64 0)),none⟩]) (.block 0 (.loop (.seq (.reg [⟨.x 31,.bin .lss (.x 30) (.x 29),none⟩]) (.seq (.cond (.x 31) .skip (.exit 0)) (.seq (.block 1 (.seq (.reg [⟨.t 32,.mv (.x 30),none⟩,⟨.t 33,.iad 1 (.x 28) (.x 30),none⟩,⟨.t 34,.ld (.t 33),none⟩,⟨.x 7,.mv (.t 32),none⟩,⟨.x 8,.mv (.t 34),none⟩]) (.seq (.regd [⟨.t 36,.mv (.x 4),none⟩,⟨.t 37,.mv (.x 7),none⟩,⟨.t 38,.iad 1 (.t 36) (.t 37),none⟩,⟨.t 39,.ld (.t 38),none⟩,⟨.t 40,.call 38 [],none⟩,⟨.t 41,.mv (.x 7),none⟩,⟨.t 42,.iad 1 (.t 40) (.t 41),none⟩,⟨.t 43,.ld (.t 42),none⟩,⟨.t 44,.bin .add (.t 43) (.c (.str [32])),none⟩,⟨.t 45,.call 45 [.t 39,.t 44],none⟩,⟨.t 35,.mv (.t 45),none⟩,⟨.t 46,.ext (.t 35) 0,none⟩,⟨.t 47,.ext (.t 35) 1,none⟩,⟨.x 9,.mv (.t 46),none⟩,⟨.x 10,.mv (.t 47),none⟩]) (.seq (.reg [⟨.t 49,.mv (.x 9),none⟩,⟨.t 50,.call 46 [.t 49],none⟩,⟨.t 48,.mv (.t 50),none⟩,⟨.t 51,.ext (.t 48) 0,none⟩,⟨.t 52,.ext (.t 48) 1,none⟩,⟨.x 11,.alloc [(.bool false),.nils,.nils],none⟩,⟨.no,.stn 3 (.x 11) (.t 51),none⟩,⟨.x 12,.mv (.t 52),none⟩]) (.seq (.seq (.reg [⟨.t 53,.mv (.x 10),none⟩,⟨.t 54,.un .not (.t 53),none⟩,⟨.t 55,.mv (.t 54),none⟩,⟨.t 56,.mv (.x 12),some (.t 55,false)⟩,⟨.t 57,.un .not (.t 56),some (.t 55,false)⟩,⟨.x 58,.pick (.t 55) (.c (.bool true)) (.t 57),none⟩]) (.cond (.x 58) (.seq (.reg [⟨.t 59,.build [(.bool false),.nils,.nils,(.bool false),.nils,.nils,(.bool false),.nils,.nils,(.bool false),.nils,.nils,(.bool false),.nils,.nils,(.bool false),.nils,.nils] [],none⟩,⟨.no,.stn 18 (.x 2) (.t 59),none⟩,⟨.x 3,.mv (.c (.int .i64 3)),none⟩]) .ret) .skip)) (.reg [⟨.t 60,.mv (.x 8),none⟩,⟨.t 61,.ldn 3 (.x 11),none⟩,⟨.t 62,.nilc (.t 60),none⟩,⟨.no,.stn 3 (.t 62) (.t 61),none⟩])))))) (.reg [⟨.t 63,.bin .add (.x 30) (.c (.int .i64 1)),none⟩,⟨.x 30,.mv (.t 63),none⟩]))))))) (.seq (.seq (.reg [⟨.t 64,.ldn 18 (.x 6),none⟩,⟨.t 65,.call 12 [.t 64],none⟩,⟨.t 66,.mv (.x 0),none⟩,⟨.x 67,.bin .neq (.t 65) (.t 66),none⟩]) (.cond (.x 67) (.seq (.reg [⟨.t 68,.build [(.bool false),.nils,.nils,(.bool false),.nils,.nils,(.bool false),.nils,.nils,(.bool false),.nils,.nils,(.bool false),.nils,.nils,(.bool false),.nils,.nils] [],none⟩,⟨.no,.stn 18 (.x 2) (.t 68),none⟩,⟨.x 3,.mv (.c (.int .i64 3)),none⟩]) .ret) .skip)) (.seq (.reg [⟨.t 69,.ldn 18 (.x 6),none⟩,⟨.no,.stn 18 (.x 2) (.t 69),none⟩,⟨.x 3,.mv (.c (.int .i64 0)),none⟩]) .ret)))))))
def resrpReadTest : List RV := [.cn 18 2, .t 3]
theorem isrpReadTest : IsFn fnrpReadTest 15 coderpReadTest resrpReadTest := ⟨⟨Tryz.f15, _, Tryz.func15, rfl, rfl, by kernel_rfl, by kernel_rfl, by kernel_rfl⟩⟩
noncomputable def fnpSameList : FnD := ⟨Tryz.prog,[0,1,4,5,10,14,26],[],27,false⟩
def codepSameList : DC := (.seq (.reg [⟨.x 4,.mv (.c (.bool false)),none⟩]) (.seq (.seq (.reg [⟨.t 6,.mv (.x 0),none⟩,⟨.t 7,.len 3 (.t 6),none⟩,⟨.t 8,.mv (.x 1),none⟩,⟨.t 9,.len 3 (.t 8),none⟩,⟨.x 10,.bin .neq (.t 7) (.t 9),none⟩]) (.cond (.x 10) (.seq (.reg [⟨.x 4,.mv (.c (.bool false)),none⟩]) .ret) .skip)) (.seq (.seq (.reg [⟨.x 5,.mv (.c (.int .i64 0)),none⟩]) (.block 0 (.loop (.seq (.seq (.reg [⟨.t 11,.mv (.x 5),none⟩,⟨.t 12,.mv (.x 0),none⟩,⟨.t 13,.len 3 (.t 12),none⟩,⟨.x 14,.bin .lss (.t 11) (.t 13),none⟩]) (.cond (.x 14) .skip (.exit 0))) (.seq (.block 1 (.seq (.regd [⟨.t 17,.mv (.x 0),none⟩,⟨.t 18,.mv (.x 5),none⟩,⟨.t 19,.iad 3 (.t 17) (.t 18),none⟩,⟨.t 20,.ldn 3 (.t 19),none⟩,⟨.t 21,.mv (.x 1),none⟩,⟨.t 22,.mv (.x 5),none⟩,⟨.t 23,.iad 3 (.t 21) (.t 22),none⟩,⟨.t 24,.ldn 3 (.t 23),none⟩,⟨.t 25,.call 53 [.t 20,.t 24],none⟩,⟨.x 26,.un .not (.t 25),none⟩]) (.cond (.x 26) (.seq (.reg [⟨.x 4,.mv (.c (.bool false)),none⟩]) .ret) .skip))) (.reg [⟨.t 15,.mv (.x 5),none⟩,⟨.t 16,.bin .add (.t 15) (.c (.int .i64 1)),none⟩,⟨.x 5,.mv (.t 16),none⟩])))))) (.seq (.reg [⟨.x 4,.mv (.c (.bool true)),none⟩]) .ret))))
def respSameList : List RV := [.t 4]
theorem ispSameList : IsFn fnpSameList 27 codepSameList respSameList := ⟨⟨Tryz.f27, _, Tryz.func27, rfl, rfl, by kernel_rfl, by kernel_rfl, by kernel_rfl⟩⟩
noncomputable def fnreSameRecs : FnD := ⟨Tryz.prog,[0,1,4,5,10,12,13,14,25],[],27,false⟩
def codereSameRecs : DC := (.seq (.reg [⟨.x 4,.mv (.c (.bool false)),none⟩]) (.seq (.seq (.reg [⟨.t 6,.mv (.x 0),none⟩,⟨.t 7,.len 1 (.t 6),none⟩,⟨.t 8,.mv (.x 1),none⟩,⟨.t 9,.len 1 (.t 8),none⟩,⟨.x 10,.bin .neq (.t 7) (.t 9),none⟩]) (.cond (.x 10) (.seq (.reg [⟨.x 4,.mv (.c (.bool false)),none⟩]) .ret) .skip)) (.seq (.seq (.reg [⟨.t 11,.mv (.x 0),none⟩,⟨.x 12,.len 1 (.t 11),none⟩,⟨.x 13,.mv (.c (.int .i64 0)),none⟩]) (.block 0 (.loop (.seq (.reg [⟨.x 14,.bin .lss (.x 13) (.x 12),none⟩]) (.seq (.cond (.x 14) .skip (.exit 0)) (.seq (.block 1 (.seq (.reg [⟨.t 15,.mv (.x 13),none⟩,⟨.x 5,.mv (.t 15),none⟩]) (.seq (.regd [⟨.t 16,.mv (.x 0),none⟩,⟨.t 17,.mv (.x 5),none⟩,⟨.t 18,.iad 1 (.t 16) (.t 17),none⟩,⟨.t 19,.ld (.t 18),none⟩,⟨.t 20,.mv (.x 1),none⟩,⟨.t 21,.mv (.x 5),none⟩,⟨.t 22,.iad 1 (.t 20) (.t 21),none⟩,⟨.t 23,.ld (.t 22),none⟩,⟨.t 24,.call 26 [.t 19,.t 23],none⟩,⟨.x 25,.un .not (.t 24),none⟩]) (.cond (.x 25) (.seq (.reg [⟨.x 4,.mv (.c (.bool false)),none⟩]) .ret) .skip)))) (.reg [⟨.t 26,.bin .add (.x 13) (.c (.int .i64 1)),none⟩,⟨.x 13,.mv (.t 26),none⟩]))))))) (.seq (.reg [⟨.x 4,.mv (.c (.bool true)),none⟩]) .ret))))
def resreSameRecs : List RV := [.t 4]
theorem isreSameRecs : IsFn fnreSameRecs 31 codereSameRecs resreSameRecs := ⟨⟨Tryz.f31, _, Tryz.func31, rfl, rfl, by kernel_rfl, by kernel_rfl, by kernel_rfl⟩⟩
noncomputable def fnpFromInt : FnD := ⟨Tryz.prog,[0,2],[],6,false⟩
def codepFromInt : DC := (.seq (.reg [⟨.x 2,.alloc [(.bool false),.nils,.nils],none⟩]) (.seq (.reg [⟨.t 3,.mv (.x 0),none⟩,⟨.t 4,.call 59 [.t 3],none⟩,⟨.t 5,.build [(.bool false),.nils,.nils] [(0,2,.t 4)],none⟩,⟨.no,.stn 3 (.x 2) (.t 5),none⟩]) .ret))
def respFromInt : List RV := [.cn 3 2]
theorem nbpFromInt : fnpFromInt.nb = 0 := rfl
theorem ispFromInt : IsFn fnpFromInt 35 codepFromInt respFromInt := ⟨⟨Tryz.f35, _, Tryz.func35, rfl, rfl, by kernel_rfl, by kernel_rfl, by kernel_rfl⟩⟩
noncomputable def fnqFormat : FnD := ⟨Tryz.prog,[0,1,2,3,12],[],20,false⟩
def codeqFormat : DC := (.seq (.reg [⟨.x 1,.box (.x 0),none⟩,⟨.x 2,.mv (.c (.str [])),none⟩]) (.seq (.reg [⟨.t 4,.ldn 3 (.x 1),none⟩,⟨.t 5,.call 61 [.t 4],none⟩,⟨.no,.stn 3 (.x 1) (.t 5),none⟩]) (.seq (.reg [⟨.t 6,.fad 0 (.x 1),none⟩,⟨.t 7,.ldn 2 (.t 6),none⟩,⟨.t 8,.call 62 [.t 7],none⟩,⟨.x 3,.mv (.t 8),none⟩]) (.seq (.seq (.reg [⟨.t 9,.fad 2 (.x 1),none⟩,⟨.t 10,.ld (.t 9),none⟩,⟨.t 11,.len 1 (.t 10),none⟩,⟨.x 12,.bin .gtr (.t 11) (.c (.int .i64 0)),none⟩]) (.cond (.x 12) (.reg [⟨.t 13,.mv (.x 3),none⟩,⟨.t 14,.fad 2 (.x 1),none⟩,⟨.t 15,.ld (.t 14),none⟩,⟨.t 16,.call 63 [.t 15],none⟩,⟨.t 17,.bin .add (.c (.str [47])) (.t 16),none⟩,⟨.t 18,.bin .add (.t 13) (.t 17),none⟩,⟨.x 3,.mv (.t 18),none⟩]) .skip)) (.seq (.reg [⟨.t 19,.mv (.x 3),none⟩,⟨.x 2,.mv (.t 19),none⟩]) .ret)))))
def resqFormat : List RV := [.t 2]
theorem nbqFormat : fnqFormat.nb = 0 := rfl
theorem isqFormat : IsFn fnqFormat 39 codeqFormat resqFormat := ⟨⟨Tryz.f39, _, Tryz.func39, rfl, rfl, by kernel_rfl, by kernel_rfl, by kernel_rfl⟩⟩
noncomputable def fnrpLines : FnD := ⟨Tryz.prog,[0,2,3,6],[],13,false⟩
def coderpLines : DC := (.seq (.reg [⟨.x 2,.mv (.c .nils),none⟩,⟨.x 3,.mv (.c (.bool false)),none⟩]) (.seq (.seq (.reg [⟨.t 4,.mv (.x 0),none⟩,⟨.t 5,.call 67 [.t 4,(.c (.str [10]))],none⟩,⟨.x 6,.un .not (.t 5),none⟩]) (.cond (.x 6) (.seq (.reg [⟨.x 2,.mv (.c .nils),none⟩,⟨.x 3,.mv (.c (.bool false)),none⟩]) .ret) .skip)) (.seq (.reg [⟨.t 7,.mv (.x 0),none⟩,⟨.t 8,.mv (.x 0),none⟩,⟨.t 9,.lenS (.t 8),none⟩,⟨.t 10,.bin .sub (.t 9) (.c (.int .i64 1)),none⟩,⟨.t 11,.slcS (.t 7) none (some (.t 10)),none⟩,⟨.t 12,.call 57 [.t 11,(.c (.str [10]))],none⟩,⟨.x 2,.mv (.t 12),none⟩,⟨.x 3,.mv (.c (.bool true)),none⟩]) .ret)))
def resrpLines : List RV := [.t 2, .t 3]
theorem isrpLines : IsFn fnrpLines 44 coderpLines resrpLines := ⟨⟨Tryz.f44, _, Tryz.func44, rfl, rfl, by kernel_rfl, by kernel_rfl, by kernel_rfl⟩⟩
noncomputable def fnp_over : FnD := ⟨Tryz.prog,[0,1,2,3,4,5,6,9,14,39],[],45,false⟩
def codep_over : DC := (.seq (.reg [⟨.x 2,.box (.x 0),none⟩,⟨.x 3,.box (.x 1),none⟩,⟨.x 4,.alloc [(.bool false),.nils,.nils],none⟩]) (.seq (.seq (.reg [⟨.t 12,.ldn 2 (.x 3),none⟩,⟨.t 13,.call 92 [.t 12],none⟩,⟨.x 14,.bin .lss (.t 13) (.c (.int .i64 0)),none⟩]) (.cond (.x 14) (.regd [⟨.t 15,.ldn 2 (.x 2),none⟩,⟨.t 16,.call 101 [.t 15],none⟩,⟨.t 17,.ldn 2 (.x 3),none⟩,⟨.t 18,.call 101 [.t 17],none⟩,⟨.no,.stn 2 (.x 2) (.t 16),none⟩,⟨.no,.stn 2 (.x 3) (.t 18),none⟩]) .skip)) (.seq (.reg [⟨.t 19,.ldn 2 (.x 2),none⟩,⟨.t 20,.ldn 2 (.x 3),none⟩,⟨.t 21,.call 102 [.t 19,.t 20],none⟩,⟨.t 22,.build [(.bool false),.nils] [(1,1,.t 21)],none⟩,⟨.x 5,.alloc [(.bool false),.nils],none⟩,⟨.no,.stn 2 (.x 5) (.t 22),none⟩]) (.seq (.reg [⟨.t 24,.ldn 2 (.x 2),none⟩,⟨.t 25,.ldn 2 (.x 5),none⟩,⟨.t 26,.call 103 [.t 24,.t 25],none⟩,⟨.t 23,.mv (.t 26),none⟩,⟨.t 27,.ext (.t 23) 0,none⟩,⟨.t 28,.ext (.t 23) 1,none⟩,⟨.t 29,.ext (.t 23) 2,none⟩,⟨.x 6,.alloc [(.bool false),.nils],none⟩,⟨.t 7,.alloc [(.bool false),.nils],none⟩,⟨.no,.stn 2 (.x 6) (.t 27),none⟩,⟨.no,.stn 2 (.t 7) (.t 28),none⟩,⟨.t 8,.mv (.t 29),none⟩]) (.seq (.reg [⟨.t 31,.ldn 2 (.x 3),none⟩,⟨.t 32,.ldn 2 (.x 5),none⟩,⟨.t 33,.call 103 [.t 31,.t 32],none⟩,⟨.t 30,.mv (.t 33),none⟩,⟨.t 34,.ext (.t 30) 0,none⟩,⟨.t 35,.ext (.t 30) 1,none⟩,⟨.t 36,.ext (.t 30) 2,none⟩,⟨.x 9,.alloc [(.bool false),.nils],none⟩,⟨.t 10,.alloc [(.bool false),.nils],none⟩,⟨.no,.stn 2 (.x 9) (.t 34),none⟩,⟨.no,.stn 2 (.t 10) (.t 35),none⟩,⟨.t 11,.mv (.t 36),none⟩]) (.seq (.seq (.reg [⟨.t 37,.fad 1 (.x 9),none⟩,⟨.t 38,.ld (.t 37),none⟩,⟨.x 39,.call 104 [.t 38],none⟩]) (.cond (.x 39) (.reg [⟨.t 40,.fad 1 (.x 9),none⟩,⟨.no,.st (.t 40) (.c .nils),none⟩]) .skip)) (.seq (.reg [⟨.t 41,.ldn 2 (.x 6),none⟩,⟨.t 42,.fad 1 (.x 9),none⟩,⟨.t 43,.ld (.t 42),none⟩,⟨.t 44,.build [(.bool false),.nils,.nils] [(0,2,.t 41),(2,1,.t 43)],none⟩,⟨.no,.stn 3 (.x 4) (.t 44),none⟩]) .ret)))))))
def resp_over : List RV := [.cn 3 4]
theorem nbp_over : fnp_over.nb = 0 := rfl
theorem isp_over : IsFn fnp_over 58 codep_over resp_over := ⟨⟨Tryz.f58, _, Tryz.func58, rfl, rfl, by kernel_rfl, by kernel_rfl, by kernel_rfl⟩⟩
noncomputable def fnnFormat : FnD := ⟨Tryz.prog,[0,2,3,4,5,6,11,14,25],[],41,false⟩
def codenFormat : DC := (.seq (.reg [⟨.x 2,.mv (.c (.str [])),none⟩]) (.seq (.reg [⟨.t 7,.mv (.x 0),none⟩,⟨.t 8,.call 112 [.t 7],none⟩,⟨.x 0,.mv (.t 8),none⟩]) (.seq (.seq (.reg [⟨.t 9,.mv (.x 0),none⟩,⟨.t 10,.len 1 (.t 9),none⟩,⟨.x 11,.bin .eql (.t 10) (.c (.int .i64 0)),none⟩]) (.cond (.x 11) (.seq (.reg [⟨.x 2,.mv (.c (.str [48])),none⟩]) .ret) .skip)) (.seq (.reg [⟨.x 3,.mv (.c .nils),none⟩]) (.seq (.block 0 (.loop (.seq (.seq (.reg [⟨.t 12,.mv (.x 0),none⟩,⟨.t 13,.len 1 (.t 12),none⟩,⟨.x 14,.bin .gtr (.t 13) (.c (.int .i64 0)),none⟩]) (.cond (.x 14) .skip (.exit 0))) (.block 1 (.seq (.reg [⟨.t 16,.mv (.x 0),none⟩,⟨.t 17,.call 113 [.t 16,(.c (.int .u32 1000000000))],none⟩,⟨.t 15,.mv (.t 17),none⟩,⟨.t 18,.ext (.t 15) 0,none⟩,⟨.t 19,.ext (.t 15) 1,none⟩,⟨.x 4,.mv (.t 18),none⟩,⟨.x 5,.mv (.t 19),none⟩]) (.seq (.reg [⟨.t 20,.mv (.x 5),none⟩,⟨.t 21,.conv .i64 (.t 20),none⟩,⟨.t 22,.call 114 [.t 21],none⟩,⟨.x 6,.mv (.t 22),none⟩]) (.seq (.seq (.reg [⟨.t 23,.mv (.x 4),none⟩,⟨.t 24,.len 1 (.t 23),none⟩,⟨.x 25,.bin .gtr (.t 24) (.c (.int .i64 0)),none⟩]) (.cond (.x 25) (.reg [⟨.t 26,.mv (.x 6),none⟩,⟨.t 27,.lenS (.t 26),none⟩,⟨.t 28,.bin .sub (.c (.int .i64 9)) (.t 27),none⟩,⟨.t 29,.call 55 [(.c (.str [48])),.t 28],none⟩,⟨.t 30,.mv (.x 6),none⟩,⟨.t 31,.bin .add (.t 29) (.t 30),none⟩,⟨.x 6,.mv (.t 31),none⟩]) .skip)) (.seq (.reg [⟨.t 32,.mv (.x 3),none⟩,⟨.t 33,.mv (.x 6),none⟩,⟨.t 34,.bsl 1 [(.str [])] [(0,1,.t 33)],none⟩,⟨.t 35,.app 9 1 16 (.t 32) (.t 34),none⟩,⟨.x 3,.mv (.t 35),none⟩]) (.reg [⟨.t 36,.mv (.x 4),none⟩,⟨.x 0,.mv (.t 36),none⟩]))))))))) (.seq (.reg [⟨.t 37,.mv (.x 3),none⟩,⟨.t 38,.call 115 [.t 37],none⟩]) (.seq (.reg [⟨.t 39,.mv (.x 3),none⟩,⟨.t 40,.call 116 [.t 39,(.c (.str []))],none⟩,⟨.x 2,.mv (.t 40),none⟩]) .ret)))))))
def resnFormat : List RV := [.t 2]
theorem nbnFormat : fnnFormat.nb = 0 := rfl
theorem isnFormat : IsFn fnnFormat 63 codenFormat resnFormat := ⟨⟨Tryz.f63, _, Tryz.func63, rfl, rfl, by kernel_rfl, by kernel_rfl, by kernel_rfl⟩⟩
noncomputable def fnq_unsigned : FnD := ⟨Tryz.prog,[0,2,3,4,5,6,7,8,9,10,11,12,14,21,46,56,88,101],[],115,false⟩
def codeq_unsigned : DC := (.seq (.reg [⟨.x 2,.mv (.c .nils),none⟩,⟨.x 3,.mv (.c .nils),none⟩,⟨.x 4,.mv (.c (.bool false)),none⟩]) (.seq (.seq (.reg [⟨.t 16,.mv (.x 0),none⟩,⟨.t 17,.call 124 [.t 16,(.c (.str [47]))],none⟩,⟨.t 15,.mv (.t 17),none⟩,⟨.t 18,.ext (.t 15) 0,none⟩,⟨.t 19,.ext (.t 15) 1,none⟩,⟨.t 20,.ext (.t 15) 2,none⟩,⟨.x 5,.mv (.t 18),none⟩,⟨.x 6,.mv (.t 19),none⟩,⟨.x 7,.mv (.t 20),none⟩]) (.seq (.reg [⟨.x 21,.mv (.x 7),none⟩]) (.cond (.x 21) (.seq (.reg [⟨.t 23,.mv (.x 5),none⟩,⟨.t 24,.call 125 [.t 23],none⟩,⟨.t 22,.mv (.t 24),none⟩,⟨.t 25,.ext (.t 22) 0,none⟩,⟨.t 26,.ext (.t 22) 1,none⟩,⟨.x 2,.mv (.t 25),none⟩,⟨.x 4,.mv (.t 26),none⟩]) (.seq (.reg [⟨.t 28,.mv (.x 6),none⟩,⟨.t 29,.call 125 [.t 28],none⟩,⟨.t 27,.mv (.t 29),none⟩,⟨.t 30,.ext (.t 27) 0,none⟩,⟨.t 31,.ext (.t 27) 1,none⟩,⟨.x 3,.mv (.t 30),none⟩,⟨.x 7,.mv (.t 31),none⟩]) (.seq (.reg [⟨.t 32,.mv (.x 2),none⟩,⟨.t 33,.mv (.x 3),none⟩,⟨.t 34,.mv (.x 4),none⟩,⟨.t 35,.mv (.t 34),none⟩,⟨.t 36,.mv (.x 7),some (.t 35,true)⟩,⟨.t 37,.pick (.t 35) (.t 36) (.c (.bool false)),none⟩,⟨.t 38,.mv (.t 37),none⟩,⟨.t 39,.mv (.x 3),some (.t 38,true)⟩,⟨.t 40,.len 1 (.t 39),some (.t 38,true)⟩,⟨.t 41,.bin .gtr (.t 40) (.c (.int .i64 0)),some (.t 38,true)⟩,⟨.t 42,.pick (.t 38) (.t 41) (.c (.bool false)),none⟩,⟨.x 2,.mv (.t 32),none⟩,⟨.x 3,.mv (.t 33),none⟩,⟨.x 4,.mv (.t 42),none⟩]) .ret))) .skip))) (.seq (.reg [⟨.x 8,.mv (.c (.int .i64 0)),none⟩]) (.seq (.seq (.reg [⟨.t 43,.mv (.x 0),none⟩,⟨.t 44,.call 126 [.t 43,(.c (.str [101,69]))],none⟩,⟨.x 9,.mv (.t 44),none⟩]) (.seq (.reg [⟨.t 45,.mv (.x 9),none⟩,⟨.x 46,.bin .geq (.t 45) (.c (.int .i64 0)),none⟩]) (.cond (.x 46) (.seq (.seq (.reg [⟨.t 48,.mv (.x 0),none⟩,⟨.t 49,.mv (.x 9),none⟩,⟨.t 50,.bin .add (.t 49) (.c (.int .i64 1)),none⟩,⟨.t 51,.slcS (.t 48) (some (.t 50)) none,none⟩,⟨.t 52,.call 127 [.t 51],none⟩,⟨.t 47,.mv (.t 52),none⟩,⟨.t 53,.ext (.t 47) 0,none⟩,⟨.t 54,.ext (.t 47) 1,none⟩,⟨.x 8,.mv (.t 53),none⟩,⟨.x 4,.mv (.t 54),none⟩]) (.seq (.reg [⟨.t 55,.mv (.x 4),none⟩,⟨.x 56,.un .not (.t 55),none⟩]) (.cond (.x 56) (.seq (.reg [⟨.x 2,.mv (.c .nils),none⟩,⟨.x 3,.mv (.c .nils),none⟩,⟨.x 4,.mv (.c (.bool false)),none⟩]) .ret) .skip))) (.reg [⟨.t 57,.mv (.x 0),none⟩,⟨.t 58,.mv (.x 9),none⟩,⟨.t 59,.slcS (.t 57) none (some (.t 58)),none⟩,⟨.x 0,.mv (.t 59),none⟩])) .skip))) (.seq (.reg [⟨.t 61,.mv (.x 0),none⟩,⟨.t 62,.call 124 [.t 61,(.c (.str [46]))],none⟩,⟨.t 60,.mv (.t 62),none⟩,⟨.t 63,.ext (.t 60) 0,none⟩,⟨.t 64,.ext (.t 60) 1,none⟩,⟨.t 65,.ext (.t 60) 2,none⟩,⟨.x 10,.mv (.t 63),none⟩,⟨.x 11,.mv (.t 64),none⟩,⟨.x 12,.mv (.t 65),none⟩]) (.seq (.seq (.reg [⟨.t 67,.mv (.x 10),none⟩,⟨.t 68,.call 125 [.t 67],none⟩,⟨.t 66,.mv (.t 68),none⟩,⟨.t 69,.ext (.t 66) 0,none⟩,⟨.t 70,.ext (.t 66) 1,none⟩,⟨.t 13,.mv (.t 69),none⟩,⟨.x 14,.mv (.t 70),none⟩]) (.seq (.reg [⟨.t 71,.mv (.x 14),none⟩,⟨.t 72,.un .not (.t 71),none⟩,⟨.t 73,.mv (.t 72),none⟩,⟨.t 74,.mv (.x 12),some (.t 73,false)⟩,⟨.t 75,.mv (.t 74),some (.t 73,false)⟩,⟨.t 76,.mv (.x 11),some (.t 75,true)⟩,⟨.t 77,.call 128 [.t 76],some (.t 75,true)⟩,⟨.t 78,.un .not (.t 77),some (.t 75,true)⟩,⟨.t 79,.pick (.t 75) (.t 78) (.c (.bool false)),some (.t 73,false)⟩,⟨.t 80,.pick (.t 73) (.c (.bool true)) (.t 79),none⟩,⟨.t 81,.mv (.t 80),none⟩,⟨.t 82,.mv (.x 10),some (.t 81,false)⟩,⟨.t 83,.lenS (.t 82),some (.t 81,false)⟩,⟨.t 84,.mv (.x 11),some (.t 81,false)⟩,⟨.t 85,.lenS (.t 84),some (.t 81,false)⟩,⟨.t 86,.bin .add (.t 83) (.t 85),some (.t 81,false)⟩,⟨.t 87,.bin .gtr (.t 86) (.c (.int .i64 4000)),some (.t 81,false)⟩,⟨.x 88,.pick (.t 81) (.c (.bool true)) (.t 87),none⟩]) (.cond (.x 88) (.seq (.reg [⟨.x 2,.mv (.c .nils),none⟩,⟨.x 3,.mv (.c .nils),none⟩,⟨.x 4,.mv (.c (.bool false)),none⟩]) .ret) .skip))) (.seq (.reg [⟨.t 90,.mv (.x 10),none⟩,⟨.t 91,.mv (.x 11),none⟩,⟨.t 92,.bin .add (.t 90) (.t 91),none⟩,⟨.t 93,.call 129 [.t 92],none⟩,⟨.t 94,.call 125 [.t 93],none⟩,⟨.t 89,.mv (.t 94),none⟩,⟨.t 95,.ext (.t 89) 0,none⟩,⟨.t 96,.ext (.t 89) 1,none⟩,⟨.x 2,.mv (.t 95),none⟩,⟨.x 4,.mv (.t 96),none⟩]) (.seq (.reg [⟨.t 97,.mv (.x 11),none⟩,⟨.t 98,.lenS (.t 97),none⟩,⟨.t 99,.call 79 [.t 98],none⟩,⟨.x 3,.mv (.t 99),none⟩]) (.seq (.seq (.reg [⟨.t 100,.mv (.x 8),none⟩,⟨.x 101,.bin .lss (.t 100) (.c (.int .i64 0)),none⟩]) (.cond (.x 101) (.seq (.reg [⟨.t 102,.mv (.x 2),none⟩,⟨.t 103,.mv (.x 3),none⟩,⟨.t 104,.mv (.x 8),none⟩,⟨.t 105,.un .neg (.t 104),none⟩,⟨.t 106,.call 79 [.t 105],none⟩,⟨.t 107,.call 78 [.t 103,.t 106],none⟩,⟨.t 108,.mv (.x 4),none⟩,⟨.x 2,.mv (.t 102),none⟩,⟨.x 3,.mv (.t 107),none⟩,⟨.x 4,.mv (.t 108),none⟩]) .ret) .skip)) (.seq (.reg [⟨.t 109,.mv (.x 2),none⟩,⟨.t 110,.mv (.x 8),none⟩,⟨.t 111,.call 79 [.t 110],none⟩,⟨.t 112,.call 78 [.t 109,.t 111],none⟩,⟨.t 113,.mv (.x 3),none⟩,⟨.t 114,.mv (.x 4),none⟩,⟨.x 2,.mv (.t 112),none⟩,⟨.x 3,.mv (.t 113),none⟩,⟨.x 4,.mv (.t 114),none⟩]) .ret))))))))))
def resq_unsigned : List RV := [.t 2, .t 3, .t 4]
theorem isq_unsigned : IsFn fnq_unsigned 69 codeq_unsigned resq_unsigned := ⟨⟨Tryz.f69, _, Tryz.func69, rfl, rfl, by kernel_rfl, by kernel_rfl, by kernel_rfl⟩⟩
noncomputable def fnnDiv : FnD := ⟨Tryz.prog,[0,1,4,5,6,7,8,13,17,24],[],48,false⟩
def codenDiv : DC := (.seq (.reg [⟨.x 4,.mv (.c .nils),none⟩,⟨.x 5,.mv (.c .nils),none⟩,⟨.x 6,.mv (.c (.bool false)),none⟩]) (.seq (.reg [⟨.t 9,.mv (.x 0),none⟩,⟨.t 10,.call 112 [.t 9],none⟩,⟨.t 11,.mv (.x 1),none⟩,⟨.t 12,.call 112 [.t 11],none⟩,⟨.x 0,.mv (.t 10),none⟩,⟨.x 1,.mv (.t 12),none⟩]) (.seq (.block 0 (.seq (.reg [⟨.t 14,.mv (.x 1),none⟩,⟨.t 15,.len 1 (.t 14),none⟩,⟨.t 16,.bin .eql (.t 15) (.c (.int .i64 0)),none⟩,⟨.x 13,.mv (.t 16),none⟩]) (.cond (.x 13) (.seq (.reg [⟨.x 4,.mv (.c .nils),none⟩,⟨.x 5,.mv (.c .nils),none⟩,⟨.x 6,.mv (.c (.bool false)),none⟩]) .ret) (.seq (.reg [⟨.t 18,.mv (.x 0),none⟩,⟨.t 19,.mv (.x 1),none⟩,⟨.t 20,.call 81 [.t 18,.t 19],none⟩,⟨.t 21,.bin .lss (.t 20) (.c (.int .i64 0)),none⟩,⟨.x 17,.mv (.t 21),none⟩]) (.cond (.x 17) (.seq (.reg [⟨.t 22,.mv (.x 0),none⟩,⟨.t 23,.call 136 [.t 22],none⟩,⟨.x 4,.mv (.c .nils),none⟩,⟨.x 5,.mv (.t 23),none⟩,⟨.x 6,.mv (.c (.bool true)),none⟩]) .ret) (.seq (.reg [⟨.t 25,.mv (.x 1),none⟩,⟨.t 26,.len 1 (.t 25),none⟩,⟨.t 27,.bin .eql (.t 26) (.c (.int .i64 1)),none⟩,⟨.x 24,.mv (.t 27),none⟩]) (.cond (.x 24) (.seq (.reg [⟨.t 29,.mv (.x 0),none⟩,⟨.t 30,.mv (.x 1),none⟩,⟨.t 31,.iad 1 (.t 30) (.c (.int .i64 0)),none⟩,⟨.t 32,.ld (.t 31),none⟩,⟨.t 33,.call 113 [.t 29,.t 32],none⟩,⟨.t 28,.mv (.t 33),none⟩,⟨.t 34,.ext (.t 28) 0,none⟩,⟨.t 35,.ext (.t 28) 1,none⟩,⟨.x 7,.mv (.t 34),none⟩,⟨.x 8,.mv (.t 35),none⟩]) (.seq (.reg [⟨.t 36,.mv (.x 7),none⟩,⟨.t 37,.mv (.x 8),none⟩,⟨.t 38,.conv .u64 (.t 37),none⟩,⟨.t 39,.call 137 [.t 38],none⟩,⟨.x 4,.mv (.t 36),none⟩,⟨.x 5,.mv (.t 39),none⟩,⟨.x 6,.mv (.c (.bool true)),none⟩]) .ret)) .skip))))))) (.seq (.reg [⟨.t 41,.mv (.x 0),none⟩,⟨.t 42,.mv (.x 1),none⟩,⟨.t 43,.call 138 [.t 41,.t 42],none⟩,⟨.t 40,.mv (.t 43),none⟩,⟨.t 44,.ext (.t 40) 0,none⟩,⟨.t 45,.ext (.t 40) 1,none⟩,⟨.x 4,.mv (.t 44),none⟩,⟨.x 5,.mv (.t 45),none⟩]) (.seq (.reg [⟨.t 46,.mv (.x 4),none⟩,⟨.t 47,.mv (.x 5),none⟩,⟨.x 4,.mv (.t 46),none⟩,⟨.x 5,.mv (.t 47),none⟩,⟨.x 6,.mv (.c (.bool true)),none⟩]) .ret)))))
def resnDiv : List RV := [.t 4, .t 5, .t 6]
theorem isnDiv : IsFn fnnDiv 77 codenDiv resnDiv := ⟨⟨Tryz.f77, _, Tryz.func77, rfl, rfl, by kernel_rfl, by kernel_rfl, by kernel_rfl⟩⟩
noncomputable def fnnCmp : FnD := ⟨Tryz.prog,[0,1,4,5,14,19,24,27,37],[],47,false⟩
def codenCmp : DC := (.seq (.reg [⟨.x 4,.mv (.c (.int .i64 0)),none⟩]) (.seq (.reg [⟨.t 6,.mv (.x 0),none⟩,⟨.t 7,.call 112 [.t 6],none⟩,⟨.t 8,.mv (.x 1),none⟩,⟨.t 9,.call 112 [.t 8],none⟩,⟨.x 0,.mv (.t 7),none⟩,⟨.x 1,.mv (.t 9),none⟩]) (.seq (.seq (.reg [⟨.t 10,.mv (.x 0),none⟩,⟨.t 11,.len 1 (.t 10),none⟩,⟨.t 12,.mv (.x 1),none⟩,⟨.t 13,.len 1 (.t 12),none⟩,⟨.x 14,.bin .neq (.t 11) (.t 13),none⟩]) (.cond (.x 14) (.seq (.seq (.reg [⟨.t 15,.mv (.x 0),none⟩,⟨.t 16,.len 1 (.t 15),none⟩,⟨.t 17,.mv (.x 1),none⟩,⟨.t 18,.len 1 (.t 17),none⟩,⟨.x 19,.bin .lss (.t 16) (.t 18),none⟩]) (.cond (.x 19) (.seq (.reg [⟨.x 4,.mv (.c (.int .i64 (-1))),none⟩]) .ret) .skip)) (.seq (.reg [⟨.x 4,.mv (.c (.int .i64 1)),none⟩]) .ret)) .skip)) (.seq (.seq (.reg [⟨.t 20,.mv (.x 0),none⟩,⟨.t 21,.len 1 (.t 20),none⟩,⟨.t 22,.bin .sub (.t 21) (.c (.int .i64 1)),none⟩,⟨.x 5,.mv (.t 22),none⟩]) (.block 0 (.loop (.seq (.seq (.reg [⟨.t 23,.mv (.x 5),none⟩,⟨.x 24,.bin .geq (.t 23) (.c (.int .i64 0)),none⟩]) (.cond (.x 24) .skip (.exit 0))) (.seq (.block 1 (.block 2 (.seq (.regd [⟨.t 28,.mv (.x 0),none⟩,⟨.t 29,.mv (.x 5),none⟩,⟨.t 30,.iad 1 (.t 28) (.t 29),none⟩,⟨.t 31,.ld (.t 30),none⟩,⟨.t 32,.mv (.x 1),none⟩,⟨.t 33,.mv (.x 5),none⟩,⟨.t 34,.iad 1 (.t 32) (.t 33),none⟩,⟨.t 35,.ld (.t 34),none⟩,⟨.t 36,.bin .lss (.t 31) (.t 35),none⟩,⟨.x 27,.mv (.t 36),none⟩]) (.cond (.x 27) (.seq (.reg [⟨.x 4,.mv (.c (.int .i64 (-1))),none⟩]) .ret) (.seq (.regd [⟨.t 38,.mv (.x 0),none⟩,⟨.t 39,.mv (.x 5),none⟩,⟨.t 40,.iad 1 (.t 38) (.t 39),none⟩,⟨.t 41,.ld (.t 40),none⟩,⟨.t 42,.mv (.x 1),none⟩,⟨.t 43,.mv (.x 5),none⟩,⟨.t 44,.iad 1 (.t 42) (.t 43),none⟩,⟨.t 45,.ld (.t 44),none⟩,⟨.t 46,.bin .gtr (.t 41) (.t 45),none⟩,⟨.x 37,.mv (.t 46),none⟩]) (.cond (.x 37) (.seq (.reg [⟨.x 4,.mv (.c (.int .i64 1)),none⟩]) .ret) .skip)))))) (.reg [⟨.t 25,.mv (.x 5),none⟩,⟨.t 26,.bin .sub (.t 25) (.c (.int .i64 1)),none⟩,⟨.x 5,.mv (.t 26),none⟩])))))) (.seq (.reg [⟨.x 4,.mv (.c (.int .i64 0)),none⟩]) .ret)))))
def resnCmp : List RV := [.t 4]
theorem isnCmp : IsFn fnnCmp 81 codenCmp resnCmp := ⟨⟨Tryz.f81, _, Tryz.func81, rfl, rfl, by kernel_rfl, by kernel_rfl, by kernel_rfl⟩⟩
noncomputable def fnp_one : FnD := ⟨Tryz.prog,[0,2],[],12,false⟩
def codep_one : DC := (.seq (.reg [⟨.x 2,.mv (.c (.bool false)),none⟩]) (.seq (.reg [⟨.t 3,.mv (.x 0),none⟩,⟨.t 4,.len 1 (.t 3),none⟩,⟨.t 5,.bin .eql (.t 4) (.c (.int .i64 1)),none⟩,⟨.t 6,.mv (.t 5),none⟩,⟨.t 7,.mv (.x 0),some (.t 6,true)⟩,⟨.t 8,.iad 1 (.t 7) (.c (.int .i64 0)),some (.t 6,true)⟩,⟨.t 9,.ld (.t 8),some (.t 6,true)⟩,⟨.t 10,.bin .eql (.t 9) (.c (.int .u32 1)),some (.t 6,true)⟩,⟨.t 11,.pick (.t 6) (.t 10) (.c (.bool false)),none⟩,⟨.x 2,.mv (.t 11),none⟩]) .ret))
def resp_one : List RV := [.t 2]
theorem isp_one : IsFn fnp_one 104 codep_one resp_one := ⟨⟨Tryz.f104, _, Tryz.func104, rfl, rfl, by kernel_rfl, by kernel_rfl, by kernel_rfl⟩⟩
noncomputable def fnqValid : FnD := ⟨Tryz.prog,[0,1,2,3,14,19],[],41,false⟩
def codeqValid : DC := (.seq (.reg [⟨.x 1,.box (.x 0),none⟩,⟨.x 2,.mv (.c (.bool false)),none⟩]) (.seq (.block 0 (.seq (.reg [⟨.t 4,.fad 0 (.x 1),none⟩,⟨.t 5,.ldn 2 (.t 4),none⟩,⟨.t 6,.call 154 [.t 5],none⟩,⟨.t 7,.un .not (.t 6),none⟩,⟨.t 8,.mv (.t 7),none⟩,⟨.t 9,.fad 2 (.x 1),some (.t 8,false)⟩,⟨.t 10,.ld (.t 9),some (.t 8,false)⟩,⟨.t 11,.call 155 [.t 10],some (.t 8,false)⟩,⟨.t 12,.un .not (.t 11),some (.t 8,false)⟩,⟨.t 13,.pick (.t 8) (.c (.bool true)) (.t 12),none⟩,⟨.x 3,.mv (.t 13),none⟩]) (.cond (.x 3) (.seq (.reg [⟨.x 2,.mv (.c (.bool false)),none⟩]) .ret) (.seq (.reg [⟨.t 15,.fad 2 (.x 1),none⟩,⟨.t 16,.ld (.t 15),none⟩,⟨.t 17,.len 1 (.t 16),none⟩,⟨.t 18,.bin .eql (.t 17) (.c (.int .i64 0)),none⟩,⟨.x 14,.mv (.t 18),none⟩]) (.cond (.x 14) (.seq (.reg [⟨.x 2,.mv (.c (.bool true)),none⟩]) .ret) (.seq (.regd [⟨.t 20,.fad 0 (.x 1),none⟩,⟨.t 21,.fad 1 (.t 20),none⟩,⟨.t 22,.ld (.t 21),none⟩,⟨.t 23,.len 1 (.t 22),none⟩,⟨.t 24,.bin .eql (.t 23) (.c (.int .i64 0)),none⟩,⟨.t 25,.mv (.t 24),none⟩,⟨.t 26,.fad 2 (.x 1),some (.t 25,false)⟩,⟨.t 27,.ld (.t 26),some (.t 25,false)⟩,⟨.t 28,.call 83 [],some (.t 25,false)⟩,⟨.t 29,.call 81 [.t 27,.t 28],some (.t 25,false)⟩,⟨.t 30,.bin .eql (.t 29) (.c (.int .i64 0)),some (.t 25,false)⟩,⟨.t 31,.pick (.t 25) (.c (.bool true)) (.t 30),none⟩,⟨.x 19,.mv (.t 31),none⟩]) (.cond (.x 19) (.seq (.reg [⟨.x 2,.mv (.c (.bool false)),none⟩]) .ret) .skip))))))) (.seq (.reg [⟨.t 32,.fad 0 (.x 1),none⟩,⟨.t 33,.fad 1 (.t 32),none⟩,⟨.t 34,.ld (.t 33),none⟩,⟨.t 35,.fad 2 (.x 1),none⟩,⟨.t 36,.ld (.t 35),none⟩,⟨.t 37,.call 130 [.t 34,.t 36],none⟩,⟨.t 38,.call 83 [],none⟩,⟨.t 39,.call 81 [.t 37,.t 38],none⟩,⟨.t 40,.bin .eql (.t 39) (.c (.int .i64 0)),none⟩,⟨.x 2,.mv (.t 40),none⟩]) .ret)))
def resqValid : List RV := [.t 2]
theorem nbqValid : fnqValid.nb = 0 := rfl
theorem isqValid : IsFn fnqValid 109 codeqValid resqValid := ⟨⟨Tryz.f109, _, Tryz.func109, rfl, rfl, by kernel_rfl, by kernel_rfl, by kernel_rfl⟩⟩
noncomputable def fnnShort : FnD := ⟨Tryz.prog,[0,1,4,5,6,14],[],33,false⟩
def codenShort : DC := (.seq (.reg [⟨.x 4,.mv (.c .nils),none⟩,⟨.x 5,.mv (.c (.int .u32 0)),none⟩]) (.seq (.reg [⟨.t 7,.mv (.x 0),none⟩,⟨.t 8,.len 1 (.t 7),none⟩,⟨.t 9,.mks 1 4 [(.int .u32 0)] (.t 8) (.t 8),none⟩,⟨.x 4,.mv (.t 9),none⟩]) (.seq (.seq (.reg [⟨.t 10,.mv (.x 0),none⟩,⟨.t 11,.len 1 (.t 10),none⟩,⟨.t 12,.bin .sub (.t 11) (.c (.int .i64 1)),none⟩,⟨.x 6,.mv (.t 12),none⟩]) (.block 0 (.loop (.seq (.seq (.reg [⟨.t 13,.mv (.x 6),none⟩,⟨.x 14,.bin .geq (.t 13) (.c (.int .i64 0)),none⟩]) (.cond (.x 14) .skip (.exit 0))) (.seq (.block 1 (.reg [⟨.t 18,.mv (.x 4),none⟩,⟨.t 19,.mv (.x 6),none⟩,⟨.t 20,.mv (.x 5),none⟩,⟨.t 21,.mv (.x 0),none⟩,⟨.t 22,.mv (.x 6),none⟩,⟨.t 23,.iad 1 (.t 21) (.t 22),none⟩,⟨.t 24,.ld (.t 23),none⟩,⟨.t 25,.mv (.x 1),none⟩,⟨.t 26,.call 156 [.t 20,.t 24,.t 25],none⟩,⟨.t 17,.mv (.t 26),none⟩,⟨.t 27,.ext (.t 17) 0,none⟩,⟨.t 28,.ext (.t 17) 1,none⟩,⟨.t 29,.iad 1 (.t 18) (.t 19),none⟩,⟨.no,.st (.t 29) (.t 27),none⟩,⟨.x 5,.mv (.t 28),none⟩])) (.reg [⟨.t 15,.mv (.x 6),none⟩,⟨.t 16,.bin .sub (.t 15) (.c (.int .i64 1)),none⟩,⟨.x 6,.mv (.t 16),none⟩])))))) (.seq (.reg [⟨.t 30,.mv (.x 4),none⟩,⟨.t 31,.call 139 [.t 30],none⟩,⟨.t 32,.mv (.x 5),none⟩,⟨.x 4,.mv (.t 31),none⟩,⟨.x 5,.mv (.t 32),none⟩]) .ret))))
def resnShort : List RV := [.t 4, .t 5]
theorem nbnShort : fnnShort.nb = 0 := rfl
theorem isnShort : IsFn fnnShort 113 codenShort resnShort := ⟨⟨Tryz.f113, _, Tryz.func113, rfl, rfl, by kernel_rfl, by kernel_rfl, by kernel_rfl⟩⟩
noncomputable def fnrLimb : FnD := ⟨Tryz.prog,[0,1,4,8],[],14,false⟩
def coderLimb : DC := (.seq (.reg [⟨.x 4,.mv (.c (.int .u64 0)),none⟩]) (.seq (.seq (.reg [⟨.t 5,.mv (.x 1),none⟩,⟨.t 6,.mv (.x 0),none⟩,⟨.t 7,.len 1 (.t 6),none⟩,⟨.x 8,.bin .geq (.t 5) (.t 7),none⟩]) (.cond (.x 8) (.seq (.reg [⟨.x 4,.mv (.c (.int .u64 0)),none⟩]) .ret) .skip)) (.seq (.reg [⟨.t 9,.mv (.x 0),none⟩,⟨.t 10,.mv (.x 1),none⟩,⟨.t 11,.iad 1 (.t 9) (.t 10),none⟩,⟨.t 12,.ld (.t 11),none⟩,⟨.t 13,.conv .u64 (.t 12),none⟩,⟨.x 4,.mv (.t 13),none⟩]) .ret)))
def resrLimb : List RV := [.t 4]
theorem isrLimb : IsFn fnrLimb 121 coderLimb resrLimb := ⟨⟨Tryz.f121, _, Tryz.func121, rfl, rfl, by kernel_rfl, by kernel_rfl, by kernel_rfl⟩⟩
noncomputable def fnq_exponent : FnD := ⟨Tryz.prog,[0,2,3,4,5,6,7,32,33],[],39,false⟩
def codeq_exponent : DC := (.seq (.reg [⟨.x 2,.mv (.c (.int .i64 0)),none⟩,⟨.x 3,.mv (.c (.bool false)),none⟩]) (.seq (.reg [⟨.t 9,.mv (.x 0),none⟩,⟨.t 10,.call 45 [.t 9,(.c (.str [45]))],none⟩,⟨.t 8,.mv (.t 10),none⟩,⟨.t 11,.ext (.t 8) 0,none⟩,⟨.t 12,.ext (.t 8) 1,none⟩,⟨.x 0,.mv (.t 11),none⟩,⟨.x 4,.mv (.t 12),none⟩]) (.seq (.reg [⟨.t 14,.mv (.x 0),none⟩,⟨.t 15,.call 125 [.t 14],none⟩,⟨.t 13,.mv (.t 15),none⟩,⟨.t 16,.ext (.t 13) 0,none⟩,⟨.t 17,.ext (.t 13) 1,none⟩,⟨.x 5,.mv (.t 16),none⟩,⟨.x 3,.mv (.t 17),none⟩]) (.seq (.reg [⟨.t 19,.mv (.x 5),none⟩,⟨.t 20,.call 167 [.t 19],none⟩,⟨.t 18,.mv (.t 20),none⟩,⟨.t 21,.ext (.t 18) 0,none⟩,⟨.t 22,.ext (.t 18) 1,none⟩,⟨.x 6,.mv (.t 21),none⟩,⟨.x 7,.mv (.t 22),none⟩]) (.seq (.seq (.reg [⟨.t 23,.mv (.x 3),none⟩,⟨.t 24,.un .not (.t 23),none⟩,⟨.t 25,.mv (.t 24),none⟩,⟨.t 26,.mv (.x 7),some (.t 25,false)⟩,⟨.t 27,.un .not (.t 26),some (.t 25,false)⟩,⟨.t 28,.pick (.t 25) (.c (.bool true)) (.t 27),none⟩,⟨.t 29,.mv (.t 28),none⟩,⟨.t 30,.mv (.x 6),some (.t 29,false)⟩,⟨.t 31,.bin .gtr (.t 30) (.c (.int .u64 40)),some (.t 29,false)⟩,⟨.x 32,.pick (.t 29) (.c (.bool true)) (.t 31),none⟩]) (.cond (.x 32) (.seq (.reg [⟨.x 2,.mv (.c (.int .i64 0)),none⟩,⟨.x 3,.mv (.c (.bool false)),none⟩]) .ret) .skip)) (.seq (.seq (.reg [⟨.x 33,.mv (.x 4),none⟩]) (.cond (.x 33) (.seq (.reg [⟨.t 34,.mv (.x 6),none⟩,⟨.t 35,.conv .i64 (.t 34),none⟩,⟨.t 36,.un .neg (.t 35),none⟩,⟨.x 2,.mv (.t 36),none⟩,⟨.x 3,.mv (.c (.bool true)),none⟩]) .ret) .skip)) (.seq (.reg [⟨.t 37,.mv (.x 6),none⟩,⟨.t 38,.conv .i64 (.t 37),none⟩,⟨.x 2,.mv (.t 38),none⟩,⟨.x 3,.mv (.c (.bool true)),none⟩]) .ret)))))))
def resq_exponent : List RV := [.t 2, .t 3]
theorem isq_exponent : IsFn fnq_exponent 127 codeq_exponent resq_exponent := ⟨⟨Tryz.f127, _, Tryz.func127, rfl, rfl, by kernel_rfl, by kernel_rfl, by kernel_rfl⟩⟩
noncomputable def fnrTimes : FnD := ⟨Tryz.prog,[0,1,2,6,7,8,9,10,16],[],36,false⟩
def coderTimes : DC := (.seq (.reg [⟨.x 6,.mv (.c .nils),none⟩]) (.seq (.reg [⟨.t 11,.mv (.x 2),none⟩,⟨.t 12,.mks 1 4 [(.int .u32 0)] (.t 11) (.t 11),none⟩,⟨.x 7,.mv (.t 12),none⟩]) (.seq (.reg [⟨.x 8,.mv (.c (.int .u64 0)),none⟩]) (.seq (.seq (.reg [⟨.x 9,.mv (.c (.int .i64 0)),none⟩]) (.block 0 (.loop (.seq (.seq (.reg [⟨.t 13,.mv (.x 9),none⟩,⟨.t 14,.mv (.x 0),none⟩,⟨.t 15,.len 1 (.t 14),none⟩,⟨.x 16,.bin .leq (.t 13) (.t 15),none⟩]) (.cond (.x 16) .skip (.exit 0))) (.seq (.block 1 (.seq (.reg [⟨.t 19,.mv (.x 0),none⟩,⟨.t 20,.mv (.x 9),none⟩,⟨.t 21,.call 121 [.t 19,.t 20],none⟩,⟨.t 22,.mv (.x 1),none⟩,⟨.t 23,.conv .u64 (.t 22),none⟩,⟨.t 24,.bin .mul (.t 21) (.t 23),none⟩,⟨.t 25,.mv (.x 8),none⟩,⟨.t 26,.bin .add (.t 24) (.t 25),none⟩,⟨.x 10,.mv (.t 26),none⟩]) (.reg [⟨.t 27,.mv (.x 7),none⟩,⟨.t 28,.mv (.x 10),none⟩,⟨.t 29,.conv .u32 (.t 28),none⟩,⟨.t 30,.bsl 1 [(.int .u32 0)] [(0,1,.t 29)],none⟩,⟨.t 31,.app 66 1 4 (.t 27) (.t 30),none⟩,⟨.t 32,.mv (.x 10),none⟩,⟨.t 33,.bin .shr (.t 32) (.c (.int .u64 32)),none⟩,⟨.x 7,.mv (.t 31),none⟩,⟨.x 8,.mv (.t 33),none⟩]))) (.reg [⟨.t 17,.mv (.x 9),none⟩,⟨.t 18,.bin .add (.t 17) (.c (.int .i64 1)),none⟩,⟨.x 9,.mv (.t 18),none⟩])))))) (.seq (.reg [⟨.t 34,.mv (.x 7),none⟩,⟨.t 35,.call 153 [.t 34],none⟩,⟨.x 6,.mv (.t 35),none⟩]) .ret)))))
def resrTimes : List RV := [.t 6]
theorem nbrTimes : fnrTimes.nb = 0 := rfl
theorem isrTimes : IsFn fnrTimes 131 coderTimes resrTimes := ⟨⟨Tryz.f131, _, Tryz.func131, rfl, rfl, by kernel_rfl, by kernel_rfl, by kernel_rfl⟩⟩
noncomputable def fnnTrim : FnD := ⟨Tryz.prog,[0,2,3,15],[],21,false⟩
def codenTrim : DC := (.seq (.reg [⟨.x 2,.mv (.c .nils),none⟩]) (.seq (.reg [⟨.t 4,.mv (.x 0),none⟩,⟨.t 5,.len 1 (.t 4),none⟩,⟨.x 3,.mv (.t 5),none⟩]) (.seq (.block 0 (.loop (.seq (.seq (.reg [⟨.t 6,.mv (.x 3),none⟩,⟨.t 7,.bin .gtr (.t 6) (.c (.int .i64 0)),none⟩,⟨.t 8,.mv (.t 7),none⟩,⟨.t 9,.mv (.x 0),some (.t 8,true)⟩,⟨.t 10,.mv (.x 3),some (.t 8,true)⟩,⟨.t 11,.bin .sub (.t 10) (.c (.int .i64 1)),some (.t 8,true)⟩,⟨.t 12,.iad 1 (.t 9) (.t 11),some (.t 8,true)⟩,⟨.t 13,.ld (.t 12),some (.t 8,true)⟩,⟨.t 14,.bin .eql (.t 13) (.c (.int .u32 0)),some (.t 8,true)⟩,⟨.x 15,.pick (.t 8) (.t 14) (.c (.bool false)),none⟩]) (.cond (.x 15) .skip (.exit 0))) (.block 1 (.reg [⟨.t 16,.mv (.x 3),none⟩,⟨.t 17,.bin .sub (.t 16) (.c (.int .i64 1)),none⟩,⟨.x 3,.mv (.t 17),none⟩]))))) (.seq (.reg [⟨.t 18,.mv (.x 0),none⟩,⟨.t 19,.mv (.x 3),none⟩,⟨.t 20,.slc 1 (.t 18) none (some (.t 19)),none⟩,⟨.x 2,.mv (.t 20),none⟩]) .ret))))
def resnTrim : List RV := [.t 2]
theorem isnTrim : IsFn fnnTrim 139 codenTrim resnTrim := ⟨⟨Tryz.f139, _, Tryz.func139, rfl, rfl, by kernel_rfl, by kernel_rfl, by kernel_rfl⟩⟩
noncomputable def fnrTrim : FnD := ⟨Tryz.prog,[0,2,14],[],21,false⟩
def coderTrim : DC := (.seq (.reg [⟨.x 2,.mv (.c .nils),none⟩]) (.seq (.block 0 (.loop (.seq (.seq (.reg [⟨.t 3,.mv (.x 0),none⟩,⟨.t 4,.len 1 (.t 3),none⟩,⟨.t 5,.bin .gtr (.t 4) (.c (.int .i64 0)),none⟩,⟨.t 6,.mv (.t 5),none⟩,⟨.t 7,.mv (.x 0),some (.t 6,true)⟩,⟨.t 8,.mv (.x 0),some (.t 6,true)⟩,⟨.t 9,.len 1 (.t 8),some (.t 6,true)⟩,⟨.t 10,.bin .sub (.t 9) (.c (.int .i64 1)),some (.t 6,true)⟩,⟨.t 11,.iad 1 (.t 7) (.t 10),some (.t 6,true)⟩,⟨.t 12,.ld (.t 11),some (.t 6,true)⟩,⟨.t 13,.bin .eql (.t 12) (.c (.int .u32 0)),some (.t 6,true)⟩,⟨.x 14,.pick (.t 6) (.t 13) (.c (.bool false)),none⟩]) (.cond (.x 14) .skip (.exit 0))) (.block 1 (.reg [⟨.t 15,.mv (.x 0),none⟩,⟨.t 16,.mv (.x 0),none⟩,⟨.t 17,.len 1 (.t 16),none⟩,⟨.t 18,.bin .sub (.t 17) (.c (.int .i64 1)),none⟩,⟨.t 19,.slc 1 (.t 15) none (some (.t 18)),none⟩,⟨.x 0,.mv (.t 19),none⟩]))))) (.seq (.reg [⟨.t 20,.mv (.x 0),none⟩,⟨.x 2,.mv (.t 20),none⟩]) .ret)))
def resrTrim : List RV := [.t 2]
theorem isrTrim : IsFn fnrTrim 153 coderTrim resrTrim := ⟨⟨Tryz.f153, _, Tryz.func153, rfl, rfl, by kernel_rfl, by kernel_rfl, by kernel_rfl⟩⟩
noncomputable def fnsValid : FnD := ⟨Tryz.prog,[0,1,2],[],17,false⟩
def codesValid : DC := (.seq (.reg [⟨.x 1,.box (.x 0),none⟩,⟨.x 2,.mv (.c (.bool false)),none⟩]) (.seq (.reg [⟨.t 3,.fad 1 (.x 1),none⟩,⟨.t 4,.ld (.t 3),none⟩,⟨.t 5,.call 159 [.t 4],none⟩,⟨.t 6,.mv (.t 5),none⟩,⟨.t 7,.fad 0 (.x 1),some (.t 6,true)⟩,⟨.t 8,.ld (.t 7),some (.t 6,true)⟩,⟨.t 9,.mv (.t 8),some (.t 6,true)⟩,⟨.t 10,.fad 1 (.x 1),some (.t 9,true)⟩,⟨.t 11,.ld (.t 10),some (.t 9,true)⟩,⟨.t 12,.len 1 (.t 11),some (.t 9,true)⟩,⟨.t 13,.bin .eql (.t 12) (.c (.int .i64 0)),some (.t 9,true)⟩,⟨.t 14,.pick (.t 9) (.t 13) (.c (.bool false)),some (.t 6,true)⟩,⟨.t 15,.un .not (.t 14),some (.t 6,true)⟩,⟨.t 16,.pick (.t 6) (.t 15) (.c (.bool false)),none⟩,⟨.x 2,.mv (.t 16),none⟩]) .ret))
def ressValid : List RV := [.t 2]
theorem nbsValid : fnsValid.nb = 0 := rfl
theorem issValid : IsFn fnsValid 158 codesValid ressValid := ⟨⟨Tryz.f158, _, Tryz.func158, rfl, rfl, by kernel_rfl, by kernel_rfl, by kernel_rfl⟩⟩
noncomputable def fnislCut : FnD := ⟨Tryz.prog,[0,1,4,5,6,7,12],[],23,false⟩
def codeislCut : DC := (.seq (.reg [⟨.x 4,.mv (.c (.str [])),none⟩,⟨.x 5,.mv (.c (.str [])),none⟩,⟨.x 6,.mv (.c (.bool false)),none⟩]) (.seq (.seq (.reg [⟨.t 8,.mv (.x 0),none⟩,⟨.t 9,.mv (.x 1),none⟩,⟨.t 10,.call 180 [.t 8,.t 9],none⟩,⟨.x 7,.mv (.t 10),none⟩]) (.seq (.reg [⟨.t 11,.mv (.x 7),none⟩,⟨.x 12,.bin .geq (.t 11) (.c (.int .i64 0)),none⟩]) (.cond (.x 12) (.seq (.regd [⟨.t 13,.mv (.x 0),none⟩,⟨.t 14,.mv (.x 7),none⟩,⟨.t 15,.slcS (.t 13) none (some (.t 14)),none⟩,⟨.t 16,.mv (.x 0),none⟩,⟨.t 17,.mv (.x 7),none⟩,⟨.t 18,.mv (.x 1),none⟩,⟨.t 19,.lenS (.t 18),none⟩,⟨.t 20,.bin .add (.t 17) (.t 19),none⟩,⟨.t 21,.slcS (.t 16) (some (.t 20)) none,none⟩,⟨.x 4,.mv (.t 15),none⟩,⟨.x 5,.mv (.t 21),none⟩,⟨.x 6,.mv (.c (.bool true)),none⟩]) .ret) .skip))) (.seq (.reg [⟨.t 22,.mv (.x 0),none⟩,⟨.x 4,.mv (.t 22),none⟩,⟨.x 5,.mv (.c (.str [])),none⟩,⟨.x 6,.mv (.c (.bool false)),none⟩]) .ret)))
def resislCut : List RV := [.t 4, .t 5, .t 6]
theorem isislCut : IsFn fnislCut 162 codeislCut resislCut := ⟨⟨Tryz.f162, _, Tryz.func162, rfl, rfl, by kernel_rfl, by kernel_rfl, by kernel_rfl⟩⟩
noncomputable def fnnShifted : FnD := ⟨Tryz.prog,[0,1,4,5,6,7,8,13,14,15,16],[],41,false⟩
def codenShifted : DC := (.seq (.reg [⟨.x 4,.mv (.c .nils),none⟩]) (.seq (.reg [⟨.t 9,.mv (.x 0),none⟩,⟨.t 10,.len 1 (.t 9),none⟩,⟨.t 11,.bin .add (.t 10) (.c (.int .i64 1)),none⟩,⟨.t 12,.mks 1 4 [(.int .u32 0)] (.t 11) (.t 11),none⟩,⟨.x 5,.mv (.t 12),none⟩]) (.seq (.seq (.reg [⟨.x 13,.mv (.x 0),none⟩,⟨.x 14,.len 1 (.x 13),none⟩,⟨.x 15,.mv (.c (.int .i64 0)),none⟩]) (.block 0 (.loop (.seq (.reg [⟨.x 16,.bin .lss (.x 15) (.x 14),none⟩]) (.seq (.cond (.x 16) .skip (.exit 0)) (.seq (.block 1 (.seq (.reg [⟨.t 17,.mv (.x 15),none⟩,⟨.t 18,.iad 1 (.x 13) (.x 15),none⟩,⟨.t 19,.ld (.t 18),none⟩,⟨.x 6,.mv (.t 17),none⟩,⟨.x 7,.mv (.t 19),none⟩]) (.seq (.reg [⟨.t 20,.mv (.x 7),none⟩,⟨.t 21,.conv .u64 (.t 20),none⟩,⟨.t 22,.mv (.x 1),none⟩,⟨.t 23,.bin .shl (.t 21) (.t 22),none⟩,⟨.x 8,.mv (.t 23),none⟩]) (.seq (.reg [⟨.t 24,.mv (.x 5),none⟩,⟨.t 25,.mv (.x 6),none⟩,⟨.t 26,.iad 1 (.t 24) (.t 25),none⟩,⟨.t 27,.ld (.t 26),none⟩,⟨.t 28,.mv (.x 8),none⟩,⟨.t 29,.conv .u32 (.t 28),none⟩,⟨.t 30,.bin .or (.t 27) (.t 29),none⟩,⟨.t 31,.iad 1 (.t 24) (.t 25),none⟩,⟨.no,.st (.t 31) (.t 30),none⟩]) (.reg [⟨.t 32,.mv (.x 5),none⟩,⟨.t 33,.mv (.x 6),none⟩,⟨.t 34,.bin .add (.t 33) (.c (.int .i64 1)),none⟩,⟨.t 35,.mv (.x 8),none⟩,⟨.t 36,.bin .shr (.t 35) (.c (.int .u64 32)),none⟩,⟨.t 37,.conv .u32 (.t 36),none⟩,⟨.t 38,.iad 1 (.t 32) (.t 34),none⟩,⟨.no,.st (.t 38) (.t 37),none⟩]))))) (.reg [⟨.t 39,.bin .add (.x 15) (.c (.int .i64 1)),none⟩,⟨.x 15,.mv (.t 39),none⟩]))))))) (.seq (.reg [⟨.t 40,.mv (.x 5),none⟩,⟨.x 4,.mv (.t 40),none⟩]) .ret))))
def resnShifted : List RV := [.t 4]
theorem nbnShifted : fnnShifted.nb = 0 := rfl
theorem isnShifted : IsFn fnnShifted 171 codenShifted resnShifted := ⟨⟨Tryz.f171, _, Tryz.func171, rfl, rfl, by kernel_rfl, by kernel_rfl, by kernel_rfl⟩⟩
noncomputable def fnrcmp : FnD := ⟨Tryz.prog,[0,1,4,5,10,15,20,31,40],[],41,false⟩
def codercmp : DC := (.seq (.reg [⟨.x 4,.mv (.c (.int .i64 0)),none⟩]) (.seq (.seq (.reg [⟨.t 6,.mv (.x 0),none⟩,⟨.t 7,.len 1 (.t 6),none⟩,⟨.t 8,.mv (.x 1),none⟩,⟨.t 9,.len 1 (.t 8),none⟩,⟨.x 10,.bin .neq (.t 7) (.t 9),none⟩]) (.cond (.x 10) (.seq (.seq (.reg [⟨.t 11,.mv (.x 0),none⟩,⟨.t 12,.len 1 (.t 11),none⟩,⟨.t 13,.mv (.x 1),none⟩,⟨.t 14,.len 1 (.t 13),none⟩,⟨.x 15,.bin .lss (.t 12) (.t 14),none⟩]) (.cond (.x 15) (.seq (.reg [⟨.x 4,.mv (.c (.int .i64 (-1))),none⟩]) .ret) .skip)) (.seq (.reg [⟨.x 4,.mv (.c (.int .i64 1)),none⟩]) .ret)) .skip)) (.seq (.seq (.reg [⟨.t 16,.mv (.x 0),none⟩,⟨.t 17,.len 1 (.t 16),none⟩,⟨.t 18,.bin .sub (.t 17) (.c (.int .i64 1)),none⟩,⟨.x 5,.mv (.t 18),none⟩]) (.block 0 (.loop (.seq (.seq (.reg [⟨.t 19,.mv (.x 5),none⟩,⟨.x 20,.bin .geq (.t 19) (.c (.int .i64 0)),none⟩]) (.cond (.x 20) .skip (.exit 0))) (.seq (.block 1 (.seq (.seq (.regd [⟨.t 23,.mv (.x 0),none⟩,⟨.t 24,.mv (.x 5),none⟩,⟨.t 25,.iad 1 (.t 23) (.t 24),none⟩,⟨.t 26,.ld (.t 25),none⟩,⟨.t 27,.mv (.x 1),none⟩,⟨.t 28,.mv (.x 5),none⟩,⟨.t 29,.iad 1 (.t 27) (.t 28),none⟩,⟨.t 30,.ld (.t 29),none⟩,⟨.x 31,.bin .lss (.t 26) (.t 30),none⟩]) (.cond (.x 31) (.seq (.reg [⟨.x 4,.mv (.c (.int .i64 (-1))),none⟩]) .ret) .skip)) (.seq (.regd [⟨.t 32,.mv (.x 0),none⟩,⟨.t 33,.mv (.x 5),none⟩,⟨.t 34,.iad 1 (.t 32) (.t 33),none⟩,⟨.t 35,.ld (.t 34),none⟩,⟨.t 36,.mv (.x 1),none⟩,⟨.t 37,.mv (.x 5),none⟩,⟨.t 38,.iad 1 (.t 36) (.t 37),none⟩,⟨.t 39,.ld (.t 38),none⟩,⟨.x 40,.bin .gtr (.t 35) (.t 39),none⟩]) (.cond (.x 40) (.seq (.reg [⟨.x 4,.mv (.c (.int .i64 1)),none⟩]) .ret) .skip)))) (.reg [⟨.t 21,.mv (.x 5),none⟩,⟨.t 22,.bin .sub (.t 21) (.c (.int .i64 1)),none⟩,⟨.x 5,.mv (.t 22),none⟩])))))) (.seq (.reg [⟨.x 4,.mv (.c (.int .i64 0)),none⟩]) .ret))))
def resrcmp : List RV := [.t 4]
theorem isrcmp : IsFn fnrcmp 175 codercmp resrcmp := ⟨⟨Tryz.f175, _, Tryz.func175, rfl, rfl, by kernel_rfl, by kernel_rfl, by kernel_rfl⟩⟩
end Go.Proofs.YtjfedgpbedppeaaGreatDoor
namespace Go.Proofs.YtjfedgpbedppeaaGreatDoor
open Go Go.Dat Go.Proofs
noncomputable def fnwNew : FnD := ⟨Tryz.prog,[0,2,5],[],11,false⟩
def codewNew : DC := (.seq (.reg [⟨.x 2,.mv (.c .nilp),none⟩]) (.seq (.seq (.reg [⟨.t 3,.mv (.x 0),none⟩,⟨.t 4,.len 1 (.t 3),none⟩,⟨.x 5,.bin .gtr (.t 4) (.c (.int .i64 400)),none⟩]) (.cond (.x 5) (.reg [⟨.t 6,.mv (.x 0),none⟩,⟨.t 7,.slc 1 (.t 6) none (some (.c (.int .i64 400))),none⟩,⟨.x 0,.mv (.t 7),none⟩]) .skip)) (.seq (.reg [⟨.t 8,.mv (.x 0),none⟩,⟨.t 9,.build [.nils,(.int .i64 0)] [(0,1,.t 8)],none⟩,⟨.t 10,.box (.t 9),none⟩,⟨.x 2,.mv (.t 10),none⟩]) .ret)))
def reswNew : List RV := [.t 2]
theorem iswNew : IsFn fnwNew 8 codewNew reswNew := ⟨⟨Tryz.f8, _, Tryz.func8, rfl, rfl, by kernel_rfl, by kernel_rfl, by kernel_rfl⟩⟩
noncomputable def fnrpTest : FnD := ⟨Tryz.prog,[0,1,2,3,4,5,6,7,8,9],[3,1000001,7000024,2000001],27,false⟩
def coderpTest : DC := (.seq (.reg [⟨.x 1,.boxi (.x 0),none⟩,⟨.x 2,.mv (.c (.str [])),none⟩]) (.seq (.reg [⟨.x 3,.allocT 71 [.nilp,.nils],none⟩]) (.seq (.seq (.reg [⟨.x 6,.call 36 [.x 1],none⟩,⟨.x 7,.len 1 (.x 6),none⟩,⟨.x 8,.mv (.c (.int .i64 0)),none⟩]) (.block 0 (.loop (.seq (.reg [⟨.x 9,.bin .lss (.x 8) (.x 7),none⟩]) (.seq (.cond (.x 9) .skip (.exit 0)) (.seq (.block 1 (.seq (.reg [⟨.t 10,.mv (.x 8),none⟩,⟨.t 11,.iad 1 (.x 6) (.x 8),none⟩,⟨.t 12,.ld (.t 11),none⟩,⟨.x 4,.mv (.t 10),none⟩,⟨.x 5,.mv (.t 12),none⟩]) (.regs 11 [⟨.t 13,.call 38 [],none⟩,⟨.t 14,.mv (.x 4),none⟩,⟨.t 15,.iad 1 (.t 13) (.t 14),none⟩,⟨.t 16,.ld (.t 15),none⟩,⟨.t 17,.bin .add (.t 16) (.c (.str [32])),none⟩,⟨.t 18,.mv (.x 5),none⟩,⟨.t 19,.nilc (.t 18),none⟩,⟨.t 20,.ldn 3 (.t 19),none⟩,⟨.t 21,.call 39 [.t 20],none⟩,⟨.t 22,.bin .add (.t 17) (.t 21),none⟩,⟨.t 23,.bin .add (.t 22) (.c (.str [10])),none⟩,⟨.t 24,.call 37 [.x 3,.t 23],none⟩]))) (.reg [⟨.t 25,.bin .add (.x 8) (.c (.int .i64 1)),none⟩,⟨.x 8,.mv (.t 25),none⟩]))))))) (.seq (.reg [⟨.t 26,.call 40 [.x 3],none⟩,⟨.x 2,.mv (.t 26),none⟩]) .ret))))
def resrpTest : List RV := [.t 2]
theorem isrpTest : IsFn fnrpTest 12 coderpTest resrpTest := ⟨⟨Tryz.f12, _, Tryz.func12, rfl, rfl, by kernel_rfl, by kernel_rfl, by kernel_rfl⟩⟩
noncomputable def fnlrPlain : FnD := ⟨Tryz.prog,[0,2],[],8,false⟩
def codelrPlain : DC := (.seq (.reg [⟨.x 2,.mv (.c (.str [])),none⟩]) (.seq (.reg [⟨.t 3,.bsl 1 [(.str []),(.str []),(.str []),(.str []),(.str []),(.str []),(.str []),(.str [])] [(0,1,(.c (.str [97]))),(1,1,(.c (.str [49,48]))),(2,1,(.c (.str [45,51,47,52]))),(3,1,(.c (.str [98,99,100]))),(4,1,(.c (.str [126]))),(5,1,(.c (.str [33]))),(6,1,(.c (.str [120,50]))),(7,1,(.c (.str [97,98,99,100,101,102,103,104,105,106,107,108,109,110,111,112,113,114,115,116,117,118,119,120,121,122,48,49,50,51,52,53])))],none⟩,⟨.t 4,.mv (.x 0),none⟩,⟨.t 5,.call 14 [.t 4,(.c (.int .i64 8))],none⟩,⟨.t 6,.iad 1 (.t 3) (.t 5),none⟩,⟨.t 7,.ld (.t 6),none⟩,⟨.x 2,.mv (.t 7),none⟩]) .ret))
def reslrPlain : List RV := [.t 2]
theorem islrPlain : IsFn fnlrPlain 20 codelrPlain reslrPlain := ⟨⟨Tryz.f20, _, Tryz.func20, rfl, rfl, by kernel_rfl, by kernel_rfl, by kernel_rfl⟩⟩
noncomputable def fnrpReadCoefs : FnD := ⟨Tryz.prog,[0,2,3,4,5,7,8,9,10,11,12,26,27,28,29,30,41,54,70],[6000049],73,false⟩
def coderpReadCoefs : DC := (.seq (.reg [⟨.x 2,.mv (.c .nils),none⟩,⟨.x 3,.mv (.c .nils),none⟩,⟨.x 4,.mv (.c (.int .i64 0)),none⟩]) (.seq (.reg [⟨.t 14,.mv (.x 0),none⟩,⟨.t 15,.call 30 [.t 14],none⟩,⟨.t 13,.mv (.t 15),none⟩,⟨.t 16,.ext (.t 13) 0,none⟩,⟨.t 17,.ext (.t 13) 1,none⟩,⟨.x 5,.mv (.t 16),none⟩,⟨.x 4,.mv (.t 17),none⟩]) (.seq (.seq (.reg [⟨.t 18,.mv (.x 4),none⟩,⟨.t 19,.bin .neq (.t 18) (.c (.int .i64 0)),none⟩,⟨.t 20,.mv (.t 19),none⟩,⟨.t 21,.mv (.x 5),some (.t 20,false)⟩,⟨.t 22,.iad 1 (.t 21) (.c (.int .i64 0)),some (.t 20,false)⟩,⟨.t 23,.ld (.t 22),some (.t 20,false)⟩,⟨.t 24,.len 1 (.t 23),some (.t 20,false)⟩,⟨.t 25,.bin .neq (.t 24) (.c (.int .i64 3)),some (.t 20,false)⟩,⟨.x 26,.pick (.t 20) (.c (.bool true)) (.t 25),none⟩]) (.cond (.x 26) (.seq (.reg [⟨.x 2,.mv (.c .nils),none⟩,⟨.x 3,.mv (.c .nils),none⟩,⟨.x 4,.mv (.c (.int .i64 3)),none⟩]) .ret) .skip)) (.seq (.seq (.reg [⟨.x 27,.mv (.x 5),none⟩,⟨.x 28,.len 1 (.x 27),none⟩,⟨.x 29,.mv (.c (.int .i64 0)),none⟩]) (.block 0 (.loop (.seq (.reg [⟨.x 30,.bin .lss (.x 29) (.x 28),none⟩]) (.seq (.cond (.x 30) .skip (.exit 0)) (.seq (.block 1 (.seq (.reg [⟨.t 31,.iad 1 (.x 27) (.x 29),none⟩,⟨.t 32,.ld (.t 31),none⟩,⟨.x 7,.mv (.t 32),none⟩]) (.seq (.reg [⟨.t 34,.mv (.x 7),none⟩,⟨.t 35,.iad 1 (.t 34) (.c (.int .i64 1)),none⟩,⟨.t 36,.ld (.t 35),none⟩,⟨.t 37,.call 46 [.t 36],none⟩,⟨.t 33,.mv (.t 37),none⟩,⟨.t 38,.ext (.t 33) 0,none⟩,⟨.t 39,.ext (.t 33) 1,none⟩,⟨.x 8,.alloc [(.bool false),.nils,.nils],none⟩,⟨.no,.stn 3 (.x 8) (.t 38),none⟩,⟨.x 9,.mv (.t 39),none⟩]) (.seq (.seq (.reg [⟨.t 40,.mv (.x 9),none⟩,⟨.x 41,.un .not (.t 40),none⟩]) (.cond (.x 41) (.seq (.reg [⟨.x 2,.mv (.c .nils),none⟩,⟨.x 3,.mv (.c .nils),none⟩,⟨.x 4,.mv (.c (.int .i64 3)),none⟩]) .ret) .skip)) (.regd [⟨.t 42,.mv (.x 2),none⟩,⟨.t 43,.mv (.x 7),none⟩,⟨.t 44,.iad 1 (.t 43) (.c (.int .i64 0)),none⟩,⟨.t 45,.ld (.t 44),none⟩,⟨.t 46,.bsl 1 [(.str [])] [(0,1,.t 45)],none⟩,⟨.t 47,.app 9 1 16 (.t 42) (.t 46),none⟩,⟨.t 48,.mv (.x 3),none⟩,⟨.t 49,.ldnr 3 (.x 8),none⟩,⟨.t 50,.bsl 3 [(.bool false),.nils,.nils] [(0,3,.t 49)],none⟩,⟨.t 51,.app 27 3 56 (.t 48) (.t 50),none⟩,⟨.x 2,.mv (.t 47),none⟩,⟨.x 3,.mv (.t 51),none⟩]))))) (.reg [⟨.t 52,.bin .add (.x 29) (.c (.int .i64 1)),none⟩,⟨.x 29,.mv (.t 52),none⟩]))))))) (.seq (.seq (.reg [⟨.x 10,.mv (.c (.int .i64 0)),none⟩]) (.block 2 (.loop (.seq (.seq (.reg [⟨.t 53,.mv (.x 10),none⟩,⟨.x 54,.bin .leq (.t 53) (.c (.int .i64 20)),none⟩]) (.cond (.x 54) .skip (.exit 2))) (.seq (.block 3 (.seq (.reg [⟨.t 58,.mv (.x 2),none⟩,⟨.t 59,.mv (.x 3),none⟩,⟨.t 60,.mv (.x 10),none⟩,⟨.t 61,.call 22 [.t 58,.t 59,.t 60],none⟩,⟨.t 57,.mv (.t 61),none⟩,⟨.t 62,.ext (.t 57) 0,none⟩,⟨.t 63,.ext (.t 57) 1,none⟩,⟨.x 11,.mv (.t 62),none⟩,⟨.x 12,.mv (.t 63),none⟩]) (.seq (.reg [⟨.t 64,.mv (.x 12),none⟩,⟨.t 65,.bin .eql (.t 64) (.c (.int .i64 0)),none⟩,⟨.t 66,.mv (.t 65),none⟩,⟨.t 67,.mv (.x 11),some (.t 66,true)⟩,⟨.t 68,.mv (.x 0),some (.t 66,true)⟩,⟨.t 69,.bin .eql (.t 67) (.t 68),some (.t 66,true)⟩,⟨.x 70,.pick (.t 66) (.t 69) (.c (.bool false)),none⟩]) (.cond (.x 70) (.seq (.reg [⟨.t 71,.mv (.x 2),none⟩,⟨.t 72,.mv (.x 3),none⟩,⟨.x 2,.mv (.t 71),none⟩,⟨.x 3,.mv (.t 72),none⟩,⟨.x 4,.mv (.c (.int .i64 0)),none⟩]) .ret) .skip)))) (.reg [⟨.t 55,.mv (.x 10),none⟩,⟨.t 56,.bin .add (.t 55) (.c (.int .i64 1)),none⟩,⟨.x 10,.mv (.t 56),none⟩])))))) (.seq (.reg [⟨.x 2,.mv (.c .nils),none⟩,⟨.x 3,.mv (.c .nils),none⟩,⟨.x 4,.mv (.c (.int .i64 3)),none⟩]) .ret))))))
def resrpReadCoefs : List RV := [.t 2, .t 3, .t 4]
theorem isrpReadCoefs : IsFn fnrpReadCoefs 24 coderpReadCoefs resrpReadCoefs := ⟨⟨Tryz.f24, _, Tryz.func24, rfl, rfl, by kernel_rfl, by kernel_rfl, by kernel_rfl⟩⟩
noncomputable def fnlrRecords : FnD := ⟨Tryz.prog,[0,1,4,5,6,7,8,9,17,22,25],[],41,false⟩
def codelrRecords : DC := (.seq (.reg [⟨.x 4,.mv (.c .nils),none⟩]) (.seq (.reg [⟨.t 10,.mv (.x 0),none⟩,⟨.t 11,.call 14 [.t 10,(.c (.int .i64 4))],none⟩,⟨.t 12,.bin .add (.c (.int .i64 1)) (.t 11),none⟩,⟨.x 5,.mv (.t 12),none⟩]) (.seq (.reg [⟨.x 6,.mv (.c .nils),none⟩]) (.seq (.seq (.reg [⟨.t 13,.mv (.x 0),none⟩,⟨.t 14,.call 14 [.t 13,(.c (.int .i64 4))],none⟩,⟨.t 15,.bin .add (.c (.int .i64 1)) (.t 14),none⟩,⟨.x 7,.mv (.t 15),none⟩]) (.block 0 (.loop (.seq (.seq (.reg [⟨.t 16,.mv (.x 7),none⟩,⟨.x 17,.bin .gtr (.t 16) (.c (.int .i64 0)),none⟩]) (.cond (.x 17) .skip (.exit 0))) (.seq (.block 1 (.seq (.reg [⟨.x 8,.mv (.c .nils),none⟩]) (.seq (.seq (.reg [⟨.x 9,.mv (.c (.int .i64 0)),none⟩]) (.block 2 (.loop (.seq (.seq (.reg [⟨.t 20,.mv (.x 9),none⟩,⟨.t 21,.mv (.x 5),none⟩,⟨.x 22,.bin .lss (.t 20) (.t 21),none⟩]) (.cond (.x 22) .skip (.exit 2))) (.seq (.block 3 (.seq (.reg [⟨.x 25,.mv (.x 1),none⟩]) (.cond (.x 25) (.reg [⟨.t 26,.mv (.x 8),none⟩,⟨.t 27,.mv (.x 0),none⟩,⟨.t 28,.call 18 [.t 27],none⟩,⟨.t 29,.bsl 1 [(.str [])] [(0,1,.t 28)],none⟩,⟨.t 30,.app 9 1 16 (.t 26) (.t 29),none⟩,⟨.x 8,.mv (.t 30),none⟩]) (.reg [⟨.t 31,.mv (.x 8),none⟩,⟨.t 32,.mv (.x 0),none⟩,⟨.t 33,.call 20 [.t 32],none⟩,⟨.t 34,.bsl 1 [(.str [])] [(0,1,.t 33)],none⟩,⟨.t 35,.app 9 1 16 (.t 31) (.t 34),none⟩,⟨.x 8,.mv (.t 35),none⟩])))) (.reg [⟨.t 23,.mv (.x 9),none⟩,⟨.t 24,.bin .add (.t 23) (.c (.int .i64 1)),none⟩,⟨.x 9,.mv (.t 24),none⟩])))))) (.reg [⟨.t 36,.mv (.x 6),none⟩,⟨.t 37,.mv (.x 8),none⟩,⟨.t 38,.bsl 1 [.nils] [(0,1,.t 37)],none⟩,⟨.t 39,.app 39 1 24 (.t 36) (.t 38),none⟩,⟨.x 6,.mv (.t 39),none⟩])))) (.reg [⟨.t 18,.mv (.x 7),none⟩,⟨.t 19,.bin .sub (.t 18) (.c (.int .i64 1)),none⟩,⟨.x 7,.mv (.t 19),none⟩])))))) (.seq (.reg [⟨.t 40,.mv (.x 6),none⟩,⟨.x 4,.mv (.t 40),none⟩]) .ret)))))
def reslrRecords : List RV := [.t 4]
theorem islrRecords : IsFn fnlrRecords 28 codelrRecords reslrRecords := ⟨⟨Tryz.f28, _, Tryz.func28, rfl, rfl, by kernel_rfl, by kernel_rfl, by kernel_rfl⟩⟩
noncomputable def fnwRow : FnD := ⟨Tryz.prog,[0,1,4,5,6,9],[],18,false⟩
def codewRow : DC := (.seq (.reg [⟨.x 4,.mv (.c .nils),none⟩]) (.seq (.reg [⟨.x 5,.mv (.c .nils),none⟩]) (.seq (.seq (.reg [⟨.x 6,.mv (.c (.int .i64 0)),none⟩]) (.block 0 (.loop (.seq (.seq (.reg [⟨.t 7,.mv (.x 6),none⟩,⟨.t 8,.mv (.x 1),none⟩,⟨.x 9,.bin .lss (.t 7) (.t 8),none⟩]) (.cond (.x 9) .skip (.exit 0))) (.seq (.block 1 (.reg [⟨.t 12,.mv (.x 5),none⟩,⟨.t 13,.mv (.x 0),none⟩,⟨.t 14,.call 10 [.t 13],none⟩,⟨.t 15,.bsl 3 [(.bool false),.nils,.nils] [(0,3,.t 14)],none⟩,⟨.t 16,.app 27 3 56 (.t 12) (.t 15),none⟩,⟨.x 5,.mv (.t 16),none⟩])) (.reg [⟨.t 10,.mv (.x 6),none⟩,⟨.t 11,.bin .add (.t 10) (.c (.int .i64 1)),none⟩,⟨.x 6,.mv (.t 11),none⟩])))))) (.seq (.reg [⟨.t 17,.mv (.x 5),none⟩,⟨.x 4,.mv (.t 17),none⟩]) .ret))))
def reswRow : List RV := [.t 4]
theorem iswRow : IsFn fnwRow 32 codewRow reswRow := ⟨⟨Tryz.f32, _, Tryz.func32, rfl, rfl, by kernel_rfl, by kernel_rfl, by kernel_rfl⟩⟩
noncomputable def fnrpNumbers : FnD := ⟨Tryz.prog,[0,2],[21],22,false⟩
def coderpNumbers : DC := (.seq (.reg [⟨.x 2,.mv (.c .nils),none⟩]) (.seq (.regd [⟨.t 3,.mv (.x 0),none⟩,⟨.t 4,.nilc (.t 3),none⟩,⟨.t 5,.fad 0 (.t 4),none⟩,⟨.t 6,.mv (.x 0),none⟩,⟨.t 7,.nilc (.t 6),none⟩,⟨.t 8,.fad 3 (.t 7),none⟩,⟨.t 9,.mv (.x 0),none⟩,⟨.t 10,.nilc (.t 9),none⟩,⟨.t 11,.fad 6 (.t 10),none⟩,⟨.t 12,.mv (.x 0),none⟩,⟨.t 13,.nilc (.t 12),none⟩,⟨.t 14,.fad 9 (.t 13),none⟩,⟨.t 15,.mv (.x 0),none⟩,⟨.t 16,.nilc (.t 15),none⟩,⟨.t 17,.fad 12 (.t 16),none⟩,⟨.t 18,.mv (.x 0),none⟩,⟨.t 19,.nilc (.t 18),none⟩,⟨.t 20,.fad 15 (.t 19),none⟩,⟨.t 21,.bsl' 1 [.nilp,.nilp,.nilp,.nilp,.nilp,.nilp] [(0,1,.t 5),(1,1,.t 8),(2,1,.t 11),(3,1,.t 14),(4,1,.t 17),(5,1,.t 20)],none⟩,⟨.x 2,.mv (.t 21),none⟩]) .ret))
def resrpNumbers : List RV := [.t 2]
theorem isrpNumbers : IsFn fnrpNumbers 36 coderpNumbers resrpNumbers := ⟨⟨Tryz.f36, _, Tryz.func36, rfl, rfl, by kernel_rfl, by kernel_rfl, by kernel_rfl⟩⟩
noncomputable def fnrtSame : FnD := ⟨Tryz.prog,[0,1,2,3,4],[],32,false⟩
def codertSame : DC := (.seq (.reg [⟨.x 2,.box (.x 0),none⟩,⟨.x 3,.box (.x 1),none⟩,⟨.x 4,.mv (.c (.bool false)),none⟩]) (.seq (.reg [⟨.t 5,.fad 0 (.x 2),none⟩,⟨.t 6,.ldn 3 (.t 5),none⟩,⟨.t 7,.fad 3 (.x 2),none⟩,⟨.t 8,.ldn 3 (.t 7),none⟩,⟨.t 9,.fad 6 (.x 2),none⟩,⟨.t 10,.ldn 3 (.t 9),none⟩,⟨.t 11,.fad 9 (.x 2),none⟩,⟨.t 12,.ldn 3 (.t 11),none⟩,⟨.t 13,.fad 12 (.x 2),none⟩,⟨.t 14,.ldn 3 (.t 13),none⟩,⟨.t 15,.fad 15 (.x 2),none⟩,⟨.t 16,.ldn 3 (.t 15),none⟩,⟨.t 17,.bsl 3 [(.bool false),.nils,.nils,(.bool false),.nils,.nils,(.bool false),.nils,.nils,(.bool false),.nils,.nils,(.bool false),.nils,.nils,(.bool false),.nils,.nils] [(0,3,.t 6),(3,3,.t 8),(6,3,.t 10),(9,3,.t 12),(12,3,.t 14),(15,3,.t 16)],none⟩,⟨.t 18,.fad 0 (.x 3),none⟩,⟨.t 19,.ldn 3 (.t 18),none⟩,⟨.t 20,.fad 3 (.x 3),none⟩,⟨.t 21,.ldn 3 (.t 20),none⟩,⟨.t 22,.fad 6 (.x 3),none⟩,⟨.t 23,.ldn 3 (.t 22),none⟩,⟨.t 24,.fad 9 (.x 3),none⟩,⟨.t 25,.ldn 3 (.t 24),none⟩,⟨.t 26,.fad 12 (.x 3),none⟩,⟨.t 27,.ldn 3 (.t 26),none⟩,⟨.t 28,.fad 15 (.x 3),none⟩,⟨.t 29,.ldn 3 (.t 28),none⟩,⟨.t 30,.bsl 3 [(.bool false),.nils,.nils,(.bool false),.nils,.nils,(.bool false),.nils,.nils,(.bool false),.nils,.nils,(.bool false),.nils,.nils,(.bool false),.nils,.nils] [(0,3,.t 19),(3,3,.t 21),(6,3,.t 23),(9,3,.t 25),(12,3,.t 27),(15,3,.t 29)],none⟩,⟨.t 31,.call 27 [.t 17,.t 30],none⟩,⟨.x 4,.mv (.t 31),none⟩]) .ret))
def resrtSame : List RV := [.t 4]
theorem isrtSame : IsFn fnrtSame 49 codertSame resrtSame := ⟨⟨Tryz.f49, _, Tryz.func49, rfl, rfl, by kernel_rfl, by kernel_rfl, by kernel_rfl⟩⟩
noncomputable def fnpSame : FnD := ⟨Tryz.prog,[0,1,2,3,4],[],17,false⟩
def codepSame : DC := (.seq (.reg [⟨.x 2,.box (.x 0),none⟩,⟨.x 3,.box (.x 1),none⟩,⟨.x 4,.mv (.c (.bool false)),none⟩]) (.seq (.reg [⟨.t 5,.fad 0 (.x 2),none⟩,⟨.t 6,.ldn 2 (.t 5),none⟩,⟨.t 7,.fad 0 (.x 3),none⟩,⟨.t 8,.ldn 2 (.t 7),none⟩,⟨.t 9,.call 94 [.t 6,.t 8],none⟩,⟨.t 10,.mv (.t 9),none⟩,⟨.t 11,.fad 2 (.x 2),some (.t 10,true)⟩,⟨.t 12,.ld (.t 11),some (.t 10,true)⟩,⟨.t 13,.fad 2 (.x 3),some (.t 10,true)⟩,⟨.t 14,.ld (.t 13),some (.t 10,true)⟩,⟨.t 15,.call 95 [.t 12,.t 14],some (.t 10,true)⟩,⟨.t 16,.pick (.t 10) (.t 15) (.c (.bool false)),none⟩,⟨.x 4,.mv (.t 16),none⟩]) .ret))
def respSame : List RV := [.t 4]
theorem nbpSame : fnpSame.nb = 0 := rfl
theorem ispSame : IsFn fnpSame 53 codepSame respSame := ⟨⟨Tryz.f53, _, Tryz.func53, rfl, rfl, by kernel_rfl, by kernel_rfl, by kernel_rfl⟩⟩
noncomputable def fnsFromInt : FnD := ⟨Tryz.prog,[0,2,4],[],17,false⟩
def codesFromInt : DC := (.seq (.reg [⟨.x 2,.alloc [(.bool false),.nils],none⟩]) (.seq (.seq (.reg [⟨.t 3,.mv (.x 0),none⟩,⟨.x 4,.bin .lss (.t 3) (.c (.int .i64 0)),none⟩]) (.cond (.x 4) (.seq (.reg [⟨.t 5,.mv (.x 0),none⟩,⟨.t 6,.bin .add (.t 5) (.c (.int .i64 1)),none⟩,⟨.t 7,.un .neg (.t 6),none⟩,⟨.t 8,.conv .u64 (.t 7),none⟩,⟨.t 9,.call 107 [.t 8],none⟩,⟨.t 10,.bsl 1 [(.int .u32 0)] [(0,1,(.c (.int .u32 1)))],none⟩,⟨.t 11,.call 106 [.t 9,.t 10],none⟩,⟨.t 12,.call 105 [(.c (.bool true)),.t 11],none⟩,⟨.no,.stn 2 (.x 2) (.t 12),none⟩]) .ret) .skip)) (.seq (.reg [⟨.t 13,.mv (.x 0),none⟩,⟨.t 14,.conv .u64 (.t 13),none⟩,⟨.t 15,.call 107 [.t 14],none⟩,⟨.t 16,.call 105 [(.c (.bool false)),.t 15],none⟩,⟨.no,.stn 2 (.x 2) (.t 16),none⟩]) .ret)))
def ressFromInt : List RV := [.cn 2 2]
theorem nbsFromInt : fnsFromInt.nb = 0 := rfl
theorem issFromInt : IsFn fnsFromInt 59 codesFromInt ressFromInt := ⟨⟨Tryz.f59, _, Tryz.func59, rfl, rfl, by kernel_rfl, by kernel_rfl, by kernel_rfl⟩⟩
noncomputable def fnq_lowest : FnD := ⟨Tryz.prog,[0,1,2,4,5,6,31],[],38,false⟩
def codeq_lowest : DC := (.seq (.reg [⟨.x 2,.box (.x 0),none⟩,⟨.x 4,.alloc [(.bool false),.nils,.nils],none⟩]) (.seq (.reg [⟨.t 9,.fad 1 (.x 2),none⟩,⟨.t 10,.ld (.t 9),none⟩,⟨.t 11,.mv (.x 1),none⟩,⟨.t 12,.call 130 [.t 10,.t 11],none⟩,⟨.x 5,.mv (.t 12),none⟩]) (.seq (.reg [⟨.t 14,.fad 1 (.x 2),none⟩,⟨.t 15,.ld (.t 14),none⟩,⟨.t 16,.mv (.x 5),none⟩,⟨.t 17,.call 77 [.t 15,.t 16],none⟩,⟨.t 13,.mv (.t 17),none⟩,⟨.t 18,.ext (.t 13) 0,none⟩,⟨.t 19,.ext (.t 13) 1,none⟩,⟨.t 20,.ext (.t 13) 2,none⟩,⟨.x 6,.mv (.t 18),none⟩,⟨.t 7,.mv (.t 19),none⟩,⟨.t 8,.mv (.t 20),none⟩]) (.seq (.reg [⟨.t 22,.mv (.x 1),none⟩,⟨.t 23,.mv (.x 5),none⟩,⟨.t 24,.call 77 [.t 22,.t 23],none⟩,⟨.t 21,.mv (.t 24),none⟩,⟨.t 25,.ext (.t 21) 0,none⟩,⟨.t 26,.ext (.t 21) 1,none⟩,⟨.t 27,.ext (.t 21) 2,none⟩,⟨.x 1,.mv (.t 25),none⟩]) (.seq (.seq (.reg [⟨.t 28,.mv (.x 1),none⟩,⟨.t 29,.call 83 [],none⟩,⟨.t 30,.call 81 [.t 28,.t 29],none⟩,⟨.x 31,.bin .eql (.t 30) (.c (.int .i64 0)),none⟩]) (.cond (.x 31) (.reg [⟨.x 1,.mv (.c .nils),none⟩]) .skip)) (.seq (.reg [⟨.t 32,.fad 0 (.x 2),none⟩,⟨.t 33,.ld (.t 32),none⟩,⟨.t 34,.mv (.x 6),none⟩,⟨.t 35,.build [(.bool false),.nils] [(0,1,.t 33),(1,1,.t 34)],none⟩,⟨.t 36,.mv (.x 1),none⟩,⟨.t 37,.build [(.bool false),.nils,.nils] [(0,2,.t 35),(2,1,.t 36)],none⟩,⟨.no,.stn 3 (.x 4) (.t 37),none⟩]) .ret))))))
def resq_lowest : List RV := [.cn 3 4]
theorem nbq_lowest : fnq_lowest.nb = 0 := rfl
theorem isq_lowest : IsFn fnq_lowest 70 codeq_lowest resq_lowest := ⟨⟨Tryz.f70, _, Tryz.func70, rfl, rfl, by kernel_rfl, by kernel_rfl, by kernel_rfl⟩⟩
noncomputable def fnnMul : FnD := ⟨Tryz.prog,[0,1,4,5,6,7,8,9,10,21,22,23,24,28,29,30,31],[],71,false⟩
def codenMul : DC := (.seq (.reg [⟨.x 4,.mv (.c .nils),none⟩]) (.seq (.reg [⟨.t 11,.mv (.x 0),none⟩,⟨.t 12,.call 112 [.t 11],none⟩,⟨.t 13,.mv (.x 1),none⟩,⟨.t 14,.call 112 [.t 13],none⟩,⟨.x 0,.mv (.t 12),none⟩,⟨.x 1,.mv (.t 14),none⟩]) (.seq (.reg [⟨.t 15,.mv (.x 0),none⟩,⟨.t 16,.len 1 (.t 15),none⟩,⟨.t 17,.mv (.x 1),none⟩,⟨.t 18,.len 1 (.t 17),none⟩,⟨.t 19,.bin .add (.t 16) (.t 18),none⟩,⟨.t 20,.mks 1 4 [(.int .u32 0)] (.t 19) (.t 19),none⟩,⟨.x 5,.mv (.t 20),none⟩]) (.seq (.seq (.reg [⟨.x 21,.mv (.x 0),none⟩,⟨.x 22,.len 1 (.x 21),none⟩,⟨.x 23,.mv (.c (.int .i64 0)),none⟩]) (.block 0 (.loop (.seq (.reg [⟨.x 24,.bin .lss (.x 23) (.x 22),none⟩]) (.seq (.cond (.x 24) .skip (.exit 0)) (.seq (.block 1 (.seq (.reg [⟨.t 25,.mv (.x 23),none⟩,⟨.t 26,.iad 1 (.x 21) (.x 23),none⟩,⟨.t 27,.ld (.t 26),none⟩,⟨.x 6,.mv (.t 25),none⟩,⟨.x 7,.mv (.t 27),none⟩]) (.seq (.reg [⟨.x 8,.mv (.c (.int .u64 0)),none⟩]) (.seq (.seq (.reg [⟨.x 28,.mv (.x 1),none⟩,⟨.x 29,.len 1 (.x 28),none⟩,⟨.x 30,.mv (.c (.int .i64 0)),none⟩]) (.block 2 (.loop (.seq (.reg [⟨.x 31,.bin .lss (.x 30) (.x 29),none⟩]) (.seq (.cond (.x 31) .skip (.exit 2)) (.seq (.block 3 (.seq (.reg [⟨.t 32,.mv (.x 30),none⟩,⟨.t 33,.iad 1 (.x 28) (.x 30),none⟩,⟨.t 34,.ld (.t 33),none⟩,⟨.x 9,.mv (.t 32),none⟩,⟨.x 10,.mv (.t 34),none⟩]) (.seq (.reg [⟨.t 35,.mv (.x 8),none⟩,⟨.t 36,.mv (.x 7),none⟩,⟨.t 37,.conv .u64 (.t 36),none⟩,⟨.t 38,.mv (.x 10),none⟩,⟨.t 39,.conv .u64 (.t 38),none⟩,⟨.t 40,.bin .mul (.t 37) (.t 39),none⟩,⟨.t 41,.mv (.x 5),none⟩,⟨.t 42,.mv (.x 6),none⟩,⟨.t 43,.mv (.x 9),none⟩,⟨.t 44,.bin .add (.t 42) (.t 43),none⟩,⟨.t 45,.iad 1 (.t 41) (.t 44),none⟩,⟨.t 46,.ld (.t 45),none⟩,⟨.t 47,.conv .u64 (.t 46),none⟩,⟨.t 48,.bin .add (.t 40) (.t 47),none⟩,⟨.t 49,.bin .add (.t 35) (.t 48),none⟩,⟨.x 8,.mv (.t 49),none⟩]) (.seq (.reg [⟨.t 50,.mv (.x 5),none⟩,⟨.t 51,.mv (.x 6),none⟩,⟨.t 52,.mv (.x 9),none⟩,⟨.t 53,.bin .add (.t 51) (.t 52),none⟩,⟨.t 54,.mv (.x 8),none⟩,⟨.t 55,.conv .u32 (.t 54),none⟩,⟨.t 56,.iad 1 (.t 50) (.t 53),none⟩,⟨.no,.st (.t 56) (.t 55),none⟩]) (.reg [⟨.t 57,.mv (.x 8),none⟩,⟨.t 58,.bin .shr (.t 57) (.c (.int .u64 32)),none⟩,⟨.x 8,.mv (.t 58),none⟩]))))) (.reg [⟨.t 59,.bin .add (.x 30) (.c (.int .i64 1)),none⟩,⟨.x 30,.mv (.t 59),none⟩]))))))) (.reg [⟨.t 60,.mv (.x 5),none⟩,⟨.t 61,.mv (.x 6),none⟩,⟨.t 62,.mv (.x 1),none⟩,⟨.t 63,.len 1 (.t 62),none⟩,⟨.t 64,.bin .add (.t 61) (.t 63),none⟩,⟨.t 65,.mv (.x 8),none⟩,⟨.t 66,.conv .u32 (.t 65),none⟩,⟨.t 67,.iad 1 (.t 60) (.t 64),none⟩,⟨.no,.st (.t 67) (.t 66),none⟩]))))) (.reg [⟨.t 68,.bin .add (.x 23) (.c (.int .i64 1)),none⟩,⟨.x 23,.mv (.t 68),none⟩]))))))) (.seq (.reg [⟨.t 69,.mv (.x 5),none⟩,⟨.t 70,.call 139 [.t 69],none⟩,⟨.x 4,.mv (.t 70),none⟩]) .ret)))))
def resnMul : List RV := [.t 4]
theorem nbnMul : fnnMul.nb = 0 := rfl
theorem isnMul : IsFn fnnMul 78 codenMul resnMul := ⟨⟨Tryz.f78, _, Tryz.func78, rfl, rfl, by kernel_rfl, by kernel_rfl, by kernel_rfl⟩⟩
noncomputable def fnnAdd : FnD := ⟨Tryz.prog,[0,1,4,5,6,7,8,9,18,25,26,27,28,35],[],58,false⟩
def codenAdd : DC := (.seq (.reg [⟨.x 4,.mv (.c .nils),none⟩]) (.seq (.reg [⟨.t 10,.mv (.x 0),none⟩,⟨.t 11,.call 112 [.t 10],none⟩,⟨.t 12,.mv (.x 1),none⟩,⟨.t 13,.call 112 [.t 12],none⟩,⟨.x 0,.mv (.t 11),none⟩,⟨.x 1,.mv (.t 13),none⟩]) (.seq (.seq (.reg [⟨.t 14,.mv (.x 0),none⟩,⟨.t 15,.len 1 (.t 14),none⟩,⟨.t 16,.mv (.x 1),none⟩,⟨.t 17,.len 1 (.t 16),none⟩,⟨.x 18,.bin .lss (.t 15) (.t 17),none⟩]) (.cond (.x 18) (.reg [⟨.t 19,.mv (.x 1),none⟩,⟨.t 20,.mv (.x 0),none⟩,⟨.x 0,.mv (.t 19),none⟩,⟨.x 1,.mv (.t 20),none⟩]) .skip)) (.seq (.reg [⟨.t 21,.mv (.x 0),none⟩,⟨.t 22,.len 1 (.t 21),none⟩,⟨.t 23,.bin .add (.t 22) (.c (.int .i64 1)),none⟩,⟨.t 24,.mks 1 4 [(.int .u32 0)] (.t 23) (.t 23),none⟩,⟨.x 5,.mv (.t 24),none⟩]) (.seq (.reg [⟨.x 6,.mv (.c (.int .u32 0)),none⟩]) (.seq (.seq (.reg [⟨.x 25,.mv (.x 0),none⟩,⟨.x 26,.len 1 (.x 25),none⟩,⟨.x 27,.mv (.c (.int .i64 0)),none⟩]) (.block 0 (.loop (.seq (.reg [⟨.x 28,.bin .lss (.x 27) (.x 26),none⟩]) (.seq (.cond (.x 28) .skip (.exit 0)) (.seq (.block 1 (.seq (.reg [⟨.t 29,.mv (.x 27),none⟩,⟨.t 30,.iad 1 (.x 25) (.x 27),none⟩,⟨.t 31,.ld (.t 30),none⟩,⟨.x 7,.mv (.t 29),none⟩,⟨.x 8,.mv (.t 31),none⟩]) (.seq (.reg [⟨.x 9,.mv (.c (.int .u32 0)),none⟩]) (.seq (.seq (.reg [⟨.t 32,.mv (.x 7),none⟩,⟨.t 33,.mv (.x 1),none⟩,⟨.t 34,.len 1 (.t 33),none⟩,⟨.x 35,.bin .lss (.t 32) (.t 34),none⟩]) (.cond (.x 35) (.reg [⟨.t 36,.mv (.x 1),none⟩,⟨.t 37,.mv (.x 7),none⟩,⟨.t 38,.iad 1 (.t 36) (.t 37),none⟩,⟨.t 39,.ld (.t 38),none⟩,⟨.x 9,.mv (.t 39),none⟩]) .skip)) (.reg [⟨.t 41,.mv (.x 5),none⟩,⟨.t 42,.mv (.x 7),none⟩,⟨.t 43,.mv (.x 8),none⟩,⟨.t 44,.mv (.x 9),none⟩,⟨.t 45,.mv (.x 6),none⟩,⟨.t 46,.call 141 [.t 43,.t 44,.t 45],none⟩,⟨.t 40,.mv (.t 46),none⟩,⟨.t 47,.ext (.t 40) 0,none⟩,⟨.t 48,.ext (.t 40) 1,none⟩,⟨.t 49,.iad 1 (.t 41) (.t 42),none⟩,⟨.no,.st (.t 49) (.t 47),none⟩,⟨.x 6,.mv (.t 48),none⟩]))))) (.reg [⟨.t 50,.bin .add (.x 27) (.c (.int .i64 1)),none⟩,⟨.x 27,.mv (.t 50),none⟩]))))))) (.seq (.reg [⟨.t 51,.mv (.x 5),none⟩,⟨.t 52,.mv (.x 0),none⟩,⟨.t 53,.len 1 (.t 52),none⟩,⟨.t 54,.mv (.x 6),none⟩,⟨.t 55,.iad 1 (.t 51) (.t 53),none⟩,⟨.no,.st (.t 55) (.t 54),none⟩]) (.seq (.reg [⟨.t 56,.mv (.x 5),none⟩,⟨.t 57,.call 139 [.t 56],none⟩,⟨.x 4,.mv (.t 57),none⟩]) .ret))))))))
def resnAdd : List RV := [.t 4]
theorem nbnAdd : fnnAdd.nb = 0 := rfl
theorem isnAdd : IsFn fnnAdd 82 codenAdd resnAdd := ⟨⟨Tryz.f82, _, Tryz.func82, rfl, rfl, by kernel_rfl, by kernel_rfl, by kernel_rfl⟩⟩
noncomputable def fnsSame : FnD := ⟨Tryz.prog,[0,1,2,3,4],[],17,false⟩
def codesSame : DC := (.seq (.reg [⟨.x 2,.box (.x 0),none⟩,⟨.x 3,.box (.x 1),none⟩,⟨.x 4,.mv (.c (.bool false)),none⟩]) (.seq (.reg [⟨.t 5,.fad 0 (.x 2),none⟩,⟨.t 6,.ld (.t 5),none⟩,⟨.t 7,.fad 0 (.x 3),none⟩,⟨.t 8,.ld (.t 7),none⟩,⟨.t 9,.beq false (.t 6) (.t 8),none⟩,⟨.t 10,.mv (.t 9),none⟩,⟨.t 11,.fad 1 (.x 2),some (.t 10,true)⟩,⟨.t 12,.ld (.t 11),some (.t 10,true)⟩,⟨.t 13,.fad 1 (.x 3),some (.t 10,true)⟩,⟨.t 14,.ld (.t 13),some (.t 10,true)⟩,⟨.t 15,.call 95 [.t 12,.t 14],some (.t 10,true)⟩,⟨.t 16,.pick (.t 10) (.t 15) (.c (.bool false)),none⟩,⟨.x 4,.mv (.t 16),none⟩]) .ret))
def ressSame : List RV := [.t 4]
theorem nbsSame : fnsSame.nb = 0 := rfl
theorem issSame : IsFn fnsSame 94 codesSame ressSame := ⟨⟨Tryz.f94, _, Tryz.func94, rfl, rfl, by kernel_rfl, by kernel_rfl, by kernel_rfl⟩⟩
noncomputable def fnsNeg : FnD := ⟨Tryz.prog,[0,1,2],[],11,false⟩
def codesNeg : DC := (.seq (.reg [⟨.x 1,.box (.x 0),none⟩,⟨.x 2,.alloc [(.bool false),.nils],none⟩]) (.seq (.reg [⟨.t 3,.ldn 2 (.x 1),none⟩,⟨.t 4,.call 118 [.t 3],none⟩,⟨.no,.stn 2 (.x 1) (.t 4),none⟩]) (.seq (.reg [⟨.t 5,.fad 0 (.x 1),none⟩,⟨.t 6,.ld (.t 5),none⟩,⟨.t 7,.un .not (.t 6),none⟩,⟨.t 8,.fad 1 (.x 1),none⟩,⟨.t 9,.ld (.t 8),none⟩,⟨.t 10,.call 105 [.t 7,.t 9],none⟩,⟨.no,.stn 2 (.x 2) (.t 10),none⟩]) .ret)))
def ressNeg : List RV := [.cn 2 2]
theorem nbsNeg : fnsNeg.nb = 0 := rfl
theorem issNeg : IsFn fnsNeg 101 codesNeg ressNeg := ⟨⟨Tryz.f101, _, Tryz.func101, rfl, rfl, by kernel_rfl, by kernel_rfl, by kernel_rfl⟩⟩
noncomputable def fns_signed : FnD := ⟨Tryz.prog,[0,1,4],[],13,false⟩
def codes_signed : DC := (.seq (.reg [⟨.x 4,.alloc [(.bool false),.nils],none⟩]) (.seq (.reg [⟨.t 5,.mv (.x 0),none⟩,⟨.t 6,.mv (.t 5),none⟩,⟨.t 7,.mv (.x 1),some (.t 6,true)⟩,⟨.t 8,.len 1 (.t 7),some (.t 6,true)⟩,⟨.t 9,.bin .gtr (.t 8) (.c (.int .i64 0)),some (.t 6,true)⟩,⟨.t 10,.pick (.t 6) (.t 9) (.c (.bool false)),none⟩,⟨.t 11,.mv (.x 1),none⟩,⟨.t 12,.build [(.bool false),.nils] [(0,1,.t 10),(1,1,.t 11)],none⟩,⟨.no,.stn 2 (.x 4) (.t 12),none⟩]) .ret))
def ress_signed : List RV := [.cn 2 4]
theorem nbs_signed : fns_signed.nb = 0 := rfl
theorem iss_signed : IsFn fns_signed 105 codes_signed ress_signed := ⟨⟨Tryz.f105, _, Tryz.func105, rfl, rfl, by kernel_rfl, by kernel_rfl, by kernel_rfl⟩⟩
noncomputable def fni_value : FnD := ⟨Tryz.prog,[0,1,2,4],[],7,false⟩
def codei_value : DC := (.seq (.reg [⟨.x 1,.box (.x 0),none⟩,⟨.x 2,.alloc [(.bool false),.nils],none⟩]) (.seq (.seq (.reg [⟨.t 3,.ldn 2 (.x 1),none⟩,⟨.x 4,.call 154 [.t 3],none⟩]) (.cond (.x 4) (.seq (.reg [⟨.t 5,.ldn 2 (.x 1),none⟩,⟨.no,.stn 2 (.x 2) (.t 5),none⟩]) .ret) .skip)) (.seq (.reg [⟨.t 6,.build [(.bool false),.nils] [],none⟩,⟨.no,.stn 2 (.x 2) (.t 6),none⟩]) .ret)))
def resi_value : List RV := [.cn 2 2]
theorem nbi_value : fni_value.nb = 0 := rfl
theorem isi_value : IsFn fni_value 110 codei_value resi_value := ⟨⟨Tryz.f110, _, Tryz.func110, rfl, rfl, by kernel_rfl, by kernel_rfl, by kernel_rfl⟩⟩
noncomputable def fnsTake : FnD := ⟨Tryz.prog,[0,1,2,5],[],13,false⟩
def codesTake : DC := (.seq (.reg [⟨.x 1,.box (.x 0),none⟩,⟨.x 2,.alloc [(.bool false),.nils],none⟩]) (.seq (.seq (.reg [⟨.t 3,.ldn 2 (.x 1),none⟩,⟨.t 4,.call 158 [.t 3],none⟩,⟨.x 5,.un .not (.t 4),none⟩]) (.cond (.x 5) (.seq (.reg [⟨.t 6,.build [(.bool false),.nils] [],none⟩,⟨.no,.stn 2 (.x 2) (.t 6),none⟩]) .ret) .skip)) (.seq (.regd [⟨.t 7,.fad 0 (.x 1),none⟩,⟨.t 8,.ld (.t 7),none⟩,⟨.t 9,.fad 1 (.x 1),none⟩,⟨.t 10,.ld (.t 9),none⟩,⟨.t 11,.call 119 [.t 10],none⟩,⟨.t 12,.build [(.bool false),.nils] [(0,1,.t 8),(1,1,.t 11)],none⟩,⟨.no,.stn 2 (.x 2) (.t 12),none⟩]) .ret)))
def ressTake : List RV := [.cn 2 2]
theorem nbsTake : fnsTake.nb = 0 := rfl
theorem issTake : IsFn fnsTake 118 codesTake ressTake := ⟨⟨Tryz.f118, _, Tryz.func118, rfl, rfl, by kernel_rfl, by kernel_rfl, by kernel_rfl⟩⟩
noncomputable def fnq_digits : FnD := ⟨Tryz.prog,[0,2,4,6,7,8,9,17],[],21,false⟩
def codeq_digits : DC := (.seq (.reg [⟨.x 2,.mv (.c (.bool false)),none⟩]) (.seq (.seq (.reg [⟨.t 5,.mv (.x 0),none⟩,⟨.x 6,.s2b (.t 5),none⟩,⟨.x 7,.len 1 (.x 6),none⟩,⟨.x 8,.mv (.c (.int .i64 0)),none⟩]) (.block 0 (.loop (.seq (.reg [⟨.x 9,.bin .lss (.x 8) (.x 7),none⟩]) (.seq (.cond (.x 9) .skip (.exit 0)) (.seq (.block 1 (.seq (.reg [⟨.t 10,.iad 1 (.x 6) (.x 8),none⟩,⟨.t 11,.ld (.t 10),none⟩,⟨.x 4,.mv (.t 11),none⟩]) (.seq (.reg [⟨.t 12,.mv (.x 4),none⟩,⟨.t 13,.bin .lss (.t 12) (.c (.int .u8 48)),none⟩,⟨.t 14,.mv (.t 13),none⟩,⟨.t 15,.mv (.x 4),some (.t 14,false)⟩,⟨.t 16,.bin .gtr (.t 15) (.c (.int .u8 57)),some (.t 14,false)⟩,⟨.x 17,.pick (.t 14) (.c (.bool true)) (.t 16),none⟩]) (.cond (.x 17) (.seq (.reg [⟨.x 2,.mv (.c (.bool false)),none⟩]) .ret) .skip)))) (.reg [⟨.t 18,.bin .add (.x 8) (.c (.int .i64 1)),none⟩,⟨.x 8,.mv (.t 18),none⟩]))))))) (.seq (.reg [⟨.t 19,.mv (.x 0),none⟩,⟨.t 20,.bin .neq (.t 19) (.c (.str [])),none⟩,⟨.x 2,.mv (.t 20),none⟩]) .ret)))
def resq_digits : List RV := [.t 2]
theorem isq_digits : IsFn fnq_digits 128 codeq_digits resq_digits := ⟨⟨Tryz.f128, _, Tryz.func128, rfl, rfl, by kernel_rfl, by kernel_rfl, by kernel_rfl⟩⟩
noncomputable def fnnPower : FnD := ⟨Tryz.prog,[0,1,4,5,11,13,14,15],[],21,false⟩
def codenPower : DC := (.seq (.reg [⟨.x 4,.mv (.c .nils),none⟩]) (.seq (.seq (.reg [⟨.t 6,.mv (.x 1),none⟩,⟨.t 7,.bin .lss (.t 6) (.c (.int .i64 0)),none⟩,⟨.t 8,.mv (.t 7),none⟩,⟨.t 9,.mv (.x 1),some (.t 8,false)⟩,⟨.t 10,.bin .gtr (.t 9) (.c (.int .i64 64)),some (.t 8,false)⟩,⟨.x 11,.pick (.t 8) (.c (.bool true)) (.t 10),none⟩]) (.cond (.x 11) (.seq (.reg [⟨.x 4,.mv (.c .nils),none⟩]) .ret) .skip)) (.seq (.reg [⟨.t 12,.bsl 1 [(.int .u32 0)] [(0,1,(.c (.int .u32 1)))],none⟩,⟨.x 5,.mv (.t 12),none⟩]) (.seq (.seq (.reg [⟨.x 13,.mv (.x 1),none⟩,⟨.x 14,.mv (.c (.int .i64 0)),none⟩]) (.block 0 (.loop (.seq (.reg [⟨.x 15,.bin .lss (.x 14) (.x 13),none⟩]) (.seq (.cond (.x 15) .skip (.exit 0)) (.seq (.block 1 (.reg [⟨.t 16,.mv (.x 5),none⟩,⟨.t 17,.mv (.x 0),none⟩,⟨.t 18,.call 78 [.t 16,.t 17],none⟩,⟨.x 5,.mv (.t 18),none⟩])) (.reg [⟨.t 19,.bin .add (.x 14) (.c (.int .i64 1)),none⟩,⟨.x 14,.mv (.t 19),none⟩]))))))) (.seq (.reg [⟨.t 20,.mv (.x 5),none⟩,⟨.x 4,.mv (.t 20),none⟩]) .ret)))))
def resnPower : List RV := [.t 4]
theorem isnPower : IsFn fnnPower 140 codenPower resnPower := ⟨⟨Tryz.f140, _, Tryz.func140, rfl, rfl, by kernel_rfl, by kernel_rfl, by kernel_rfl⟩⟩
noncomputable def fniValid : FnD := ⟨Tryz.prog,[0,1,2],[],17,false⟩
def codeiValid : DC := (.seq (.reg [⟨.x 1,.box (.x 0),none⟩,⟨.x 2,.mv (.c (.bool false)),none⟩]) (.seq (.reg [⟨.t 3,.fad 1 (.x 1),none⟩,⟨.t 4,.ld (.t 3),none⟩,⟨.t 5,.call 155 [.t 4],none⟩,⟨.t 6,.mv (.t 5),none⟩,⟨.t 7,.fad 1 (.x 1),some (.t 6,true)⟩,⟨.t 8,.ld (.t 7),some (.t 6,true)⟩,⟨.t 9,.len 1 (.t 8),some (.t 6,true)⟩,⟨.t 10,.bin .gtr (.t 9) (.c (.int .i64 0)),some (.t 6,true)⟩,⟨.t 11,.mv (.t 10),some (.t 6,true)⟩,⟨.t 12,.fad 0 (.x 1),some (.t 11,false)⟩,⟨.t 13,.ld (.t 12),some (.t 11,false)⟩,⟨.t 14,.un .not (.t 13),some (.t 11,false)⟩,⟨.t 15,.pick (.t 11) (.c (.bool true)) (.t 14),some (.t 6,true)⟩,⟨.t 16,.pick (.t 6) (.t 15) (.c (.bool false)),none⟩,⟨.x 2,.mv (.t 16),none⟩]) .ret))
def resiValid : List RV := [.t 2]
theorem nbiValid : fniValid.nb = 0 := rfl
theorem isiValid : IsFn fniValid 154 codeiValid resiValid := ⟨⟨Tryz.f154, _, Tryz.func154, rfl, rfl, by kernel_rfl, by kernel_rfl, by kernel_rfl⟩⟩
noncomputable def fnrValid : FnD := ⟨Tryz.prog,[0,2],[],15,false⟩
def coderValid : DC := (.seq (.reg [⟨.x 2,.mv (.c (.bool false)),none⟩]) (.seq (.reg [⟨.t 3,.mv (.x 0),none⟩,⟨.t 4,.len 1 (.t 3),none⟩,⟨.t 5,.bin .eql (.t 4) (.c (.int .i64 0)),none⟩,⟨.t 6,.mv (.t 5),none⟩,⟨.t 7,.mv (.x 0),some (.t 6,false)⟩,⟨.t 8,.mv (.x 0),some (.t 6,false)⟩,⟨.t 9,.len 1 (.t 8),some (.t 6,false)⟩,⟨.t 10,.bin .sub (.t 9) (.c (.int .i64 1)),some (.t 6,false)⟩,⟨.t 11,.iad 1 (.t 7) (.t 10),some (.t 6,false)⟩,⟨.t 12,.ld (.t 11),some (.t 6,false)⟩,⟨.t 13,.bin .neq (.t 12) (.c (.int .u32 0)),some (.t 6,false)⟩,⟨.t 14,.pick (.t 6) (.c (.bool true)) (.t 13),none⟩,⟨.x 2,.mv (.t 14),none⟩]) .ret))
def resrValid : List RV := [.t 2]
theorem isrValid : IsFn fnrValid 159 coderValid resrValid := ⟨⟨Tryz.f159, _, Tryz.func159, rfl, rfl, by kernel_rfl, by kernel_rfl, by kernel_rfl⟩⟩
noncomputable def fnnUint : FnD := ⟨Tryz.prog,[0,2,3,4,5,10,11,12,13,14],[],27,false⟩
def codenUint : DC := (.seq (.reg [⟨.x 2,.mv (.c (.int .u64 0)),none⟩,⟨.x 3,.mv (.c (.bool false)),none⟩]) (.seq (.reg [⟨.t 6,.mv (.x 0),none⟩,⟨.t 7,.call 112 [.t 6],none⟩,⟨.x 0,.mv (.t 7),none⟩]) (.seq (.seq (.reg [⟨.t 8,.mv (.x 0),none⟩,⟨.t 9,.len 1 (.t 8),none⟩,⟨.x 10,.bin .gtr (.t 9) (.c (.int .i64 2)),none⟩]) (.cond (.x 10) (.seq (.reg [⟨.x 2,.mv (.c (.int .u64 0)),none⟩,⟨.x 3,.mv (.c (.bool false)),none⟩]) .ret) .skip)) (.seq (.seq (.reg [⟨.x 11,.mv (.x 0),none⟩,⟨.x 12,.len 1 (.x 11),none⟩,⟨.x 13,.mv (.c (.int .i64 0)),none⟩]) (.block 0 (.loop (.seq (.reg [⟨.x 14,.bin .lss (.x 13) (.x 12),none⟩]) (.seq (.cond (.x 14) .skip (.exit 0)) (.seq (.block 1 (.seq (.reg [⟨.t 15,.mv (.x 13),none⟩,⟨.t 16,.iad 1 (.x 11) (.x 13),none⟩,⟨.t 17,.ld (.t 16),none⟩,⟨.x 4,.mv (.t 15),none⟩,⟨.x 5,.mv (.t 17),none⟩]) (.reg [⟨.t 18,.mv (.x 2),none⟩,⟨.t 19,.mv (.x 5),none⟩,⟨.t 20,.conv .u64 (.t 19),none⟩,⟨.t 21,.mv (.x 4),none⟩,⟨.t 22,.bin .mul (.c (.int .i64 32)) (.t 21),none⟩,⟨.t 23,.bin .shl (.t 20) (.t 22),none⟩,⟨.t 24,.bin .or (.t 18) (.t 23),none⟩,⟨.x 2,.mv (.t 24),none⟩]))) (.reg [⟨.t 25,.bin .add (.x 13) (.c (.int .i64 1)),none⟩,⟨.x 13,.mv (.t 25),none⟩]))))))) (.seq (.reg [⟨.t 26,.mv (.x 2),none⟩,⟨.x 2,.mv (.t 26),none⟩,⟨.x 3,.mv (.c (.bool true)),none⟩]) .ret)))))
def resnUint : List RV := [.t 2, .t 3]
theorem isnUint : IsFn fnnUint 167 codenUint resnUint := ⟨⟨Tryz.f167, _, Tryz.func167, rfl, rfl, by kernel_rfl, by kernel_rfl, by kernel_rfl⟩⟩
noncomputable def fnnGuess : FnD := ⟨Tryz.prog,[0,1,2,3,4,10,11,12,13,45],[],53,false⟩
def codenGuess : DC := (.seq (.reg [⟨.x 10,.mv (.c (.int .u64 0)),none⟩]) (.seq (.reg [⟨.t 14,.mv (.x 0),none⟩,⟨.t 15,.conv .u64 (.t 14),none⟩,⟨.t 16,.bin .shl (.t 15) (.c (.int .u64 32)),none⟩,⟨.t 17,.mv (.x 1),none⟩,⟨.t 18,.conv .u64 (.t 17),none⟩,⟨.t 19,.bin .or (.t 16) (.t 18),none⟩,⟨.x 11,.mv (.t 19),none⟩]) (.seq (.regd [⟨.t 20,.mv (.x 11),none⟩,⟨.t 21,.mv (.x 3),none⟩,⟨.t 22,.conv .u64 (.t 21),none⟩,⟨.t 23,.bin .quo (.t 20) (.t 22),none⟩,⟨.t 24,.mv (.x 11),none⟩,⟨.t 25,.mv (.x 3),none⟩,⟨.t 26,.conv .u64 (.t 25),none⟩,⟨.t 27,.bin .rem (.t 24) (.t 26),none⟩,⟨.x 12,.mv (.t 23),none⟩,⟨.x 13,.mv (.t 27),none⟩]) (.seq (.block 0 (.loop (.seq (.seq (.reg [⟨.t 28,.mv (.x 13),none⟩,⟨.t 29,.bin .lss (.t 28) (.c (.int .u64 4294967296)),none⟩,⟨.t 30,.mv (.t 29),none⟩,⟨.t 31,.mv (.x 12),some (.t 30,true)⟩,⟨.t 32,.bin .geq (.t 31) (.c (.int .u64 4294967296)),some (.t 30,true)⟩,⟨.t 33,.mv (.t 32),some (.t 30,true)⟩,⟨.t 34,.mv (.x 12),some (.t 33,false)⟩,⟨.t 35,.mv (.x 4),some (.t 33,false)⟩,⟨.t 36,.conv .u64 (.t 35),some (.t 33,false)⟩,⟨.t 37,.bin .mul (.t 34) (.t 36),some (.t 33,false)⟩,⟨.t 38,.mv (.x 13),some (.t 33,false)⟩,⟨.t 39,.bin .shl (.t 38) (.c (.int .u64 32)),some (.t 33,false)⟩,⟨.t 40,.mv (.x 2),some (.t 33,false)⟩,⟨.t 41,.conv .u64 (.t 40),some (.t 33,false)⟩,⟨.t 42,.bin .or (.t 39) (.t 41),some (.t 33,false)⟩,⟨.t 43,.bin .gtr (.t 37) (.t 42),some (.t 33,false)⟩,⟨.t 44,.pick (.t 33) (.c (.bool true)) (.t 43),some (.t 30,true)⟩,⟨.x 45,.pick (.t 30) (.t 44) (.c (.bool false)),none⟩]) (.cond (.x 45) .skip (.exit 0))) (.block 1 (.seq (.reg [⟨.t 46,.mv (.x 12),none⟩,⟨.t 47,.bin .sub (.t 46) (.c (.int .u64 1)),none⟩,⟨.x 12,.mv (.t 47),none⟩]) (.reg [⟨.t 48,.mv (.x 13),none⟩,⟨.t 49,.mv (.x 3),none⟩,⟨.t 50,.conv .u64 (.t 49),none⟩,⟨.t 51,.bin .add (.t 48) (.t 50),none⟩,⟨.x 13,.mv (.t 51),none⟩])))))) (.seq (.reg [⟨.t 52,.mv (.x 12),none⟩,⟨.x 10,.mv (.t 52),none⟩]) .ret)))))
def resnGuess : List RV := [.t 10]
theorem isnGuess : IsFn fnnGuess 172 codenGuess resnGuess := ⟨⟨Tryz.f172, _, Tryz.func172, rfl, rfl, by kernel_rfl, by kernel_rfl, by kernel_rfl⟩⟩
noncomputable def fnLen32 : FnD := ⟨Tryz.prog,[0,2,4,8],[],19,false⟩
def codeLen32 : DC := (.seq (.reg [⟨.x 2,.mv (.c (.int .i64 0)),none⟩]) (.seq (.seq (.reg [⟨.t 3,.mv (.x 0),none⟩,⟨.x 4,.bin .geq (.t 3) (.c (.int .u32 65536)),none⟩]) (.cond (.x 4) (.seq (.reg [⟨.t 5,.mv (.x 0),none⟩,⟨.t 6,.bin .shr (.t 5) (.c (.int .u64 16)),none⟩,⟨.x 0,.mv (.t 6),none⟩]) (.reg [⟨.x 2,.mv (.c (.int .i64 16)),none⟩])) .skip)) (.seq (.seq (.reg [⟨.t 7,.mv (.x 0),none⟩,⟨.x 8,.bin .geq (.t 7) (.c (.int .u32 256)),none⟩]) (.cond (.x 8) (.seq (.reg [⟨.t 9,.mv (.x 0),none⟩,⟨.t 10,.bin .shr (.t 9) (.c (.int .u64 8)),none⟩,⟨.x 0,.mv (.t 10),none⟩]) (.reg [⟨.t 11,.mv (.x 2),none⟩,⟨.t 12,.bin .add (.t 11) (.c (.int .i64 8)),none⟩,⟨.x 2,.mv (.t 12),none⟩])) .skip)) (.seq (.reg [⟨.t 13,.mv (.x 2),none⟩,⟨.t 14,.mv (.x 0),none⟩,⟨.t 15,.conv .u8 (.t 14),none⟩,⟨.t 16,.idx (.c (.str [0,1,2,2,3,3,3,3,4,4,4,4,4,4,4,4,5,5,5,5,5,5,5,5,5,5,5,5,5,5,5,5,6,6,6,6,6,6,6,6,6,6,6,6,6,6,6,6,6,6,6,6,6,6,6,6,6,6,6,6,6,6,6,6,7,7,7,7,7,7,7,7,7,7,7,7,7,7,7,7,7,7,7,7,7,7,7,7,7,7,7,7,7,7,7,7,7,7,7,7,7,7,7,7,7,7,7,7,7,7,7,7,7,7,7,7,7,7,7,7,7,7,7,7,7,7,7,7,8,8,8,8,8,8,8,8,8,8,8,8,8,8,8,8,8,8,8,8,8,8,8,8,8,8,8,8,8,8,8,8,8,8,8,8,8,8,8,8,8,8,8,8,8,8,8,8,8,8,8,8,8,8,8,8,8,8,8,8,8,8,8,8,8,8,8,8,8,8,8,8,8,8,8,8,8,8,8,8,8,8,8,8,8,8,8,8,8,8,8,8,8,8,8,8,8,8,8,8,8,8,8,8,8,8,8,8,8,8,8,8,8,8,8,8,8,8,8,8,8,8,8,8,8,8,8,8])) (.t 15),none⟩,⟨.t 17,.conv .i64 (.t 16),none⟩,⟨.t 18,.bin .add (.t 13) (.t 17),none⟩,⟨.x 2,.mv (.t 18),none⟩]) .ret))))
def resLen32 : List RV := [.t 2]
theorem isLen32 : IsFn fnLen32 189 codeLen32 resLen32 := ⟨⟨Tryz.f189, _, Tryz.func189, rfl, rfl, by kernel_rfl, by kernel_rfl, by kernel_rfl⟩⟩
end Go.Proofs.YtjfedgpbedppeaaGreatDoor
namespace Go.Proofs.YtjfedgpbedppeaaGreatDoor
open Go Go.Dat Go.Proofs
noncomputable def fnlrBack : FnD := ⟨Tryz.prog,[0,2,3,4,5,6,7,8,9,10,11,12,13,14,15,16,17,18,44,46,47,48],[],120,false⟩
def codelrBack : DC := (.seq (.reg [⟨.x 2,.mv (.c (.bool false)),none⟩]) (.seq (.reg [⟨.t 19,.mv (.x 0),none⟩,⟨.t 20,.call 8 [.t 19],none⟩,⟨.x 3,.mv (.t 20),none⟩]) (.seq (.reg [⟨.t 21,.mv (.x 3),none⟩,⟨.t 22,.call 28 [.t 21,(.c (.bool false))],none⟩,⟨.x 4,.mv (.t 22),none⟩]) (.seq (.reg [⟨.t 24,.mv (.x 4),none⟩,⟨.t 25,.call 29 [.t 24],none⟩,⟨.t 23,.mv (.t 25),none⟩,⟨.t 26,.ext (.t 23) 0,none⟩,⟨.t 27,.ext (.t 23) 1,none⟩,⟨.x 5,.mv (.t 26),none⟩,⟨.x 6,.mv (.t 27),none⟩]) (.seq (.reg [⟨.t 29,.mv (.x 5),none⟩,⟨.t 30,.call 30 [.t 29],none⟩,⟨.t 28,.mv (.t 30),none⟩,⟨.t 31,.ext (.t 28) 0,none⟩,⟨.t 32,.ext (.t 28) 1,none⟩,⟨.x 7,.mv (.t 31),none⟩,⟨.x 8,.mv (.t 32),none⟩]) (.seq (.seq (.reg [⟨.t 33,.mv (.x 6),none⟩,⟨.t 34,.bin .neq (.t 33) (.c (.int .i64 0)),none⟩,⟨.t 35,.mv (.t 34),none⟩,⟨.t 36,.mv (.x 8),some (.t 35,false)⟩,⟨.t 37,.bin .neq (.t 36) (.c (.int .i64 0)),some (.t 35,false)⟩,⟨.t 38,.pick (.t 35) (.c (.bool true)) (.t 37),none⟩,⟨.t 39,.mv (.t 38),none⟩,⟨.t 40,.mv (.x 7),some (.t 39,false)⟩,⟨.t 41,.mv (.x 4),some (.t 39,false)⟩,⟨.t 42,.call 31 [.t 40,.t 41],some (.t 39,false)⟩,⟨.t 43,.un .not (.t 42),some (.t 39,false)⟩,⟨.x 44,.pick (.t 39) (.c (.bool true)) (.t 43),none⟩]) (.cond (.x 44) (.seq (.reg [⟨.x 2,.mv (.c (.bool false)),none⟩]) .ret) .skip)) (.seq (.reg [⟨.x 9,.mv (.c .nils),none⟩]) (.seq (.seq (.reg [⟨.t 45,.mv (.x 4),none⟩,⟨.x 46,.len 1 (.t 45),none⟩,⟨.x 47,.mv (.c (.int .i64 0)),none⟩]) (.block 0 (.loop (.seq (.reg [⟨.x 48,.bin .lss (.x 47) (.x 46),none⟩]) (.seq (.cond (.x 48) .skip (.exit 0)) (.seq (.block 1 (.reg [⟨.t 49,.mv (.x 9),none⟩,⟨.t 50,.mv (.x 3),none⟩,⟨.t 51,.call 20 [.t 50],none⟩,⟨.t 52,.bsl 1 [(.str [])] [(0,1,.t 51)],none⟩,⟨.t 53,.app 9 1 16 (.t 49) (.t 52),none⟩,⟨.x 9,.mv (.t 53),none⟩])) (.reg [⟨.t 54,.bin .add (.x 47) (.c (.int .i64 1)),none⟩,⟨.x 47,.mv (.t 54),none⟩]))))))) (.seq (.reg [⟨.t 55,.mv (.x 3),none⟩,⟨.t 56,.mv (.x 9),none⟩,⟨.t 57,.len 1 (.t 56),none⟩,⟨.t 58,.call 32 [.t 55,.t 57],none⟩,⟨.x 10,.mv (.t 58),none⟩]) (.seq (.reg [⟨.t 60,.mv (.x 9),none⟩,⟨.t 61,.mv (.x 10),none⟩,⟨.t 62,.mv (.x 3),none⟩,⟨.t 63,.call 14 [.t 62,(.c (.int .i64 5))],none⟩,⟨.t 64,.call 22 [.t 60,.t 61,.t 63],none⟩,⟨.t 59,.mv (.t 64),none⟩,⟨.t 65,.ext (.t 59) 0,none⟩,⟨.t 66,.ext (.t 59) 1,none⟩,⟨.x 11,.mv (.t 65),none⟩,⟨.x 12,.mv (.t 66),none⟩]) (.seq (.reg [⟨.t 68,.mv (.x 11),none⟩,⟨.t 69,.call 24 [.t 68],none⟩,⟨.t 67,.mv (.t 69),none⟩,⟨.t 70,.ext (.t 67) 0,none⟩,⟨.t 71,.ext (.t 67) 1,none⟩,⟨.t 72,.ext (.t 67) 2,none⟩,⟨.x 13,.mv (.t 70),none⟩,⟨.x 14,.mv (.t 71),none⟩,⟨.x 15,.mv (.t 72),none⟩]) (.seq (.reg [⟨.t 73,.mv (.x 3),none⟩,⟨.t 74,.call 10 [.t 73],none⟩,⟨.t 75,.mv (.x 3),none⟩,⟨.t 76,.call 10 [.t 75],none⟩,⟨.t 77,.mv (.x 3),none⟩,⟨.t 78,.call 10 [.t 77],none⟩,⟨.t 79,.mv (.x 3),none⟩,⟨.t 80,.call 10 [.t 79],none⟩,⟨.t 81,.mv (.x 3),none⟩,⟨.t 82,.call 10 [.t 81],none⟩,⟨.t 83,.mv (.x 3),none⟩,⟨.t 84,.call 10 [.t 83],none⟩,⟨.t 85,.build [(.bool false),.nils,.nils,(.bool false),.nils,.nils,(.bool false),.nils,.nils,(.bool false),.nils,.nils,(.bool false),.nils,.nils,(.bool false),.nils,.nils] [(0,3,.t 74),(3,3,.t 76),(6,3,.t 78),(9,3,.t 80),(12,3,.t 82),(15,3,.t 84)],none⟩,⟨.x 16,.alloc [(.bool false),.nils,.nils,(.bool false),.nils,.nils,(.bool false),.nils,.nils,(.bool false),.nils,.nils,(.bool false),.nils,.nils,(.bool false),.nils,.nils],none⟩,⟨.no,.stn 18 (.x 16) (.t 85),none⟩]) (.seq (.reg [⟨.t 87,.ldn 18 (.x 16),none⟩,⟨.t 88,.call 12 [.t 87],none⟩,⟨.t 89,.call 15 [.t 88],none⟩,⟨.t 86,.mv (.t 89),none⟩,⟨.t 90,.ext (.t 86) 0,none⟩,⟨.t 91,.ext (.t 86) 1,none⟩,⟨.x 17,.alloc [(.bool false),.nils,.nils,(.bool false),.nils,.nils,(.bool false),.nils,.nils,(.bool false),.nils,.nils,(.bool false),.nils,.nils,(.bool false),.nils,.nils],none⟩,⟨.no,.stn 18 (.x 17) (.t 90),none⟩,⟨.x 18,.mv (.t 91),none⟩]) (.seq (.reg [⟨.t 92,.mv (.x 12),none⟩,⟨.t 93,.bin .eql (.t 92) (.c (.int .i64 0)),none⟩,⟨.t 94,.mv (.t 93),none⟩,⟨.t 95,.mv (.x 15),some (.t 94,true)⟩,⟨.t 96,.bin .eql (.t 95) (.c (.int .i64 0)),some (.t 94,true)⟩,⟨.t 97,.pick (.t 94) (.t 96) (.c (.bool false)),none⟩,⟨.t 98,.mv (.t 97),none⟩,⟨.t 99,.mv (.x 13),some (.t 98,true)⟩,⟨.t 100,.mv (.x 9),some (.t 98,true)⟩,⟨.t 101,.call 26 [.t 99,.t 100],some (.t 98,true)⟩,⟨.t 102,.pick (.t 98) (.t 101) (.c (.bool false)),none⟩,⟨.t 103,.mv (.t 102),none⟩,⟨.t 104,.mv (.x 14),some (.t 103,true)⟩,⟨.t 105,.mv (.x 10),some (.t 103,true)⟩,⟨.t 106,.call 27 [.t 104,.t 105],some (.t 103,true)⟩,⟨.t 107,.pick (.t 103) (.t 106) (.c (.bool false)),none⟩,⟨.t 108,.mv (.t 107),none⟩,⟨.t 109,.mv (.x 18),some (.t 108,true)⟩,⟨.t 110,.bin .eql (.t 109) (.c (.int .i64 0)),some (.t 108,true)⟩,⟨.t 111,.pick (.t 108) (.t 110) (.c (.bool false)),none⟩,⟨.t 112,.mv (.t 111),none⟩,⟨.t 113,.ldn 18 (.x 17),some (.t 112,true)⟩,⟨.t 114,.ldn 18 (.x 16),some (.t 112,true)⟩,⟨.t 115,.call 17 [.t 113,.t 114],some (.t 112,true)⟩,⟨.t 116,.pick (.t 112) (.t 115) (.c (.bool false)),none⟩,⟨.t 117,.mv (.t 116),none⟩,⟨.t 118,.call 7 [],some (.t 117,true)⟩,⟨.t 119,.pick (.t 117) (.t 118) (.c (.bool false)),none⟩,⟨.x 2,.mv (.t 119),none⟩]) .ret))))))))))))))
def reslrBack : List RV := [.t 2]
theorem islrBack : IsFn fnlrBack 5 codelrBack reslrBack := ⟨⟨Tryz.f5, _, Tryz.func5, rfl, rfl, by kernel_rfl, by kernel_rfl, by kernel_rfl⟩⟩
noncomputable def fnreSameTest : FnD := ⟨Tryz.prog,[0,1,2,3,4],[],8,false⟩
def codereSameTest : DC := (.seq (.reg [⟨.x 2,.box (.x 0),none⟩,⟨.x 3,.box (.x 1),none⟩,⟨.x 4,.mv (.c (.bool false)),none⟩]) (.seq (.reg [⟨.t 5,.ldn 18 (.x 2),none⟩,⟨.t 6,.ldn 18 (.x 3),none⟩,⟨.t 7,.call 49 [.t 5,.t 6],none⟩,⟨.x 4,.mv (.t 7),none⟩]) .ret))
def resreSameTest : List RV := [.t 4]
theorem isreSameTest : IsFn fnreSameTest 17 codereSameTest resreSameTest := ⟨⟨Tryz.f17, _, Tryz.func17, rfl, rfl, by kernel_rfl, by kernel_rfl, by kernel_rfl⟩⟩
noncomputable def fnwPick : FnD := ⟨Tryz.prog,[0,1,4],[],12,false⟩
def codewPick : DC := (.seq (.reg [⟨.x 4,.mv (.c (.int .i64 0)),none⟩]) (.seq (.reg [⟨.t 5,.mv (.x 1),none⟩,⟨.t 6,.mv (.x 0),none⟩,⟨.t 7,.mv (.x 1),none⟩,⟨.t 8,.len 1 (.t 7),none⟩,⟨.t 9,.call 14 [.t 6,.t 8],none⟩,⟨.t 10,.iad 1 (.t 5) (.t 9),none⟩,⟨.t 11,.ld (.t 10),none⟩,⟨.x 4,.mv (.t 11),none⟩]) .ret))
def reswPick : List RV := [.t 4]
theorem iswPick : IsFn fnwPick 21 codewPick reswPick := ⟨⟨Tryz.f21, _, Tryz.func21, rfl, rfl, by kernel_rfl, by kernel_rfl, by kernel_rfl⟩⟩
noncomputable def fnrpColumns : FnD := ⟨Tryz.prog,[0,2,3,4,6,7,9,10,11,12,14,15,16,24,29,30,31,32,46,50,51,52,53,56,57,58,59,65,78,79,80,81,84,85,86,87,92],[],109,false⟩
def coderpColumns : DC := (.seq (.reg [⟨.x 2,.mv (.c (.str [])),none⟩,⟨.x 3,.mv (.c (.int .i64 0)),none⟩]) (.seq (.seq (.reg [⟨.t 17,.mv (.x 0),none⟩,⟨.t 18,.len 1 (.t 17),none⟩,⟨.t 19,.bin .lss (.t 18) (.c (.int .i64 1)),none⟩,⟨.t 20,.mv (.t 19),none⟩,⟨.t 21,.mv (.x 0),some (.t 20,false)⟩,⟨.t 22,.len 1 (.t 21),some (.t 20,false)⟩,⟨.t 23,.bin .gtr (.t 22) (.c (.int .i64 1024)),some (.t 20,false)⟩,⟨.x 24,.pick (.t 20) (.c (.bool true)) (.t 23),none⟩]) (.cond (.x 24) (.seq (.reg [⟨.x 2,.mv (.c (.str [])),none⟩,⟨.x 3,.mv (.c (.int .i64 6)),none⟩]) .ret) .skip)) (.seq (.reg [⟨.t 25,.mv (.x 0),none⟩,⟨.t 26,.iad 1 (.t 25) (.c (.int .i64 0)),none⟩,⟨.t 27,.ld (.t 26),none⟩,⟨.t 28,.len 1 (.t 27),none⟩,⟨.x 4,.mv (.t 28),none⟩]) (.seq (.seq (.reg [⟨.x 29,.mv (.x 0),none⟩,⟨.x 30,.len 1 (.x 29),none⟩,⟨.x 31,.mv (.c (.int .i64 0)),none⟩]) (.block 0 (.loop (.seq (.reg [⟨.x 32,.bin .lss (.x 31) (.x 30),none⟩]) (.seq (.cond (.x 32) .skip (.exit 0)) (.seq (.block 1 (.seq (.reg [⟨.t 33,.iad 1 (.x 29) (.x 31),none⟩,⟨.t 34,.ld (.t 33),none⟩,⟨.x 6,.mv (.t 34),none⟩]) (.seq (.reg [⟨.t 35,.mv (.x 6),none⟩,⟨.t 36,.len 1 (.t 35),none⟩,⟨.t 37,.mv (.x 4),none⟩,⟨.t 38,.bin .neq (.t 36) (.t 37),none⟩,⟨.t 39,.mv (.t 38),none⟩,⟨.t 40,.mv (.x 4),some (.t 39,false)⟩,⟨.t 41,.bin .lss (.t 40) (.c (.int .i64 1)),some (.t 39,false)⟩,⟨.t 42,.pick (.t 39) (.c (.bool true)) (.t 41),none⟩,⟨.t 43,.mv (.t 42),none⟩,⟨.t 44,.mv (.x 4),some (.t 43,false)⟩,⟨.t 45,.bin .gtr (.t 44) (.c (.int .i64 32)),some (.t 43,false)⟩,⟨.x 46,.pick (.t 43) (.c (.bool true)) (.t 45),none⟩]) (.cond (.x 46) (.seq (.reg [⟨.x 2,.mv (.c (.str [])),none⟩,⟨.x 3,.mv (.c (.int .i64 6)),none⟩]) .ret) .skip)))) (.reg [⟨.t 47,.bin .add (.x 31) (.c (.int .i64 1)),none⟩,⟨.x 31,.mv (.t 47),none⟩]))))))) (.seq (.reg [⟨.t 48,.mv (.x 4),none⟩,⟨.t 49,.mks 1 8 [(.int .i64 0)] (.t 48) (.t 48),none⟩,⟨.x 7,.mv (.t 49),none⟩]) (.seq (.seq (.reg [⟨.x 50,.mv (.x 0),none⟩,⟨.x 51,.len 1 (.x 50),none⟩,⟨.x 52,.mv (.c (.int .i64 0)),none⟩]) (.block 2 (.loop (.seq (.reg [⟨.x 53,.bin .lss (.x 52) (.x 51),none⟩]) (.seq (.cond (.x 53) .skip (.exit 2)) (.seq (.block 3 (.seq (.reg [⟨.t 54,.iad 1 (.x 50) (.x 52),none⟩,⟨.t 55,.ld (.t 54),none⟩,⟨.x 9,.mv (.t 55),none⟩]) (.seq (.reg [⟨.x 56,.mv (.x 9),none⟩,⟨.x 57,.len 1 (.x 56),none⟩,⟨.x 58,.mv (.c (.int .i64 0)),none⟩]) (.block 4 (.loop (.seq (.reg [⟨.x 59,.bin .lss (.x 58) (.x 57),none⟩]) (.seq (.cond (.x 59) .skip (.exit 4)) (.seq (.block 5 (.seq (.reg [⟨.t 60,.mv (.x 58),none⟩,⟨.t 61,.iad 1 (.x 56) (.x 58),none⟩,⟨.t 62,.ld (.t 61),none⟩,⟨.x 10,.mv (.t 60),none⟩,⟨.x 11,.mv (.t 62),none⟩]) (.seq (.seq (.reg [⟨.t 63,.mv (.x 11),none⟩,⟨.t 64,.call 54 [.t 63],none⟩,⟨.x 65,.un .not (.t 64),none⟩]) (.cond (.x 65) (.seq (.reg [⟨.x 2,.mv (.c (.str [])),none⟩,⟨.x 3,.mv (.c (.int .i64 4)),none⟩]) .ret) .skip)) (.reg [⟨.t 66,.mv (.x 7),none⟩,⟨.t 67,.mv (.x 10),none⟩,⟨.t 68,.mv (.x 7),none⟩,⟨.t 69,.mv (.x 10),none⟩,⟨.t 70,.iad 1 (.t 68) (.t 69),none⟩,⟨.t 71,.ld (.t 70),none⟩,⟨.t 72,.mv (.x 11),none⟩,⟨.t 73,.lenS (.t 72),none⟩,⟨.t 74,.max2 (.t 71) (.t 73),none⟩,⟨.t 75,.iad 1 (.t 66) (.t 67),none⟩,⟨.no,.st (.t 75) (.t 74),none⟩])))) (.reg [⟨.t 76,.bin .add (.x 58) (.c (.int .i64 1)),none⟩,⟨.x 58,.mv (.t 76),none⟩]))))))))) (.reg [⟨.t 77,.bin .add (.x 52) (.c (.int .i64 1)),none⟩,⟨.x 52,.mv (.t 77),none⟩]))))))) (.seq (.reg [⟨.x 12,.alloc [.nilp,.nils],none⟩]) (.seq (.seq (.reg [⟨.x 78,.mv (.x 0),none⟩,⟨.x 79,.len 1 (.x 78),none⟩,⟨.x 80,.mv (.c (.int .i64 0)),none⟩]) (.block 6 (.loop (.seq (.reg [⟨.x 81,.bin .lss (.x 80) (.x 79),none⟩]) (.seq (.cond (.x 81) .skip (.exit 6)) (.seq (.block 7 (.seq (.reg [⟨.t 82,.iad 1 (.x 78) (.x 80),none⟩,⟨.t 83,.ld (.t 82),none⟩,⟨.x 14,.mv (.t 83),none⟩]) (.seq (.seq (.reg [⟨.x 84,.mv (.x 14),none⟩,⟨.x 85,.len 1 (.x 84),none⟩,⟨.x 86,.mv (.c (.int .i64 0)),none⟩]) (.block 8 (.loop (.seq (.reg [⟨.x 87,.bin .lss (.x 86) (.x 85),none⟩]) (.seq (.cond (.x 87) .skip (.exit 8)) (.seq (.block 9 (.seq (.reg [⟨.t 88,.mv (.x 86),none⟩,⟨.t 89,.iad 1 (.x 84) (.x 86),none⟩,⟨.t 90,.ld (.t 89),none⟩,⟨.x 15,.mv (.t 88),none⟩,⟨.x 16,.mv (.t 90),none⟩]) (.seq (.seq (.reg [⟨.t 91,.mv (.x 15),none⟩,⟨.x 92,.bin .gtr (.t 91) (.c (.int .i64 0)),none⟩]) (.cond (.x 92) (.reg [⟨.t 93,.call 37 [.x 12,(.c (.str [32,32]))],none⟩]) .skip)) (.seq (.reg [⟨.t 94,.mv (.x 7),none⟩,⟨.t 95,.mv (.x 15),none⟩,⟨.t 96,.iad 1 (.t 94) (.t 95),none⟩,⟨.t 97,.ld (.t 96),none⟩,⟨.t 98,.mv (.x 16),none⟩,⟨.t 99,.lenS (.t 98),none⟩,⟨.t 100,.bin .sub (.t 97) (.t 99),none⟩,⟨.t 101,.call 55 [(.c (.str [32])),.t 100],none⟩,⟨.t 102,.call 37 [.x 12,.t 101],none⟩]) (.reg [⟨.t 103,.mv (.x 16),none⟩,⟨.t 104,.call 37 [.x 12,.t 103],none⟩]))))) (.reg [⟨.t 105,.bin .add (.x 86) (.c (.int .i64 1)),none⟩,⟨.x 86,.mv (.t 105),none⟩]))))))) (.reg [⟨.t 106,.call 56 [.x 12,(.c (.int .u8 10))],none⟩])))) (.reg [⟨.t 107,.bin .add (.x 80) (.c (.int .i64 1)),none⟩,⟨.x 80,.mv (.t 107),none⟩]))))))) (.seq (.reg [⟨.t 108,.call 40 [.x 12],none⟩,⟨.x 2,.mv (.t 108),none⟩,⟨.x 3,.mv (.c (.int .i64 0)),none⟩]) .ret)))))))))
def resrpColumns : List RV := [.t 2, .t 3]
theorem nbrpColumns : fnrpColumns.nb = 0 := rfl
noncomputable def fnbWS : FnD := ⟨Tryz.prog,[0,1,4,5],[],19,false⟩
def codebWS : DC := (.seq (.reg [⟨.x 4,.mv (.c (.int .i64 0)),none⟩,⟨.x 5,.mv (.c .nili),none⟩]) (.seq (.reg [⟨.t 6,.mv (.x 0),none⟩,⟨.t 7,.call 60 [.t 6],none⟩]) (.seq (.reg [⟨.t 8,.mv (.x 0),none⟩,⟨.t 9,.mv (.x 0),none⟩,⟨.t 10,.nilc (.t 9),none⟩,⟨.t 11,.fad 1 (.t 10),none⟩,⟨.t 12,.ld (.t 11),none⟩,⟨.t 13,.mv (.x 1),none⟩,⟨.t 14,.apps 5 (.t 12) (.t 13),none⟩,⟨.t 15,.nilc (.t 8),none⟩,⟨.t 16,.fad 1 (.t 15),none⟩,⟨.no,.st (.t 16) (.t 14),none⟩]) (.seq (.reg [⟨.t 17,.mv (.x 1),none⟩,⟨.t 18,.lenS (.t 17),none⟩,⟨.x 4,.mv (.t 18),none⟩,⟨.x 5,.mv (.c .nili),none⟩]) .ret))))
def resbWS : List RV := [.t 4, .t 5]
theorem isbWS : IsFn fnbWS 37 codebWS resbWS := ⟨⟨Tryz.f37, _, Tryz.func37, rfl, rfl, by kernel_rfl, by kernel_rfl, by kernel_rfl⟩⟩
noncomputable def fnqParse : FnD := ⟨Tryz.prog,[0,2,3,4,5,6,19],[],31,false⟩
def codeqParse : DC := (.seq (.reg [⟨.x 2,.alloc [(.bool false),.nils,.nils],none⟩,⟨.x 3,.mv (.c (.bool false)),none⟩]) (.seq (.reg [⟨.t 8,.mv (.x 0),none⟩,⟨.t 9,.call 45 [.t 8,(.c (.str [45]))],none⟩,⟨.t 7,.mv (.t 9),none⟩,⟨.t 10,.ext (.t 7) 0,none⟩,⟨.t 11,.ext (.t 7) 1,none⟩,⟨.x 0,.mv (.t 10),none⟩,⟨.x 4,.mv (.t 11),none⟩]) (.seq (.reg [⟨.t 13,.mv (.x 0),none⟩,⟨.t 14,.call 69 [.t 13],none⟩,⟨.t 12,.mv (.t 14),none⟩,⟨.t 15,.ext (.t 12) 0,none⟩,⟨.t 16,.ext (.t 12) 1,none⟩,⟨.t 17,.ext (.t 12) 2,none⟩,⟨.x 5,.mv (.t 15),none⟩,⟨.x 6,.mv (.t 16),none⟩,⟨.x 3,.mv (.t 17),none⟩]) (.seq (.seq (.reg [⟨.t 18,.mv (.x 3),none⟩,⟨.x 19,.un .not (.t 18),none⟩]) (.cond (.x 19) (.seq (.reg [⟨.t 20,.build [(.bool false),.nils,.nils] [],none⟩,⟨.no,.stn 3 (.x 2) (.t 20),none⟩,⟨.x 3,.mv (.c (.bool false)),none⟩]) .ret) .skip)) (.seq (.reg [⟨.t 21,.mv (.x 4),none⟩,⟨.t 22,.mv (.t 21),none⟩,⟨.t 23,.mv (.x 5),some (.t 22,true)⟩,⟨.t 24,.len 1 (.t 23),some (.t 22,true)⟩,⟨.t 25,.bin .gtr (.t 24) (.c (.int .i64 0)),some (.t 22,true)⟩,⟨.t 26,.pick (.t 22) (.t 25) (.c (.bool false)),none⟩,⟨.t 27,.mv (.x 5),none⟩,⟨.t 28,.build [(.bool false),.nils] [(0,1,.t 26),(1,1,.t 27)],none⟩,⟨.t 29,.mv (.x 6),none⟩,⟨.t 30,.call 70 [.t 28,.t 29],none⟩,⟨.no,.stn 3 (.x 2) (.t 30),none⟩,⟨.x 3,.mv (.c (.bool true)),none⟩]) .ret)))))
def resqParse : List RV := [.cn 3 2, .t 3]
theorem nbqParse : fnqParse.nb = 0 := rfl
theorem isqParse : IsFn fnqParse 46 codeqParse resqParse := ⟨⟨Tryz.f46, _, Tryz.func46, rfl, rfl, by kernel_rfl, by kernel_rfl, by kernel_rfl⟩⟩
noncomputable def fnqDecimal : FnD := ⟨Tryz.prog,[0,1,2,4,5,6,8,9,10,16,55,67,73,95],[],99,false⟩
def codeqDecimal : DC := (.seq (.reg [⟨.x 2,.box (.x 0),none⟩,⟨.x 4,.mv (.c (.str [])),none⟩]) (.seq (.seq (.reg [⟨.t 11,.mv (.x 1),none⟩,⟨.t 12,.bin .lss (.t 11) (.c (.int .i64 0)),none⟩,⟨.t 13,.mv (.t 12),none⟩,⟨.t 14,.mv (.x 1),some (.t 13,false)⟩,⟨.t 15,.bin .gtr (.t 14) (.c (.int .i64 100)),some (.t 13,false)⟩,⟨.x 16,.pick (.t 13) (.c (.bool true)) (.t 15),none⟩]) (.cond (.x 16) (.seq (.reg [⟨.x 4,.mv (.c (.str [])),none⟩]) .ret) .skip)) (.seq (.reg [⟨.t 17,.ldn 3 (.x 2),none⟩,⟨.t 18,.call 61 [.t 17],none⟩,⟨.no,.stn 3 (.x 2) (.t 18),none⟩]) (.seq (.regd [⟨.t 20,.fad 0 (.x 2),none⟩,⟨.t 21,.fad 1 (.t 20),none⟩,⟨.t 22,.ld (.t 21),none⟩,⟨.t 23,.mv (.x 1),none⟩,⟨.t 24,.call 79 [.t 23],none⟩,⟨.t 25,.call 78 [.t 22,.t 24],none⟩,⟨.t 26,.ldn 3 (.x 2),none⟩,⟨.t 27,.call 80 [.t 26],none⟩,⟨.t 28,.call 77 [.t 25,.t 27],none⟩,⟨.t 19,.mv (.t 28),none⟩,⟨.t 29,.ext (.t 19) 0,none⟩,⟨.t 30,.ext (.t 19) 1,none⟩,⟨.t 31,.ext (.t 19) 2,none⟩,⟨.x 5,.mv (.t 29),none⟩,⟨.x 6,.mv (.t 30),none⟩,⟨.t 7,.mv (.t 31),none⟩]) (.seq (.regd [⟨.t 32,.mv (.x 6),none⟩,⟨.t 33,.mv (.x 6),none⟩,⟨.t 34,.call 82 [.t 32,.t 33],none⟩,⟨.t 35,.ldn 3 (.x 2),none⟩,⟨.t 36,.call 80 [.t 35],none⟩,⟨.t 37,.call 81 [.t 34,.t 36],none⟩,⟨.x 8,.mv (.t 37),none⟩]) (.seq (.seq (.reg [⟨.t 38,.mv (.x 8),none⟩,⟨.t 39,.bin .gtr (.t 38) (.c (.int .i64 0)),none⟩,⟨.t 40,.mv (.t 39),none⟩,⟨.t 41,.mv (.x 8),some (.t 40,false)⟩,⟨.t 42,.bin .eql (.t 41) (.c (.int .i64 0)),some (.t 40,false)⟩,⟨.t 43,.mv (.t 42),some (.t 40,false)⟩,⟨.t 44,.mv (.x 5),some (.t 43,true)⟩,⟨.t 45,.len 1 (.t 44),some (.t 43,true)⟩,⟨.t 46,.bin .gtr (.t 45) (.c (.int .i64 0)),some (.t 43,true)⟩,⟨.t 47,.pick (.t 43) (.t 46) (.c (.bool false)),some (.t 40,false)⟩,⟨.t 48,.mv (.t 47),some (.t 40,false)⟩,⟨.t 49,.mv (.x 5),some (.t 48,true)⟩,⟨.t 50,.iad 1 (.t 49) (.c (.int .i64 0)),some (.t 48,true)⟩,⟨.t 51,.ld (.t 50),some (.t 48,true)⟩,⟨.t 52,.bin .rem (.t 51) (.c (.int .u32 2)),some (.t 48,true)⟩,⟨.t 53,.bin .eql (.t 52) (.c (.int .u32 1)),some (.t 48,true)⟩,⟨.t 54,.pick (.t 48) (.t 53) (.c (.bool false)),some (.t 40,false)⟩,⟨.x 55,.pick (.t 40) (.c (.bool true)) (.t 54),none⟩]) (.cond (.x 55) (.reg [⟨.t 56,.mv (.x 5),none⟩,⟨.t 57,.call 83 [],none⟩,⟨.t 58,.call 82 [.t 56,.t 57],none⟩,⟨.x 5,.mv (.t 58),none⟩]) .skip)) (.seq (.reg [⟨.t 59,.mv (.x 5),none⟩,⟨.t 60,.call 63 [.t 59],none⟩,⟨.x 9,.mv (.t 60),none⟩]) (.seq (.seq (.reg [⟨.t 61,.mv (.x 1),none⟩,⟨.t 62,.bin .add (.t 61) (.c (.int .i64 1)),none⟩,⟨.t 63,.mv (.x 9),none⟩,⟨.t 64,.lenS (.t 63),none⟩,⟨.t 65,.bin .sub (.t 62) (.t 64),none⟩,⟨.x 10,.mv (.t 65),none⟩]) (.seq (.reg [⟨.t 66,.mv (.x 10),none⟩,⟨.x 67,.bin .gtr (.t 66) (.c (.int .i64 0)),none⟩]) (.cond (.x 67) (.reg [⟨.t 68,.mv (.x 10),none⟩,⟨.t 69,.call 55 [(.c (.str [48])),.t 68],none⟩,⟨.t 70,.mv (.x 9),none⟩,⟨.t 71,.bin .add (.t 69) (.t 70),none⟩,⟨.x 9,.mv (.t 71),none⟩]) .skip))) (.seq (.seq (.reg [⟨.t 72,.mv (.x 1),none⟩,⟨.x 73,.bin .gtr (.t 72) (.c (.int .i64 0)),none⟩]) (.cond (.x 73) (.regd [⟨.t 74,.mv (.x 9),none⟩,⟨.t 75,.mv (.x 9),none⟩,⟨.t 76,.lenS (.t 75),none⟩,⟨.t 77,.mv (.x 1),none⟩,⟨.t 78,.bin .sub (.t 76) (.t 77),none⟩,⟨.t 79,.slcS (.t 74) none (some (.t 78)),none⟩,⟨.t 80,.bin .add (.t 79) (.c (.str [46])),none⟩,⟨.t 81,.mv (.x 9),none⟩,⟨.t 82,.mv (.x 9),none⟩,⟨.t 83,.lenS (.t 82),none⟩,⟨.t 84,.mv (.x 1),none⟩,⟨.t 85,.bin .sub (.t 83) (.t 84),none⟩,⟨.t 86,.slcS (.t 81) (some (.t 85)) none,none⟩,⟨.t 87,.bin .add (.t 80) (.t 86),none⟩,⟨.x 9,.mv (.t 87),none⟩]) .skip)) (.seq (.seq (.reg [⟨.t 88,.fad 0 (.x 2),none⟩,⟨.t 89,.fad 0 (.t 88),none⟩,⟨.t 90,.ld (.t 89),none⟩,⟨.t 91,.mv (.t 90),none⟩,⟨.t 92,.mv (.x 5),some (.t 91,true)⟩,⟨.t 93,.len 1 (.t 92),some (.t 91,true)⟩,⟨.t 94,.bin .gtr (.t 93) (.c (.int .i64 0)),some (.t 91,true)⟩,⟨.x 95,.pick (.t 91) (.t 94) (.c (.bool false)),none⟩]) (.cond (.x 95) (.reg [⟨.t 96,.mv (.x 9),none⟩,⟨.t 97,.bin .add (.c (.str [45])) (.t 96),none⟩,⟨.x 9,.mv (.t 97),none⟩]) .skip)) (.seq (.reg [⟨.t 98,.mv (.x 9),none⟩,⟨.x 4,.mv (.t 98),none⟩]) .ret)))))))))))
def resqDecimal : List RV := [.t 4]
theorem nbqDecimal : fnqDecimal.nb = 0 := rfl
theorem isqDecimal : IsFn fnqDecimal 50 codeqDecimal resqDecimal := ⟨⟨Tryz.f50, _, Tryz.func50, rfl, rfl, by kernel_rfl, by kernel_rfl, by kernel_rfl⟩⟩
noncomputable def fnrpCell : FnD := ⟨Tryz.prog,[0,2,3,7,19],[],28,false⟩
def coderpCell : DC := (.seq (.reg [⟨.x 2,.mv (.c (.bool false)),none⟩]) (.seq (.seq (.reg [⟨.x 3,.mv (.c (.int .i64 0)),none⟩]) (.block 0 (.loop (.seq (.seq (.reg [⟨.t 4,.mv (.x 3),none⟩,⟨.t 5,.mv (.x 0),none⟩,⟨.t 6,.lenS (.t 5),none⟩,⟨.x 7,.bin .lss (.t 4) (.t 6),none⟩]) (.cond (.x 7) .skip (.exit 0))) (.seq (.block 1 (.seq (.reg [⟨.t 10,.mv (.x 0),none⟩,⟨.t 11,.mv (.x 3),none⟩,⟨.t 12,.idx (.t 10) (.t 11),none⟩,⟨.t 13,.bin .lss (.t 12) (.c (.int .u8 33)),none⟩,⟨.t 14,.mv (.t 13),none⟩,⟨.t 15,.mv (.x 0),some (.t 14,false)⟩,⟨.t 16,.mv (.x 3),some (.t 14,false)⟩,⟨.t 17,.idx (.t 15) (.t 16),some (.t 14,false)⟩,⟨.t 18,.bin .gtr (.t 17) (.c (.int .u8 126)),some (.t 14,false)⟩,⟨.x 19,.pick (.t 14) (.c (.bool true)) (.t 18),none⟩]) (.cond (.x 19) (.seq (.reg [⟨.x 2,.mv (.c (.bool false)),none⟩]) .ret) .skip))) (.reg [⟨.t 8,.mv (.x 3),none⟩,⟨.t 9,.bin .add (.t 8) (.c (.int .i64 1)),none⟩,⟨.x 3,.mv (.t 9),none⟩])))))) (.seq (.reg [⟨.t 20,.mv (.x 0),none⟩,⟨.t 21,.lenS (.t 20),none⟩,⟨.t 22,.bin .geq (.t 21) (.c (.int .i64 1)),none⟩,⟨.t 23,.mv (.t 22),none⟩,⟨.t 24,.mv (.x 0),some (.t 23,true)⟩,⟨.t 25,.lenS (.t 24),some (.t 23,true)⟩,⟨.t 26,.bin .leq (.t 25) (.c (.int .i64 32)),some (.t 23,true)⟩,⟨.t 27,.pick (.t 23) (.t 26) (.c (.bool false)),none⟩,⟨.x 2,.mv (.t 27),none⟩]) .ret)))
def resrpCell : List RV := [.t 2]
theorem isrpCell : IsFn fnrpCell 54 coderpCell resrpCell := ⟨⟨Tryz.f54, _, Tryz.func54, rfl, rfl, by kernel_rfl, by kernel_rfl, by kernel_rfl⟩⟩
noncomputable def fnq_value : FnD := ⟨Tryz.prog,[0,1,2,4],[],7,false⟩
def codeq_value : DC := (.seq (.reg [⟨.x 1,.box (.x 0),none⟩,⟨.x 2,.alloc [(.bool false),.nils,.nils],none⟩]) (.seq (.seq (.reg [⟨.t 3,.ldn 3 (.x 1),none⟩,⟨.x 4,.call 109 [.t 3],none⟩]) (.cond (.x 4) (.seq (.reg [⟨.t 5,.ldn 3 (.x 1),none⟩,⟨.no,.stn 3 (.x 2) (.t 5),none⟩]) .ret) .skip)) (.seq (.reg [⟨.t 6,.build [(.bool false),.nils,.nils] [],none⟩,⟨.no,.stn 3 (.x 2) (.t 6),none⟩]) .ret)))
def resq_value : List RV := [.cn 3 2]
theorem nbq_value : fnq_value.nb = 0 := rfl
theorem isq_value : IsFn fnq_value 61 codeq_value resq_value := ⟨⟨Tryz.f61, _, Tryz.func61, rfl, rfl, by kernel_rfl, by kernel_rfl, by kernel_rfl⟩⟩
noncomputable def fnq_ten : FnD := ⟨Tryz.prog,[0,2,3,6],[],18,false⟩
def codeq_ten : DC := (.seq (.reg [⟨.x 2,.mv (.c .nils),none⟩]) (.seq (.reg [⟨.t 4,.call 83 [],none⟩,⟨.x 3,.mv (.t 4),none⟩]) (.seq (.block 0 (.loop (.seq (.seq (.reg [⟨.t 5,.mv (.x 0),none⟩,⟨.x 6,.bin .gtr (.t 5) (.c (.int .i64 64)),none⟩]) (.cond (.x 6) .skip (.exit 0))) (.seq (.block 1 (.reg [⟨.t 9,.mv (.x 3),none⟩,⟨.t 10,.bsl 1 [(.int .u32 0)] [(0,1,(.c (.int .u32 10)))],none⟩,⟨.t 11,.call 140 [.t 10,(.c (.int .i64 64))],none⟩,⟨.t 12,.call 78 [.t 9,.t 11],none⟩,⟨.x 3,.mv (.t 12),none⟩])) (.reg [⟨.t 7,.mv (.x 0),none⟩,⟨.t 8,.bin .sub (.t 7) (.c (.int .i64 64)),none⟩,⟨.x 0,.mv (.t 8),none⟩]))))) (.seq (.reg [⟨.t 13,.mv (.x 3),none⟩,⟨.t 14,.bsl 1 [(.int .u32 0)] [(0,1,(.c (.int .u32 10)))],none⟩,⟨.t 15,.mv (.x 0),none⟩,⟨.t 16,.call 140 [.t 14,.t 15],none⟩,⟨.t 17,.call 78 [.t 13,.t 16],none⟩,⟨.x 2,.mv (.t 17),none⟩]) .ret))))
def resq_ten : List RV := [.t 2]
theorem isq_ten : IsFn fnq_ten 79 codeq_ten resq_ten := ⟨⟨Tryz.f79, _, Tryz.func79, rfl, rfl, by kernel_rfl, by kernel_rfl, by kernel_rfl⟩⟩
noncomputable def fnq_one : FnD := ⟨Tryz.prog,[0],[],2,false⟩
def codeq_one : DC := (.seq (.reg [⟨.x 0,.mv (.c .nils),none⟩]) (.seq (.reg [⟨.t 1,.bsl 1 [(.int .u32 0)] [(0,1,(.c (.int .u32 1)))],none⟩,⟨.x 0,.mv (.t 1),none⟩]) .ret))
def resq_one : List RV := [.t 0]
theorem isq_one : IsFn fnq_one 83 codeq_one resq_one := ⟨⟨Tryz.f83, _, Tryz.func83, rfl, rfl, by kernel_rfl, by kernel_rfl, by kernel_rfl⟩⟩
noncomputable def fnrSame : FnD := ⟨Tryz.prog,[0,1,4,5,10,14,25],[],26,false⟩
def coderSame : DC := (.seq (.reg [⟨.x 4,.mv (.c (.bool false)),none⟩]) (.seq (.seq (.reg [⟨.t 6,.mv (.x 0),none⟩,⟨.t 7,.len 1 (.t 6),none⟩,⟨.t 8,.mv (.x 1),none⟩,⟨.t 9,.len 1 (.t 8),none⟩,⟨.x 10,.bin .neq (.t 7) (.t 9),none⟩]) (.cond (.x 10) (.seq (.reg [⟨.x 4,.mv (.c (.bool false)),none⟩]) .ret) .skip)) (.seq (.seq (.reg [⟨.x 5,.mv (.c (.int .i64 0)),none⟩]) (.block 0 (.loop (.seq (.seq (.reg [⟨.t 11,.mv (.x 5),none⟩,⟨.t 12,.mv (.x 0),none⟩,⟨.t 13,.len 1 (.t 12),none⟩,⟨.x 14,.bin .lss (.t 11) (.t 13),none⟩]) (.cond (.x 14) .skip (.exit 0))) (.seq (.block 1 (.seq (.regd [⟨.t 17,.mv (.x 0),none⟩,⟨.t 18,.mv (.x 5),none⟩,⟨.t 19,.iad 1 (.t 17) (.t 18),none⟩,⟨.t 20,.ld (.t 19),none⟩,⟨.t 21,.mv (.x 1),none⟩,⟨.t 22,.mv (.x 5),none⟩,⟨.t 23,.iad 1 (.t 21) (.t 22),none⟩,⟨.t 24,.ld (.t 23),none⟩,⟨.x 25,.bin .neq (.t 20) (.t 24),none⟩]) (.cond (.x 25) (.seq (.reg [⟨.x 4,.mv (.c (.bool false)),none⟩]) .ret) .skip))) (.reg [⟨.t 15,.mv (.x 5),none⟩,⟨.t 16,.bin .add (.t 15) (.c (.int .i64 1)),none⟩,⟨.x 5,.mv (.t 16),none⟩])))))) (.seq (.reg [⟨.x 4,.mv (.c (.bool true)),none⟩]) .ret))))
def resrSame : List RV := [.t 4]
theorem isrSame : IsFn fnrSame 95 coderSame resrSame := ⟨⟨Tryz.f95, _, Tryz.func95, rfl, rfl, by kernel_rfl, by kernel_rfl, by kernel_rfl⟩⟩
noncomputable def fnsGcd : FnD := ⟨Tryz.prog,[0,1,2,3,4],[],12,false⟩
def codesGcd : DC := (.seq (.reg [⟨.x 2,.box (.x 0),none⟩,⟨.x 3,.box (.x 1),none⟩,⟨.x 4,.mv (.c .nils),none⟩]) (.seq (.regd [⟨.t 5,.ldn 2 (.x 2),none⟩,⟨.t 6,.call 118 [.t 5],none⟩,⟨.t 7,.fld 1 (.t 6),none⟩,⟨.t 8,.ldn 2 (.x 3),none⟩,⟨.t 9,.call 118 [.t 8],none⟩,⟨.t 10,.fld 1 (.t 9),none⟩,⟨.t 11,.call 152 [.t 7,.t 10],none⟩,⟨.x 4,.mv (.t 11),none⟩]) .ret))
def ressGcd : List RV := [.t 4]
theorem nbsGcd : fnsGcd.nb = 0 := rfl
theorem issGcd : IsFn fnsGcd 102 codesGcd ressGcd := ⟨⟨Tryz.f102, _, Tryz.func102, rfl, rfl, by kernel_rfl, by kernel_rfl, by kernel_rfl⟩⟩
noncomputable def fnrAdd : FnD := ⟨Tryz.prog,[0,1,4,5,6,7,8,19],[],40,false⟩
def coderAdd : DC := (.seq (.reg [⟨.x 4,.mv (.c .nils),none⟩]) (.seq (.reg [⟨.t 9,.mv (.x 0),none⟩,⟨.t 10,.call 119 [.t 9],none⟩,⟨.t 11,.mv (.x 1),none⟩,⟨.t 12,.call 119 [.t 11],none⟩,⟨.x 0,.mv (.t 10),none⟩,⟨.x 1,.mv (.t 12),none⟩]) (.seq (.reg [⟨.x 5,.mv (.c .nils),none⟩]) (.seq (.reg [⟨.x 6,.mv (.c (.int .u64 0)),none⟩]) (.seq (.seq (.reg [⟨.x 7,.mv (.c (.int .i64 0)),none⟩]) (.block 0 (.loop (.seq (.seq (.reg [⟨.t 13,.mv (.x 7),none⟩,⟨.t 14,.mv (.x 0),none⟩,⟨.t 15,.len 1 (.t 14),none⟩,⟨.t 16,.mv (.x 1),none⟩,⟨.t 17,.len 1 (.t 16),none⟩,⟨.t 18,.max2 (.t 15) (.t 17),none⟩,⟨.x 19,.bin .leq (.t 13) (.t 18),none⟩]) (.cond (.x 19) .skip (.exit 0))) (.seq (.block 1 (.seq (.reg [⟨.t 22,.mv (.x 0),none⟩,⟨.t 23,.mv (.x 7),none⟩,⟨.t 24,.call 121 [.t 22,.t 23],none⟩,⟨.t 25,.mv (.x 1),none⟩,⟨.t 26,.mv (.x 7),none⟩,⟨.t 27,.call 121 [.t 25,.t 26],none⟩,⟨.t 28,.bin .add (.t 24) (.t 27),none⟩,⟨.t 29,.mv (.x 6),none⟩,⟨.t 30,.bin .add (.t 28) (.t 29),none⟩,⟨.x 8,.mv (.t 30),none⟩]) (.reg [⟨.t 31,.mv (.x 5),none⟩,⟨.t 32,.mv (.x 8),none⟩,⟨.t 33,.conv .u32 (.t 32),none⟩,⟨.t 34,.bsl 1 [(.int .u32 0)] [(0,1,.t 33)],none⟩,⟨.t 35,.app 66 1 4 (.t 31) (.t 34),none⟩,⟨.t 36,.mv (.x 8),none⟩,⟨.t 37,.bin .shr (.t 36) (.c (.int .u64 32)),none⟩,⟨.x 5,.mv (.t 35),none⟩,⟨.x 6,.mv (.t 37),none⟩]))) (.reg [⟨.t 20,.mv (.x 7),none⟩,⟨.t 21,.bin .add (.t 20) (.c (.int .i64 1)),none⟩,⟨.x 7,.mv (.t 21),none⟩])))))) (.seq (.reg [⟨.t 38,.mv (.x 5),none⟩,⟨.t 39,.call 153 [.t 38],none⟩,⟨.x 4,.mv (.t 39),none⟩]) .ret))))))
def resrAdd : List RV := [.t 4]
theorem nbrAdd : fnrAdd.nb = 0 := rfl
theorem isrAdd : IsFn fnrAdd 106 coderAdd resrAdd := ⟨⟨Tryz.f106, _, Tryz.func106, rfl, rfl, by kernel_rfl, by kernel_rfl, by kernel_rfl⟩⟩
noncomputable def fniSign : FnD := ⟨Tryz.prog,[0,1,2,5,10],[],13,false⟩
def codeiSign : DC := (.seq (.reg [⟨.x 1,.box (.x 0),none⟩,⟨.x 2,.mv (.c (.int .i64 0)),none⟩]) (.seq (.seq (.reg [⟨.t 3,.ldn 2 (.x 1),none⟩,⟨.t 4,.call 110 [.t 3],none⟩,⟨.no,.stn 2 (.x 1) (.t 4),none⟩]) (.block 0 (.seq (.reg [⟨.t 6,.fad 1 (.x 1),none⟩,⟨.t 7,.ld (.t 6),none⟩,⟨.t 8,.len 1 (.t 7),none⟩,⟨.t 9,.bin .eql (.t 8) (.c (.int .i64 0)),none⟩,⟨.x 5,.mv (.t 9),none⟩]) (.cond (.x 5) (.seq (.reg [⟨.x 2,.mv (.c (.int .i64 0)),none⟩]) .ret) (.seq (.reg [⟨.t 11,.fad 0 (.x 1),none⟩,⟨.t 12,.ld (.t 11),none⟩,⟨.x 10,.mv (.t 12),none⟩]) (.cond (.x 10) (.seq (.reg [⟨.x 2,.mv (.c (.int .i64 (-1))),none⟩]) .ret) .skip)))))) (.seq (.reg [⟨.x 2,.mv (.c (.int .i64 1)),none⟩]) .ret)))
def resiSign : List RV := [.t 2]
theorem nbiSign : fniSign.nb = 0 := rfl
theorem isiSign : IsFn fniSign 111 codeiSign resiSign := ⟨⟨Tryz.f111, _, Tryz.func111, rfl, rfl, by kernel_rfl, by kernel_rfl, by kernel_rfl⟩⟩
noncomputable def fnrTake : FnD := ⟨Tryz.prog,[0,2,5],[],8,false⟩
def coderTake : DC := (.seq (.reg [⟨.x 2,.mv (.c .nils),none⟩]) (.seq (.seq (.reg [⟨.t 3,.mv (.x 0),none⟩,⟨.t 4,.call 159 [.t 3],none⟩,⟨.x 5,.un .not (.t 4),none⟩]) (.cond (.x 5) (.seq (.reg [⟨.x 2,.mv (.c .nils),none⟩]) .ret) .skip)) (.seq (.reg [⟨.t 6,.mv (.x 0),none⟩,⟨.t 7,.app 66 1 4 (.c .nils) (.t 6),none⟩,⟨.x 2,.mv (.t 7),none⟩]) .ret)))
def resrTake : List RV := [.t 2]
theorem nbrTake : fnrTake.nb = 0 := rfl
theorem isrTake : IsFn fnrTake 119 coderTake resrTake := ⟨⟨Tryz.f119, _, Tryz.func119, rfl, rfl, by kernel_rfl, by kernel_rfl, by kernel_rfl⟩⟩
noncomputable def fnstrCut : FnD := ⟨Tryz.prog,[0,1,4,5,6],[],13,false⟩
def codestrCut : DC := (.seq (.reg [⟨.x 4,.mv (.c (.str [])),none⟩,⟨.x 5,.mv (.c (.str [])),none⟩,⟨.x 6,.mv (.c (.bool false)),none⟩]) (.seq (.reg [⟨.t 7,.mv (.x 0),none⟩,⟨.t 8,.mv (.x 1),none⟩,⟨.t 9,.call 162 [.t 7,.t 8],none⟩,⟨.t 10,.ext (.t 9) 0,none⟩,⟨.t 11,.ext (.t 9) 1,none⟩,⟨.t 12,.ext (.t 9) 2,none⟩,⟨.x 4,.mv (.t 10),none⟩,⟨.x 5,.mv (.t 11),none⟩,⟨.x 6,.mv (.t 12),none⟩]) .ret))
def resstrCut : List RV := [.t 4, .t 5, .t 6]
theorem isstrCut : IsFn fnstrCut 124 codestrCut resstrCut := ⟨⟨Tryz.f124, _, Tryz.func124, rfl, rfl, by kernel_rfl, by kernel_rfl, by kernel_rfl⟩⟩
noncomputable def fnq_significant : FnD := ⟨Tryz.prog,[0,2,6],[],8,false⟩
def codeq_significant : DC := (.seq (.reg [⟨.x 2,.mv (.c (.str [])),none⟩]) (.seq (.seq (.reg [⟨.t 3,.mv (.x 0),none⟩,⟨.t 4,.call 168 [.t 3,(.c (.str [48]))],none⟩,⟨.x 0,.mv (.t 4),none⟩]) (.seq (.reg [⟨.t 5,.mv (.x 0),none⟩,⟨.x 6,.bin .eql (.t 5) (.c (.str [])),none⟩]) (.cond (.x 6) (.seq (.reg [⟨.x 2,.mv (.c (.str [48])),none⟩]) .ret) .skip))) (.seq (.reg [⟨.t 7,.mv (.x 0),none⟩,⟨.x 2,.mv (.t 7),none⟩]) .ret)))
def resq_significant : List RV := [.t 2]
theorem isq_significant : IsFn fnq_significant 129 codeq_significant resq_significant := ⟨⟨Tryz.f129, _, Tryz.func129, rfl, rfl, by kernel_rfl, by kernel_rfl, by kernel_rfl⟩⟩
noncomputable def fnnFromUint : FnD := ⟨Tryz.prog,[0,2],[],10,false⟩
def codenFromUint : DC := (.seq (.reg [⟨.x 2,.mv (.c .nils),none⟩]) (.seq (.reg [⟨.t 3,.mv (.x 0),none⟩,⟨.t 4,.conv .u32 (.t 3),none⟩,⟨.t 5,.mv (.x 0),none⟩,⟨.t 6,.bin .shr (.t 5) (.c (.int .u64 32)),none⟩,⟨.t 7,.conv .u32 (.t 6),none⟩,⟨.t 8,.bsl 1 [(.int .u32 0),(.int .u32 0)] [(0,1,.t 4),(1,1,.t 7)],none⟩,⟨.t 9,.call 139 [.t 8],none⟩,⟨.x 2,.mv (.t 9),none⟩]) .ret))
def resnFromUint : List RV := [.t 2]
theorem isnFromUint : IsFn fnnFromUint 137 codenFromUint resnFromUint := ⟨⟨Tryz.f137, _, Tryz.func137, rfl, rfl, by kernel_rfl, by kernel_rfl, by kernel_rfl⟩⟩
noncomputable def fnAdd32 : FnD := ⟨Tryz.prog,[0,1,2,6,7,8],[],22,false⟩
def codeAdd32 : DC := (.seq (.reg [⟨.x 6,.mv (.c (.int .u32 0)),none⟩,⟨.x 7,.mv (.c (.int .u32 0)),none⟩]) (.seq (.reg [⟨.t 9,.mv (.x 0),none⟩,⟨.t 10,.conv .u64 (.t 9),none⟩,⟨.t 11,.mv (.x 1),none⟩,⟨.t 12,.conv .u64 (.t 11),none⟩,⟨.t 13,.bin .add (.t 10) (.t 12),none⟩,⟨.t 14,.mv (.x 2),none⟩,⟨.t 15,.conv .u64 (.t 14),none⟩,⟨.t 16,.bin .add (.t 13) (.t 15),none⟩,⟨.x 8,.mv (.t 16),none⟩]) (.seq (.reg [⟨.t 17,.mv (.x 8),none⟩,⟨.t 18,.conv .u32 (.t 17),none⟩,⟨.x 6,.mv (.t 18),none⟩]) (.seq (.reg [⟨.t 19,.mv (.x 8),none⟩,⟨.t 20,.bin .shr (.t 19) (.c (.int .u64 32)),none⟩,⟨.t 21,.conv .u32 (.t 20),none⟩,⟨.x 7,.mv (.t 21),none⟩]) .ret))))
def resAdd32 : List RV := [.t 6, .t 7]
theorem isAdd32 : IsFn fnAdd32 141 codeAdd32 resAdd32 := ⟨⟨Tryz.f141, _, Tryz.func141, rfl, rfl, by kernel_rfl, by kernel_rfl, by kernel_rfl⟩⟩
noncomputable def fnrSub : FnD := ⟨Tryz.prog,[0,1,4,5,6,7,8,9,17,21],[],44,false⟩
def coderSub : DC := (.seq (.reg [⟨.x 4,.mv (.c .nils),none⟩,⟨.x 5,.mv (.c (.bool false)),none⟩]) (.seq (.reg [⟨.t 10,.mv (.x 0),none⟩,⟨.t 11,.call 119 [.t 10],none⟩,⟨.t 12,.mv (.x 1),none⟩,⟨.t 13,.call 119 [.t 12],none⟩,⟨.x 0,.mv (.t 11),none⟩,⟨.x 1,.mv (.t 13),none⟩]) (.seq (.seq (.reg [⟨.t 14,.mv (.x 0),none⟩,⟨.t 15,.mv (.x 1),none⟩,⟨.t 16,.call 175 [.t 14,.t 15],none⟩,⟨.x 17,.bin .lss (.t 16) (.c (.int .i64 0)),none⟩]) (.cond (.x 17) (.seq (.reg [⟨.x 4,.mv (.c .nils),none⟩,⟨.x 5,.mv (.c (.bool false)),none⟩]) .ret) .skip)) (.seq (.reg [⟨.x 6,.mv (.c .nils),none⟩]) (.seq (.reg [⟨.x 7,.mv (.c (.int .u64 0)),none⟩]) (.seq (.seq (.reg [⟨.x 8,.mv (.c (.int .i64 0)),none⟩]) (.block 0 (.loop (.seq (.seq (.reg [⟨.t 18,.mv (.x 8),none⟩,⟨.t 19,.mv (.x 0),none⟩,⟨.t 20,.len 1 (.t 19),none⟩,⟨.x 21,.bin .lss (.t 18) (.t 20),none⟩]) (.cond (.x 21) .skip (.exit 0))) (.seq (.block 1 (.seq (.reg [⟨.t 24,.mv (.x 0),none⟩,⟨.t 25,.mv (.x 8),none⟩,⟨.t 26,.call 121 [.t 24,.t 25],none⟩,⟨.t 27,.bin .add (.t 26) (.c (.int .u64 4294967296)),none⟩,⟨.t 28,.mv (.x 1),none⟩,⟨.t 29,.mv (.x 8),none⟩,⟨.t 30,.call 121 [.t 28,.t 29],none⟩,⟨.t 31,.bin .sub (.t 27) (.t 30),none⟩,⟨.t 32,.mv (.x 7),none⟩,⟨.t 33,.bin .sub (.t 31) (.t 32),none⟩,⟨.x 9,.mv (.t 33),none⟩]) (.reg [⟨.t 34,.mv (.x 6),none⟩,⟨.t 35,.mv (.x 9),none⟩,⟨.t 36,.conv .u32 (.t 35),none⟩,⟨.t 37,.bsl 1 [(.int .u32 0)] [(0,1,.t 36)],none⟩,⟨.t 38,.app 66 1 4 (.t 34) (.t 37),none⟩,⟨.t 39,.mv (.x 9),none⟩,⟨.t 40,.bin .shr (.t 39) (.c (.int .u64 32)),none⟩,⟨.t 41,.bin .sub (.c (.int .u64 1)) (.t 40),none⟩,⟨.x 6,.mv (.t 38),none⟩,⟨.x 7,.mv (.t 41),none⟩]))) (.reg [⟨.t 22,.mv (.x 8),none⟩,⟨.t 23,.bin .add (.t 22) (.c (.int .i64 1)),none⟩,⟨.x 8,.mv (.t 23),none⟩])))))) (.seq (.reg [⟨.t 42,.mv (.x 6),none⟩,⟨.t 43,.call 153 [.t 42],none⟩,⟨.x 4,.mv (.t 43),none⟩,⟨.x 5,.mv (.c (.bool true)),none⟩]) .ret)))))))
def resrSub : List RV := [.t 4, .t 5]
theorem nbrSub : fnrSub.nb = 0 := rfl
theorem isrSub : IsFn fnrSub 145 coderSub resrSub := ⟨⟨Tryz.f145, _, Tryz.func145, rfl, rfl, by kernel_rfl, by kernel_rfl, by kernel_rfl⟩⟩
noncomputable def fnnValid : FnD := ⟨Tryz.prog,[0,2],[],15,false⟩
def codenValid : DC := (.seq (.reg [⟨.x 2,.mv (.c (.bool false)),none⟩]) (.seq (.reg [⟨.t 3,.mv (.x 0),none⟩,⟨.t 4,.len 1 (.t 3),none⟩,⟨.t 5,.bin .eql (.t 4) (.c (.int .i64 0)),none⟩,⟨.t 6,.mv (.t 5),none⟩,⟨.t 7,.mv (.x 0),some (.t 6,false)⟩,⟨.t 8,.mv (.x 0),some (.t 6,false)⟩,⟨.t 9,.len 1 (.t 8),some (.t 6,false)⟩,⟨.t 10,.bin .sub (.t 9) (.c (.int .i64 1)),some (.t 6,false)⟩,⟨.t 11,.iad 1 (.t 7) (.t 10),some (.t 6,false)⟩,⟨.t 12,.ld (.t 11),some (.t 6,false)⟩,⟨.t 13,.bin .neq (.t 12) (.c (.int .u32 0)),some (.t 6,false)⟩,⟨.t 14,.pick (.t 6) (.c (.bool true)) (.t 13),none⟩,⟨.x 2,.mv (.t 14),none⟩]) .ret))
def resnValid : List RV := [.t 2]
theorem isnValid : IsFn fnnValid 155 codenValid resnValid := ⟨⟨Tryz.f155, _, Tryz.func155, rfl, rfl, by kernel_rfl, by kernel_rfl, by kernel_rfl⟩⟩
noncomputable def fnrDouble : FnD := ⟨Tryz.prog,[0,1,4,5,9],[],14,false⟩
def coderDouble : DC := (.seq (.reg [⟨.x 4,.mv (.c .nils),none⟩]) (.seq (.reg [⟨.t 6,.mv (.x 0),none⟩,⟨.t 7,.call 131 [.t 6,(.c (.int .u32 2)),(.c (.int .i64 0))],none⟩,⟨.x 5,.mv (.t 7),none⟩]) (.seq (.seq (.reg [⟨.t 8,.mv (.x 1),none⟩,⟨.x 9,.bin .eql (.t 8) (.c (.int .u32 1)),none⟩]) (.cond (.x 9) (.reg [⟨.t 10,.mv (.x 5),none⟩,⟨.t 11,.bsl 1 [(.int .u32 0)] [(0,1,(.c (.int .u32 1)))],none⟩,⟨.t 12,.call 106 [.t 10,.t 11],none⟩,⟨.x 5,.mv (.t 12),none⟩]) .skip)) (.seq (.reg [⟨.t 13,.mv (.x 5),none⟩,⟨.x 4,.mv (.t 13),none⟩]) .ret))))
def resrDouble : List RV := [.t 4]
theorem isrDouble : IsFn fnrDouble 160 coderDouble resrDouble := ⟨⟨Tryz.f160, _, Tryz.func160, rfl, rfl, by kernel_rfl, by kernel_rfl, by kernel_rfl⟩⟩
noncomputable def fnngcd : FnD := ⟨Tryz.prog,[0,1,4,6],[],12,false⟩
def codengcd : DC := (.seq (.reg [⟨.x 4,.mv (.c (.int .u64 0)),none⟩]) (.seq (.block 0 (.loop (.seq (.seq (.reg [⟨.t 5,.mv (.x 1),none⟩,⟨.x 6,.bin .neq (.t 5) (.c (.int .u64 0)),none⟩]) (.cond (.x 6) .skip (.exit 0))) (.block 1 (.regd [⟨.t 7,.mv (.x 1),none⟩,⟨.t 8,.mv (.x 0),none⟩,⟨.t 9,.mv (.x 1),none⟩,⟨.t 10,.bin .rem (.t 8) (.t 9),none⟩,⟨.x 0,.mv (.t 7),none⟩,⟨.x 1,.mv (.t 10),none⟩]))))) (.seq (.reg [⟨.t 11,.mv (.x 0),none⟩,⟨.x 4,.mv (.t 11),none⟩]) .ret)))
def resngcd : List RV := [.t 4]
theorem isngcd : IsFn fnngcd 169 codengcd resngcd := ⟨⟨Tryz.f169, _, Tryz.func169, rfl, rfl, by kernel_rfl, by kernel_rfl, by kernel_rfl⟩⟩
noncomputable def fnnReduce : FnD := ⟨Tryz.prog,[0,1,2,6,7,8,9,10,12,13,14,19],[],49,false⟩
def codenReduce : DC := (.seq (.reg [⟨.x 6,.mv (.c (.bool false)),none⟩]) (.seq (.reg [⟨.x 7,.mv (.c (.int .u64 0)),none⟩,⟨.x 8,.mv (.c (.int .u32 0)),none⟩]) (.seq (.seq (.reg [⟨.t 11,.mv (.x 0),none⟩,⟨.x 12,.len 1 (.t 11),none⟩,⟨.x 13,.mv (.c (.int .i64 0)),none⟩]) (.block 0 (.loop (.seq (.reg [⟨.x 14,.bin .lss (.x 13) (.x 12),none⟩]) (.seq (.cond (.x 14) .skip (.exit 0)) (.seq (.block 1 (.seq (.reg [⟨.t 15,.mv (.x 13),none⟩,⟨.x 9,.mv (.t 15),none⟩]) (.seq (.reg [⟨.x 10,.mv (.c (.int .u64 0)),none⟩]) (.seq (.seq (.reg [⟨.t 16,.mv (.x 9),none⟩,⟨.t 17,.mv (.x 1),none⟩,⟨.t 18,.len 1 (.t 17),none⟩,⟨.x 19,.bin .lss (.t 16) (.t 18),none⟩]) (.cond (.x 19) (.reg [⟨.t 20,.mv (.x 1),none⟩,⟨.t 21,.mv (.x 9),none⟩,⟨.t 22,.iad 1 (.t 20) (.t 21),none⟩,⟨.t 23,.ld (.t 22),none⟩,⟨.t 24,.conv .u64 (.t 23),none⟩,⟨.x 10,.mv (.t 24),none⟩]) .skip)) (.seq (.reg [⟨.t 25,.mv (.x 7),none⟩,⟨.t 26,.mv (.x 2),none⟩,⟨.t 27,.mv (.x 10),none⟩,⟨.t 28,.bin .mul (.t 26) (.t 27),none⟩,⟨.t 29,.bin .add (.t 25) (.t 28),none⟩,⟨.x 7,.mv (.t 29),none⟩]) (.seq (.reg [⟨.t 31,.mv (.x 0),none⟩,⟨.t 32,.mv (.x 9),none⟩,⟨.t 33,.mv (.x 0),none⟩,⟨.t 34,.mv (.x 9),none⟩,⟨.t 35,.iad 1 (.t 33) (.t 34),none⟩,⟨.t 36,.ld (.t 35),none⟩,⟨.t 37,.mv (.x 7),none⟩,⟨.t 38,.conv .u32 (.t 37),none⟩,⟨.t 39,.mv (.x 8),none⟩,⟨.t 40,.call 190 [.t 36,.t 38,.t 39],none⟩,⟨.t 30,.mv (.t 40),none⟩,⟨.t 41,.ext (.t 30) 0,none⟩,⟨.t 42,.ext (.t 30) 1,none⟩,⟨.t 43,.iad 1 (.t 31) (.t 32),none⟩,⟨.no,.st (.t 43) (.t 41),none⟩,⟨.x 8,.mv (.t 42),none⟩]) (.reg [⟨.t 44,.mv (.x 7),none⟩,⟨.t 45,.bin .shr (.t 44) (.c (.int .u64 32)),none⟩,⟨.x 7,.mv (.t 45),none⟩]))))))) (.reg [⟨.t 46,.bin .add (.x 13) (.c (.int .i64 1)),none⟩,⟨.x 13,.mv (.t 46),none⟩]))))))) (.seq (.reg [⟨.t 47,.mv (.x 8),none⟩,⟨.t 48,.bin .neq (.t 47) (.c (.int .u32 0)),none⟩,⟨.x 6,.mv (.t 48),none⟩]) .ret))))
def resnReduce : List RV := [.t 6]
theorem isnReduce : IsFn fnnReduce 173 codenReduce resnReduce := ⟨⟨Tryz.f173, _, Tryz.func173, rfl, rfl, by kernel_rfl, by kernel_rfl, by kernel_rfl⟩⟩
noncomputable def fnSub32 : FnD := ⟨Tryz.prog,[0,1,2,6,7],[],25,false⟩
def codeSub32 : DC := (.seq (.reg [⟨.x 6,.mv (.c (.int .u32 0)),none⟩,⟨.x 7,.mv (.c (.int .u32 0)),none⟩]) (.seq (.reg [⟨.t 8,.mv (.x 0),none⟩,⟨.t 9,.mv (.x 1),none⟩,⟨.t 10,.bin .sub (.t 8) (.t 9),none⟩,⟨.t 11,.mv (.x 2),none⟩,⟨.t 12,.bin .sub (.t 10) (.t 11),none⟩,⟨.x 6,.mv (.t 12),none⟩]) (.seq (.reg [⟨.t 13,.mv (.x 0),none⟩,⟨.t 14,.un .xor (.t 13),none⟩,⟨.t 15,.mv (.x 1),none⟩,⟨.t 16,.bin .and (.t 14) (.t 15),none⟩,⟨.t 17,.mv (.x 0),none⟩,⟨.t 18,.mv (.x 1),none⟩,⟨.t 19,.bin .xor (.t 17) (.t 18),none⟩,⟨.t 20,.un .xor (.t 19),none⟩,⟨.t 21,.mv (.x 6),none⟩,⟨.t 22,.bin .and (.t 20) (.t 21),none⟩,⟨.t 23,.bin .or (.t 16) (.t 22),none⟩,⟨.t 24,.bin .shr (.t 23) (.c (.int .u64 31)),none⟩,⟨.x 7,.mv (.t 24),none⟩]) .ret)))
def resSub32 : List RV := [.t 6, .t 7]
theorem isSub32 : IsFn fnSub32 190 codeSub32 resSub32 := ⟨⟨Tryz.f190, _, Tryz.func190, rfl, rfl, by kernel_rfl, by kernel_rfl, by kernel_rfl⟩⟩
end Go.Proofs.YtjfedgpbedppeaaGreatDoor
namespace Go.Proofs.YtjfedgpbedppeaaGreatDoor
open Go Go.Dat Go.Proofs
noncomputable def fnwRat : FnD := ⟨Tryz.prog,[0,2,4,5,14],[],27,false⟩
def codewRat : DC := (.seq (.reg [⟨.x 2,.alloc [(.bool false),.nils,.nils],none⟩]) (.seq (.seq (.reg [⟨.t 3,.mv (.x 0),none⟩,⟨.x 4,.call 14 [.t 3,(.c (.int .i64 8))],none⟩]) (.block 0 (.seq (.reg [⟨.t 6,.bin .eql (.x 4) (.c (.int .i64 6)),none⟩,⟨.x 5,.mv (.t 6),none⟩]) (.cond (.x 5) (.seq (.reg [⟨.t 7,.mv (.x 0),none⟩,⟨.t 8,.call 14 [.t 7,(.c (.int .i64 13))],none⟩,⟨.t 9,.bin .sub (.t 8) (.c (.int .i64 6)),none⟩,⟨.t 10,.mv (.x 0),none⟩,⟨.t 11,.call 14 [.t 10,(.c (.int .i64 6))],none⟩,⟨.t 12,.bin .add (.c (.int .i64 1)) (.t 11),none⟩,⟨.t 13,.call 34 [.t 9,.t 12],none⟩,⟨.no,.stn 3 (.x 2) (.t 13),none⟩]) .ret) (.seq (.reg [⟨.t 15,.bin .eql (.x 4) (.c (.int .i64 7)),none⟩,⟨.x 14,.mv (.t 15),none⟩]) (.cond (.x 14) (.seq (.reg [⟨.t 16,.mv (.x 0),none⟩,⟨.t 17,.call 14 [.t 16,(.c (.int .i64 2001))],none⟩,⟨.t 18,.bin .sub (.t 17) (.c (.int .i64 1000)),none⟩,⟨.t 19,.mv (.x 0),none⟩,⟨.t 20,.bsl 1 [(.int .i64 0),(.int .i64 0),(.int .i64 0)] [(0,1,(.c (.int .i64 1))),(1,1,(.c (.int .i64 1))),(2,1,(.c (.int .i64 7)))],none⟩,⟨.t 21,.call 21 [.t 19,.t 20],none⟩,⟨.t 22,.call 34 [.t 18,.t 21],none⟩,⟨.no,.stn 3 (.x 2) (.t 22),none⟩]) .ret) .skip)))))) (.seq (.reg [⟨.t 23,.mv (.x 0),none⟩,⟨.t 24,.call 14 [.t 23,(.c (.int .i64 9))],none⟩,⟨.t 25,.bin .sub (.t 24) (.c (.int .i64 4)),none⟩,⟨.t 26,.call 35 [.t 25],none⟩,⟨.no,.stn 3 (.x 2) (.t 26),none⟩]) .ret)))
def reswRat : List RV := [.cn 3 2]
theorem iswRat : IsFn fnwRat 10 codewRat reswRat := ⟨⟨Tryz.f10, _, Tryz.func10, rfl, rfl, by kernel_rfl, by kernel_rfl, by kernel_rfl⟩⟩
noncomputable def fnwNext : FnD := ⟨Tryz.prog,[0,1,4,18],[],39,false⟩
def codewNext : DC := (.seq (.reg [⟨.x 4,.mv (.c (.int .i64 0)),none⟩]) (.seq (.seq (.regd [⟨.t 5,.mv (.x 1),none⟩,⟨.t 6,.bin .lss (.t 5) (.c (.int .i64 1)),none⟩,⟨.t 7,.mv (.t 6),none⟩,⟨.t 8,.mv (.x 0),some (.t 7,false)⟩,⟨.t 9,.nilc (.t 8),some (.t 7,false)⟩,⟨.t 10,.fad 1 (.t 9),some (.t 7,false)⟩,⟨.t 11,.ld (.t 10),some (.t 7,false)⟩,⟨.t 12,.mv (.x 0),some (.t 7,false)⟩,⟨.t 13,.nilc (.t 12),some (.t 7,false)⟩,⟨.t 14,.fad 0 (.t 13),some (.t 7,false)⟩,⟨.t 15,.ld (.t 14),some (.t 7,false)⟩,⟨.t 16,.len 1 (.t 15),some (.t 7,false)⟩,⟨.t 17,.bin .geq (.t 11) (.t 16),some (.t 7,false)⟩,⟨.x 18,.pick (.t 7) (.c (.bool true)) (.t 17),none⟩]) (.cond (.x 18) (.seq (.reg [⟨.x 4,.mv (.c (.int .i64 0)),none⟩]) .ret) .skip)) (.seq (.reg [⟨.t 19,.mv (.x 0),none⟩,⟨.t 20,.nilc (.t 19),none⟩,⟨.t 21,.fad 1 (.t 20),none⟩,⟨.t 22,.ld (.t 21),none⟩,⟨.t 23,.bin .add (.t 22) (.c (.int .i64 1)),none⟩,⟨.t 24,.nilc (.t 19),none⟩,⟨.t 25,.fad 1 (.t 24),none⟩,⟨.no,.st (.t 25) (.t 23),none⟩]) (.seq (.regd [⟨.t 26,.mv (.x 0),none⟩,⟨.t 27,.nilc (.t 26),none⟩,⟨.t 28,.fad 0 (.t 27),none⟩,⟨.t 29,.ld (.t 28),none⟩,⟨.t 30,.mv (.x 0),none⟩,⟨.t 31,.nilc (.t 30),none⟩,⟨.t 32,.fad 1 (.t 31),none⟩,⟨.t 33,.ld (.t 32),none⟩,⟨.t 34,.bin .sub (.t 33) (.c (.int .i64 1)),none⟩,⟨.t 35,.iad 1 (.t 29) (.t 34),none⟩,⟨.t 36,.ld (.t 35),none⟩,⟨.t 37,.mv (.x 1),none⟩,⟨.t 38,.call 43 [.t 36,.t 37],none⟩,⟨.x 4,.mv (.t 38),none⟩]) .ret))))
def reswNext : List RV := [.t 4]
theorem iswNext : IsFn fnwNext 14 codewNext reswNext := ⟨⟨Tryz.f14, _, Tryz.func14, rfl, rfl, by kernel_rfl, by kernel_rfl, by kernel_rfl⟩⟩
noncomputable def fnlrWord : FnD := ⟨Tryz.prog,[0,2],[],8,false⟩
def codelrWord : DC := (.seq (.reg [⟨.x 2,.mv (.c (.str [])),none⟩]) (.seq (.reg [⟨.t 3,.bsl 1 [(.str []),(.str []),(.str []),(.str []),(.str []),(.str []),(.str []),(.str []),(.str []),(.str []),(.str []),(.str []),(.str []),(.str []),(.str []),(.str [])] [(0,1,(.c (.str [97]))),(1,1,(.c (.str [49,48]))),(2,1,(.c (.str [45,51,47,52]))),(3,1,(.c (.str [98,99,100]))),(4,1,(.c (.str [126]))),(5,1,(.c (.str [33]))),(6,1,(.c (.str [120,50]))),(7,1,(.c (.str []))),(8,1,(.c (.str [97,32,98]))),(9,1,(.c (.str [10]))),(10,1,(.c (.str [127]))),(11,1,(.c (.str [97,98,99,100,101,102,103,104,105,106,107,108,109,110,111,112,113,114,115,116,117,118,119,120,121,122,48,49,50,51,52,53]))),(12,1,(.c (.str [97,98,99,100,101,102,103,104,105,106,107,108,109,110,111,112,113,114,115,116,117,118,119,120,121,122,48,49,50,51,52,53,54]))),(13,1,(.c (.str [121]))),(14,1,(.c (.str [122]))),(15,1,(.c (.str [119])))],none⟩,⟨.t 4,.mv (.x 0),none⟩,⟨.t 5,.call 14 [.t 4,(.c (.int .i64 16))],none⟩,⟨.t 6,.iad 1 (.t 3) (.t 5),none⟩,⟨.t 7,.ld (.t 6),none⟩,⟨.x 2,.mv (.t 7),none⟩]) .ret))
def reslrWord : List RV := [.t 2]
theorem islrWord : IsFn fnlrWord 18 codelrWord reslrWord := ⟨⟨Tryz.f18, _, Tryz.func18, rfl, rfl, by kernel_rfl, by kernel_rfl, by kernel_rfl⟩⟩
noncomputable def fnrpCoefs : FnD := ⟨Tryz.prog,[0,1,2,6,7,8,9,10,20,26,27,28,29,30],[],55,false⟩
def coderpCoefs : DC := (.seq (.reg [⟨.x 6,.mv (.c (.str [])),none⟩,⟨.x 7,.mv (.c (.int .i64 0)),none⟩]) (.seq (.seq (.reg [⟨.t 11,.mv (.x 0),none⟩,⟨.t 12,.len 1 (.t 11),none⟩,⟨.t 13,.bin .lss (.t 12) (.c (.int .i64 1)),none⟩,⟨.t 14,.mv (.t 13),none⟩,⟨.t 15,.mv (.x 1),some (.t 14,false)⟩,⟨.t 16,.len 3 (.t 15),some (.t 14,false)⟩,⟨.t 17,.mv (.x 0),some (.t 14,false)⟩,⟨.t 18,.len 1 (.t 17),some (.t 14,false)⟩,⟨.t 19,.bin .neq (.t 16) (.t 18),some (.t 14,false)⟩,⟨.x 20,.pick (.t 14) (.c (.bool true)) (.t 19),none⟩]) (.cond (.x 20) (.seq (.reg [⟨.x 6,.mv (.c (.str [])),none⟩,⟨.x 7,.mv (.c (.int .i64 6)),none⟩]) .ret) .skip)) (.seq (.seq (.reg [⟨.t 21,.mv (.x 2),none⟩,⟨.t 22,.bin .lss (.t 21) (.c (.int .i64 0)),none⟩,⟨.t 23,.mv (.t 22),none⟩,⟨.t 24,.mv (.x 2),some (.t 23,false)⟩,⟨.t 25,.bin .gtr (.t 24) (.c (.int .i64 20)),some (.t 23,false)⟩,⟨.x 26,.pick (.t 23) (.c (.bool true)) (.t 25),none⟩]) (.cond (.x 26) (.seq (.reg [⟨.x 6,.mv (.c (.str [])),none⟩,⟨.x 7,.mv (.c (.int .i64 1)),none⟩]) .ret) .skip)) (.seq (.reg [⟨.x 8,.mv (.c .nils),none⟩]) (.seq (.seq (.reg [⟨.x 27,.mv (.x 0),none⟩,⟨.x 28,.len 1 (.x 27),none⟩,⟨.x 29,.mv (.c (.int .i64 0)),none⟩]) (.block 0 (.loop (.seq (.reg [⟨.x 30,.bin .lss (.x 29) (.x 28),none⟩]) (.seq (.cond (.x 30) .skip (.exit 0)) (.seq (.block 1 (.seq (.reg [⟨.t 31,.mv (.x 29),none⟩,⟨.t 32,.iad 1 (.x 27) (.x 29),none⟩,⟨.t 33,.ld (.t 32),none⟩,⟨.x 9,.mv (.t 31),none⟩,⟨.x 10,.mv (.t 33),none⟩]) (.regd [⟨.t 34,.mv (.x 8),none⟩,⟨.t 35,.mv (.x 10),none⟩,⟨.t 36,.mv (.x 1),none⟩,⟨.t 37,.mv (.x 9),none⟩,⟨.t 38,.iad 3 (.t 36) (.t 37),none⟩,⟨.t 39,.ldn 3 (.t 38),none⟩,⟨.t 40,.call 39 [.t 39],none⟩,⟨.t 41,.mv (.x 1),none⟩,⟨.t 42,.mv (.x 9),none⟩,⟨.t 43,.iad 3 (.t 41) (.t 42),none⟩,⟨.t 44,.ldn 3 (.t 43),none⟩,⟨.t 45,.mv (.x 2),none⟩,⟨.t 46,.call 50 [.t 44,.t 45],none⟩,⟨.t 47,.bsl 1 [(.str []),(.str []),(.str [])] [(0,1,.t 35),(1,1,.t 40),(2,1,.t 46)],none⟩,⟨.t 48,.bsl 1 [.nils] [(0,1,.t 47)],none⟩,⟨.t 49,.app 39 1 24 (.t 34) (.t 48),none⟩,⟨.x 8,.mv (.t 49),none⟩]))) (.reg [⟨.t 50,.bin .add (.x 29) (.c (.int .i64 1)),none⟩,⟨.x 29,.mv (.t 50),none⟩]))))))) (.seq (.reg [⟨.t 51,.mv (.x 8),none⟩,⟨.t 52,.call 29 [.t 51],none⟩,⟨.t 53,.ext (.t 52) 0,none⟩,⟨.t 54,.ext (.t 52) 1,none⟩,⟨.x 6,.mv (.t 53),none⟩,⟨.x 7,.mv (.t 54),none⟩]) .ret))))))
def resrpCoefs : List RV := [.t 6, .t 7]
theorem isrpCoefs : IsFn fnrpCoefs 22 coderpCoefs resrpCoefs := ⟨⟨Tryz.f22, _, Tryz.func22, rfl, rfl, by kernel_rfl, by kernel_rfl, by kernel_rfl⟩⟩
noncomputable def fnreSameWords : FnD := ⟨Tryz.prog,[0,1,4,5,10,12,13,14,24],[],26,false⟩
def codereSameWords : DC := (.seq (.reg [⟨.x 4,.mv (.c (.bool false)),none⟩]) (.seq (.seq (.reg [⟨.t 6,.mv (.x 0),none⟩,⟨.t 7,.len 1 (.t 6),none⟩,⟨.t 8,.mv (.x 1),none⟩,⟨.t 9,.len 1 (.t 8),none⟩,⟨.x 10,.bin .neq (.t 7) (.t 9),none⟩]) (.cond (.x 10) (.seq (.reg [⟨.x 4,.mv (.c (.bool false)),none⟩]) .ret) .skip)) (.seq (.seq (.reg [⟨.t 11,.mv (.x 0),none⟩,⟨.x 12,.len 1 (.t 11),none⟩,⟨.x 13,.mv (.c (.int .i64 0)),none⟩]) (.block 0 (.loop (.seq (.reg [⟨.x 14,.bin .lss (.x 13) (.x 12),none⟩]) (.seq (.cond (.x 14) .skip (.exit 0)) (.seq (.block 1 (.seq (.reg [⟨.t 15,.mv (.x 13),none⟩,⟨.x 5,.mv (.t 15),none⟩]) (.seq (.regd [⟨.t 16,.mv (.x 0),none⟩,⟨.t 17,.mv (.x 5),none⟩,⟨.t 18,.iad 1 (.t 16) (.t 17),none⟩,⟨.t 19,.ld (.t 18),none⟩,⟨.t 20,.mv (.x 1),none⟩,⟨.t 21,.mv (.x 5),none⟩,⟨.t 22,.iad 1 (.t 20) (.t 21),none⟩,⟨.t 23,.ld (.t 22),none⟩,⟨.x 24,.bin .neq (.t 19) (.t 23),none⟩]) (.cond (.x 24) (.seq (.reg [⟨.x 4,.mv (.c (.bool false)),none⟩]) .ret) .skip)))) (.reg [⟨.t 25,.bin .add (.x 13) (.c (.int .i64 1)),none⟩,⟨.x 13,.mv (.t 25),none⟩]))))))) (.seq (.reg [⟨.x 4,.mv (.c (.bool true)),none⟩]) .ret))))
def resreSameWords : List RV := [.t 4]
theorem isreSameWords : IsFn fnreSameWords 26 codereSameWords resreSameWords := ⟨⟨Tryz.f26, _, Tryz.func26, rfl, rfl, by kernel_rfl, by kernel_rfl, by kernel_rfl⟩⟩
noncomputable def fnrpParse : FnD := ⟨Tryz.prog,[0,2,3,4,5,6,8,9,11,12,13,25,26,27,28,29,33,34,35,36,40,62],[],64,false⟩
def coderpParse : DC := (.seq (.reg [⟨.x 2,.mv (.c .nils),none⟩,⟨.x 3,.mv (.c (.int .i64 0)),none⟩]) (.seq (.reg [⟨.t 15,.mv (.x 0),none⟩,⟨.t 16,.call 44 [.t 15],none⟩,⟨.t 14,.mv (.t 16),none⟩,⟨.t 17,.ext (.t 14) 0,none⟩,⟨.t 18,.ext (.t 14) 1,none⟩,⟨.x 4,.mv (.t 17),none⟩,⟨.x 5,.mv (.t 18),none⟩]) (.seq (.seq (.reg [⟨.t 19,.mv (.x 5),none⟩,⟨.t 20,.un .not (.t 19),none⟩,⟨.t 21,.mv (.t 20),none⟩,⟨.t 22,.mv (.x 4),some (.t 21,false)⟩,⟨.t 23,.len 1 (.t 22),some (.t 21,false)⟩,⟨.t 24,.bin .gtr (.t 23) (.c (.int .i64 1024)),some (.t 21,false)⟩,⟨.x 25,.pick (.t 21) (.c (.bool true)) (.t 24),none⟩]) (.cond (.x 25) (.seq (.reg [⟨.x 2,.mv (.c .nils),none⟩,⟨.x 3,.mv (.c (.int .i64 3)),none⟩]) .ret) .skip)) (.seq (.reg [⟨.x 6,.mv (.c .nils),none⟩]) (.seq (.seq (.reg [⟨.x 26,.mv (.x 4),none⟩,⟨.x 27,.len 1 (.x 26),none⟩,⟨.x 28,.mv (.c (.int .i64 0)),none⟩]) (.block 0 (.loop (.seq (.reg [⟨.x 29,.bin .lss (.x 28) (.x 27),none⟩]) (.seq (.cond (.x 29) .skip (.exit 0)) (.seq (.block 1 (.seq (.reg [⟨.t 30,.iad 1 (.x 26) (.x 28),none⟩,⟨.t 31,.ld (.t 30),none⟩,⟨.x 8,.mv (.t 31),none⟩]) (.seq (.reg [⟨.x 9,.mv (.c .nils),none⟩]) (.seq (.seq (.reg [⟨.t 32,.mv (.x 8),none⟩,⟨.x 33,.call 57 [.t 32,(.c (.str [32]))],none⟩,⟨.x 34,.len 1 (.x 33),none⟩,⟨.x 35,.mv (.c (.int .i64 0)),none⟩]) (.block 2 (.loop (.seq (.reg [⟨.x 36,.bin .lss (.x 35) (.x 34),none⟩]) (.seq (.cond (.x 36) .skip (.exit 2)) (.seq (.block 3 (.seq (.reg [⟨.t 37,.iad 1 (.x 33) (.x 35),none⟩,⟨.t 38,.ld (.t 37),none⟩,⟨.x 11,.mv (.t 38),none⟩]) (.seq (.reg [⟨.t 39,.mv (.x 11),none⟩,⟨.x 40,.bin .neq (.t 39) (.c (.str [])),none⟩]) (.cond (.x 40) (.reg [⟨.t 41,.mv (.x 9),none⟩,⟨.t 42,.mv (.x 11),none⟩,⟨.t 43,.bsl 1 [(.str [])] [(0,1,.t 42)],none⟩,⟨.t 44,.app 9 1 16 (.t 41) (.t 43),none⟩,⟨.x 9,.mv (.t 44),none⟩]) .skip)))) (.reg [⟨.t 45,.bin .add (.x 35) (.c (.int .i64 1)),none⟩,⟨.x 35,.mv (.t 45),none⟩]))))))) (.reg [⟨.t 46,.mv (.x 6),none⟩,⟨.t 47,.mv (.x 9),none⟩,⟨.t 48,.bsl 1 [.nils] [(0,1,.t 47)],none⟩,⟨.t 49,.app 39 1 24 (.t 46) (.t 48),none⟩,⟨.x 6,.mv (.t 49),none⟩]))))) (.reg [⟨.t 50,.bin .add (.x 28) (.c (.int .i64 1)),none⟩,⟨.x 28,.mv (.t 50),none⟩]))))))) (.seq (.seq (.reg [⟨.t 52,.mv (.x 6),none⟩,⟨.t 53,.call 29 [.t 52],none⟩,⟨.t 51,.mv (.t 53),none⟩,⟨.t 54,.ext (.t 51) 0,none⟩,⟨.t 55,.ext (.t 51) 1,none⟩,⟨.x 12,.mv (.t 54),none⟩,⟨.x 13,.mv (.t 55),none⟩]) (.seq (.reg [⟨.t 56,.mv (.x 13),none⟩,⟨.t 57,.bin .neq (.t 56) (.c (.int .i64 0)),none⟩,⟨.t 58,.mv (.t 57),none⟩,⟨.t 59,.mv (.x 12),some (.t 58,false)⟩,⟨.t 60,.mv (.x 0),some (.t 58,false)⟩,⟨.t 61,.bin .neq (.t 59) (.t 60),some (.t 58,false)⟩,⟨.x 62,.pick (.t 58) (.c (.bool true)) (.t 61),none⟩]) (.cond (.x 62) (.seq (.reg [⟨.x 2,.mv (.c .nils),none⟩,⟨.x 3,.mv (.c (.int .i64 3)),none⟩]) .ret) .skip))) (.seq (.reg [⟨.t 63,.mv (.x 6),none⟩,⟨.x 2,.mv (.t 63),none⟩,⟨.x 3,.mv (.c (.int .i64 0)),none⟩]) .ret)))))))
def resrpParse : List RV := [.t 2, .t 3]
theorem isrpParse : IsFn fnrpParse 30 coderpParse resrpParse := ⟨⟨Tryz.f30, _, Tryz.func30, rfl, rfl, by kernel_rfl, by kernel_rfl, by kernel_rfl⟩⟩
noncomputable def fnpFraction : FnD := ⟨Tryz.prog,[0,1,4],[],10,false⟩
def codepFraction : DC := (.seq (.reg [⟨.x 4,.alloc [(.bool false),.nils,.nils],none⟩]) (.seq (.reg [⟨.t 5,.mv (.x 0),none⟩,⟨.t 6,.call 59 [.t 5],none⟩,⟨.t 7,.mv (.x 1),none⟩,⟨.t 8,.call 59 [.t 7],none⟩,⟨.t 9,.call 58 [.t 6,.t 8],none⟩,⟨.no,.stn 3 (.x 4) (.t 9),none⟩]) .ret))
def respFraction : List RV := [.cn 3 4]
theorem ispFraction : IsFn fnpFraction 34 codepFraction respFraction := ⟨⟨Tryz.f34, _, Tryz.func34, rfl, rfl, by kernel_rfl, by kernel_rfl, by kernel_rfl⟩⟩
noncomputable def fnrpWords : FnD := ⟨Tryz.prog,[0],[],2,false⟩
def coderpWords : DC := (.seq (.reg [⟨.x 0,.mv (.c .nils),none⟩]) (.seq (.reg [⟨.t 1,.bsl 1 [(.str []),(.str []),(.str []),(.str []),(.str []),(.str [])] [(0,1,(.c (.str [115,116,97,116,105,115,116,105,99]))),(1,1,(.c (.str [109,101,97,110]))),(2,1,(.c (.str [118,97,114,105,97,110,99,101]))),(3,1,(.c (.str [108,101,115,115]))),(4,1,(.c (.str [103,114,101,97,116,101,114]))),(5,1,(.c (.str [116,119,111])))],none⟩,⟨.x 0,.mv (.t 1),none⟩]) .ret))
def resrpWords : List RV := [.t 0]
theorem isrpWords : IsFn fnrpWords 38 coderpWords resrpWords := ⟨⟨Tryz.f38, _, Tryz.func38, rfl, rfl, by kernel_rfl, by kernel_rfl, by kernel_rfl⟩⟩
noncomputable def fnwMod : FnD := ⟨Tryz.prog,[0,1,4,5,10],[],15,false⟩
def codewMod : DC := (.seq (.reg [⟨.x 4,.mv (.c (.int .i64 0)),none⟩]) (.seq (.reg [⟨.t 6,.mv (.x 0),none⟩,⟨.t 7,.mv (.x 1),none⟩,⟨.t 8,.bin .rem (.t 6) (.t 7),none⟩,⟨.x 5,.mv (.t 8),none⟩]) (.seq (.seq (.reg [⟨.t 9,.mv (.x 5),none⟩,⟨.x 10,.bin .lss (.t 9) (.c (.int .i64 0)),none⟩]) (.cond (.x 10) (.reg [⟨.t 11,.mv (.x 5),none⟩,⟨.t 12,.mv (.x 1),none⟩,⟨.t 13,.bin .add (.t 11) (.t 12),none⟩,⟨.x 5,.mv (.t 13),none⟩]) .skip)) (.seq (.reg [⟨.t 14,.mv (.x 5),none⟩,⟨.x 4,.mv (.t 14),none⟩]) .ret))))
def reswMod : List RV := [.t 4]
theorem iswMod : IsFn fnwMod 43 codewMod reswMod := ⟨⟨Tryz.f43, _, Tryz.func43, rfl, rfl, by kernel_rfl, by kernel_rfl, by kernel_rfl⟩⟩
noncomputable def fniFormat : FnD := ⟨Tryz.prog,[0,1,2,3,10],[],14,false⟩
def codeiFormat : DC := (.seq (.reg [⟨.x 1,.box (.x 0),none⟩,⟨.x 2,.mv (.c (.str [])),none⟩]) (.seq (.reg [⟨.t 4,.ldn 2 (.x 1),none⟩,⟨.t 5,.call 110 [.t 4],none⟩,⟨.t 6,.fld 1 (.t 5),none⟩,⟨.t 7,.call 63 [.t 6],none⟩,⟨.x 3,.mv (.t 7),none⟩]) (.seq (.seq (.reg [⟨.t 8,.ldn 2 (.x 1),none⟩,⟨.t 9,.call 111 [.t 8],none⟩,⟨.x 10,.bin .lss (.t 9) (.c (.int .i64 0)),none⟩]) (.cond (.x 10) (.seq (.reg [⟨.t 11,.mv (.x 3),none⟩,⟨.t 12,.bin .add (.c (.str [45])) (.t 11),none⟩,⟨.x 2,.mv (.t 12),none⟩]) .ret) .skip)) (.seq (.reg [⟨.t 13,.mv (.x 3),none⟩,⟨.x 2,.mv (.t 13),none⟩]) .ret))))
def resiFormat : List RV := [.t 2]
theorem nbiFormat : fniFormat.nb = 0 := rfl
theorem isiFormat : IsFn fniFormat 62 codeiFormat resiFormat := ⟨⟨Tryz.f62, _, Tryz.func62, rfl, rfl, by kernel_rfl, by kernel_rfl, by kernel_rfl⟩⟩
noncomputable def fnq_den : FnD := ⟨Tryz.prog,[0,1,2,6],[],10,false⟩
def codeq_den : DC := (.seq (.reg [⟨.x 1,.box (.x 0),none⟩,⟨.x 2,.mv (.c .nils),none⟩]) (.seq (.seq (.reg [⟨.t 3,.fad 2 (.x 1),none⟩,⟨.t 4,.ld (.t 3),none⟩,⟨.t 5,.len 1 (.t 4),none⟩,⟨.x 6,.bin .eql (.t 5) (.c (.int .i64 0)),none⟩]) (.cond (.x 6) (.seq (.reg [⟨.t 7,.call 83 [],none⟩,⟨.x 2,.mv (.t 7),none⟩]) .ret) .skip)) (.seq (.reg [⟨.t 8,.fad 2 (.x 1),none⟩,⟨.t 9,.ld (.t 8),none⟩,⟨.x 2,.mv (.t 9),none⟩]) .ret)))
def resq_den : List RV := [.t 2]
theorem nbq_den : fnq_den.nb = 0 := rfl
theorem isq_den : IsFn fnq_den 80 codeq_den resq_den := ⟨⟨Tryz.f80, _, Tryz.func80, rfl, rfl, by kernel_rfl, by kernel_rfl, by kernel_rfl⟩⟩
noncomputable def fnsSign : FnD := ⟨Tryz.prog,[0,1,2,5,8],[],13,false⟩
def codesSign : DC := (.seq (.reg [⟨.x 1,.box (.x 0),none⟩,⟨.x 2,.mv (.c (.int .i64 0)),none⟩]) (.seq (.reg [⟨.t 3,.ldn 2 (.x 1),none⟩,⟨.t 4,.call 118 [.t 3],none⟩,⟨.no,.stn 2 (.x 1) (.t 4),none⟩]) (.seq (.block 0 (.seq (.reg [⟨.t 6,.fad 0 (.x 1),none⟩,⟨.t 7,.ld (.t 6),none⟩,⟨.x 5,.mv (.t 7),none⟩]) (.cond (.x 5) (.seq (.reg [⟨.x 2,.mv (.c (.int .i64 (-1))),none⟩]) .ret) (.seq (.reg [⟨.t 9,.fad 1 (.x 1),none⟩,⟨.t 10,.ld (.t 9),none⟩,⟨.t 11,.len 1 (.t 10),none⟩,⟨.t 12,.bin .gtr (.t 11) (.c (.int .i64 0)),none⟩,⟨.x 8,.mv (.t 12),none⟩]) (.cond (.x 8) (.seq (.reg [⟨.x 2,.mv (.c (.int .i64 1)),none⟩]) .ret) .skip))))) (.seq (.reg [⟨.x 2,.mv (.c (.int .i64 0)),none⟩]) .ret))))
def ressSign : List RV := [.t 2]
theorem nbsSign : fnsSign.nb = 0 := rfl
theorem issSign : IsFn fnsSign 92 codesSign ressSign := ⟨⟨Tryz.f92, _, Tryz.func92, rfl, rfl, by kernel_rfl, by kernel_rfl, by kernel_rfl⟩⟩
noncomputable def fnsDiv : FnD := ⟨Tryz.prog,[0,1,2,3,4,5,6,7,8,9,24,33],[],53,false⟩
def codesDiv : DC := (.seq (.reg [⟨.x 2,.box (.x 0),none⟩,⟨.x 3,.box (.x 1),none⟩,⟨.x 4,.alloc [(.bool false),.nils],none⟩,⟨.x 5,.alloc [(.bool false),.nils],none⟩,⟨.x 6,.mv (.c (.bool false)),none⟩]) (.seq (.regd [⟨.t 10,.ldn 2 (.x 2),none⟩,⟨.t 11,.call 118 [.t 10],none⟩,⟨.t 12,.ldn 2 (.x 3),none⟩,⟨.t 13,.call 118 [.t 12],none⟩,⟨.no,.stn 2 (.x 2) (.t 11),none⟩,⟨.no,.stn 2 (.x 3) (.t 13),none⟩]) (.seq (.reg [⟨.t 15,.fad 1 (.x 2),none⟩,⟨.t 16,.ld (.t 15),none⟩,⟨.t 17,.fad 1 (.x 3),none⟩,⟨.t 18,.ld (.t 17),none⟩,⟨.t 19,.call 120 [.t 16,.t 18],none⟩,⟨.t 14,.mv (.t 19),none⟩,⟨.t 20,.ext (.t 14) 0,none⟩,⟨.t 21,.ext (.t 14) 1,none⟩,⟨.t 22,.ext (.t 14) 2,none⟩,⟨.x 7,.mv (.t 20),none⟩,⟨.x 8,.mv (.t 21),none⟩,⟨.x 9,.mv (.t 22),none⟩]) (.seq (.seq (.reg [⟨.t 23,.mv (.x 9),none⟩,⟨.x 24,.un .not (.t 23),none⟩]) (.cond (.x 24) (.seq (.reg [⟨.t 25,.build [(.bool false),.nils] [],none⟩,⟨.t 26,.build [(.bool false),.nils] [],none⟩,⟨.no,.stn 2 (.x 4) (.t 25),none⟩,⟨.no,.stn 2 (.x 5) (.t 26),none⟩,⟨.x 6,.mv (.c (.bool false)),none⟩]) .ret) .skip)) (.seq (.seq (.reg [⟨.t 27,.fad 0 (.x 2),none⟩,⟨.t 28,.ld (.t 27),none⟩,⟨.t 29,.mv (.t 28),none⟩,⟨.t 30,.mv (.x 8),some (.t 29,true)⟩,⟨.t 31,.len 1 (.t 30),some (.t 29,true)⟩,⟨.t 32,.bin .gtr (.t 31) (.c (.int .i64 0)),some (.t 29,true)⟩,⟨.x 33,.pick (.t 29) (.t 32) (.c (.bool false)),none⟩]) (.cond (.x 33) (.seq (.reg [⟨.t 34,.mv (.x 7),none⟩,⟨.t 35,.bsl 1 [(.int .u32 0)] [(0,1,(.c (.int .u32 1)))],none⟩,⟨.t 36,.call 106 [.t 34,.t 35],none⟩,⟨.x 7,.mv (.t 36),none⟩]) (.reg [⟨.t 38,.fad 1 (.x 3),none⟩,⟨.t 39,.ld (.t 38),none⟩,⟨.t 40,.mv (.x 8),none⟩,⟨.t 41,.call 145 [.t 39,.t 40],none⟩,⟨.t 37,.mv (.t 41),none⟩,⟨.t 42,.ext (.t 37) 0,none⟩,⟨.t 43,.ext (.t 37) 1,none⟩,⟨.x 8,.mv (.t 42),none⟩])) .skip)) (.seq (.reg [⟨.t 44,.fad 0 (.x 2),none⟩,⟨.t 45,.ld (.t 44),none⟩,⟨.t 46,.fad 0 (.x 3),none⟩,⟨.t 47,.ld (.t 46),none⟩,⟨.t 48,.beq true (.t 45) (.t 47),none⟩,⟨.t 49,.mv (.x 7),none⟩,⟨.t 50,.call 105 [.t 48,.t 49],none⟩,⟨.t 51,.mv (.x 8),none⟩,⟨.t 52,.call 105 [(.c (.bool false)),.t 51],none⟩,⟨.no,.stn 2 (.x 4) (.t 50),none⟩,⟨.no,.stn 2 (.x 5) (.t 52),none⟩,⟨.x 6,.mv (.c (.bool true)),none⟩]) .ret))))))
def ressDiv : List RV := [.cn 2 4, .cn 2 5, .t 6]
theorem nbsDiv : fnsDiv.nb = 0 := rfl
theorem issDiv : IsFn fnsDiv 103 codesDiv ressDiv := ⟨⟨Tryz.f103, _, Tryz.func103, rfl, rfl, by kernel_rfl, by kernel_rfl, by kernel_rfl⟩⟩
noncomputable def fnrFromUint : FnD := ⟨Tryz.prog,[0,2],[],10,false⟩
def coderFromUint : DC := (.seq (.reg [⟨.x 2,.mv (.c .nils),none⟩]) (.seq (.reg [⟨.t 3,.mv (.x 0),none⟩,⟨.t 4,.conv .u32 (.t 3),none⟩,⟨.t 5,.mv (.x 0),none⟩,⟨.t 6,.bin .shr (.t 5) (.c (.int .u64 32)),none⟩,⟨.t 7,.conv .u32 (.t 6),none⟩,⟨.t 8,.bsl 1 [(.int .u32 0),(.int .u32 0)] [(0,1,.t 4),(1,1,.t 7)],none⟩,⟨.t 9,.call 153 [.t 8],none⟩,⟨.x 2,.mv (.t 9),none⟩]) .ret))
def resrFromUint : List RV := [.t 2]
theorem isrFromUint : IsFn fnrFromUint 107 coderFromUint resrFromUint := ⟨⟨Tryz.f107, _, Tryz.func107, rfl, rfl, by kernel_rfl, by kernel_rfl, by kernel_rfl⟩⟩
noncomputable def fnnValue : FnD := ⟨Tryz.prog,[0,2,4],[],6,false⟩
def codenValue : DC := (.seq (.reg [⟨.x 2,.mv (.c .nils),none⟩]) (.seq (.seq (.reg [⟨.t 3,.mv (.x 0),none⟩,⟨.x 4,.call 155 [.t 3],none⟩]) (.cond (.x 4) (.seq (.reg [⟨.t 5,.mv (.x 0),none⟩,⟨.x 2,.mv (.t 5),none⟩]) .ret) .skip)) (.seq (.reg [⟨.x 2,.mv (.c .nils),none⟩]) .ret)))
def resnValue : List RV := [.t 2]
theorem isnValue : IsFn fnnValue 112 codenValue resnValue := ⟨⟨Tryz.f112, _, Tryz.func112, rfl, rfl, by kernel_rfl, by kernel_rfl, by kernel_rfl⟩⟩
noncomputable def fnrDiv : FnD := ⟨Tryz.prog,[0,1,4,5,6,7,8,9,10,11,18,24,38],[],46,false⟩
def coderDiv : DC := (.seq (.reg [⟨.x 4,.mv (.c .nils),none⟩,⟨.x 5,.mv (.c .nils),none⟩,⟨.x 6,.mv (.c (.bool false)),none⟩]) (.seq (.reg [⟨.t 12,.mv (.x 0),none⟩,⟨.t 13,.call 119 [.t 12],none⟩,⟨.t 14,.mv (.x 1),none⟩,⟨.t 15,.call 119 [.t 14],none⟩,⟨.x 0,.mv (.t 13),none⟩,⟨.x 1,.mv (.t 15),none⟩]) (.seq (.seq (.reg [⟨.t 16,.mv (.x 1),none⟩,⟨.t 17,.len 1 (.t 16),none⟩,⟨.x 18,.bin .eql (.t 17) (.c (.int .i64 0)),none⟩]) (.cond (.x 18) (.seq (.reg [⟨.x 4,.mv (.c .nils),none⟩,⟨.x 5,.mv (.c .nils),none⟩,⟨.x 6,.mv (.c (.bool false)),none⟩]) .ret) .skip)) (.seq (.reg [⟨.x 7,.mv (.c .nils),none⟩,⟨.x 8,.mv (.c .nils),none⟩]) (.seq (.seq (.reg [⟨.t 19,.mv (.x 0),none⟩,⟨.t 20,.len 1 (.t 19),none⟩,⟨.t 21,.bin .mul (.c (.int .i64 32)) (.t 20),none⟩,⟨.t 22,.bin .sub (.t 21) (.c (.int .i64 1)),none⟩,⟨.x 9,.mv (.t 22),none⟩]) (.block 0 (.loop (.seq (.seq (.reg [⟨.t 23,.mv (.x 9),none⟩,⟨.x 24,.bin .geq (.t 23) (.c (.int .i64 0)),none⟩]) (.cond (.x 24) .skip (.exit 0))) (.seq (.block 1 (.seq (.reg [⟨.t 27,.mv (.x 8),none⟩,⟨.t 28,.mv (.x 0),none⟩,⟨.t 29,.mv (.x 9),none⟩,⟨.t 30,.call 161 [.t 28,.t 29],none⟩,⟨.t 31,.call 160 [.t 27,.t 30],none⟩,⟨.x 8,.mv (.t 31),none⟩]) (.seq (.reg [⟨.t 33,.mv (.x 8),none⟩,⟨.t 34,.mv (.x 1),none⟩,⟨.t 35,.call 145 [.t 33,.t 34],none⟩,⟨.t 32,.mv (.t 35),none⟩,⟨.t 36,.ext (.t 32) 0,none⟩,⟨.t 37,.ext (.t 32) 1,none⟩,⟨.x 10,.mv (.t 36),none⟩,⟨.x 11,.mv (.t 37),none⟩]) (.seq (.reg [⟨.x 38,.mv (.x 11),none⟩]) (.cond (.x 38) (.reg [⟨.t 39,.mv (.x 10),none⟩,⟨.t 40,.mv (.x 7),none⟩,⟨.t 41,.call 160 [.t 40,(.c (.int .u32 1))],none⟩,⟨.x 8,.mv (.t 39),none⟩,⟨.x 7,.mv (.t 41),none⟩]) (.reg [⟨.t 42,.mv (.x 7),none⟩,⟨.t 43,.call 160 [.t 42,(.c (.int .u32 0))],none⟩,⟨.x 7,.mv (.t 43),none⟩])))))) (.reg [⟨.t 25,.mv (.x 9),none⟩,⟨.t 26,.bin .sub (.t 25) (.c (.int .i64 1)),none⟩,⟨.x 9,.mv (.t 26),none⟩])))))) (.seq (.reg [⟨.t 44,.mv (.x 7),none⟩,⟨.t 45,.mv (.x 8),none⟩,⟨.x 4,.mv (.t 44),none⟩,⟨.x 5,.mv (.t 45),none⟩,⟨.x 6,.mv (.c (.bool true)),none⟩]) .ret))))))
def resrDiv : List RV := [.t 4, .t 5, .t 6]
theorem isrDiv : IsFn fnrDiv 120 coderDiv resrDiv := ⟨⟨Tryz.f120, _, Tryz.func120, rfl, rfl, by kernel_rfl, by kernel_rfl, by kernel_rfl⟩⟩
noncomputable def fnnParse : FnD := ⟨Tryz.prog,[0,2,3,4,5,6,7,9,26,33,41,47,48,49,50,58],[],74,false⟩
def codenParse : DC := (.seq (.reg [⟨.x 2,.mv (.c .nils),none⟩,⟨.x 3,.mv (.c (.bool false)),none⟩]) (.seq (.seq (.reg [⟨.t 10,.mv (.x 0),none⟩,⟨.t 11,.bin .eql (.t 10) (.c (.str [])),none⟩,⟨.t 12,.mv (.t 11),none⟩,⟨.t 13,.mv (.x 0),some (.t 12,false)⟩,⟨.t 14,.lenS (.t 13),some (.t 12,false)⟩,⟨.t 15,.bin .gtr (.t 14) (.c (.int .i64 4000)),some (.t 12,false)⟩,⟨.t 16,.pick (.t 12) (.c (.bool true)) (.t 15),none⟩,⟨.t 17,.mv (.t 16),none⟩,⟨.t 18,.mv (.x 0),some (.t 17,false)⟩,⟨.t 19,.idx (.t 18) (.c (.int .i64 0)),some (.t 17,false)⟩,⟨.t 20,.bin .eql (.t 19) (.c (.int .u8 48)),some (.t 17,false)⟩,⟨.t 21,.mv (.t 20),some (.t 17,false)⟩,⟨.t 22,.mv (.x 0),some (.t 21,true)⟩,⟨.t 23,.lenS (.t 22),some (.t 21,true)⟩,⟨.t 24,.bin .gtr (.t 23) (.c (.int .i64 1)),some (.t 21,true)⟩,⟨.t 25,.pick (.t 21) (.t 24) (.c (.bool false)),some (.t 17,false)⟩,⟨.x 26,.pick (.t 17) (.c (.bool true)) (.t 25),none⟩]) (.cond (.x 26) (.seq (.reg [⟨.x 2,.mv (.c .nils),none⟩,⟨.x 3,.mv (.c (.bool false)),none⟩]) .ret) .skip)) (.seq (.reg [⟨.t 27,.mv (.x 0),none⟩,⟨.t 28,.lenS (.t 27),none⟩,⟨.t 29,.bin .rem (.t 28) (.c (.int .i64 9)),none⟩,⟨.x 4,.mv (.t 29),none⟩]) (.seq (.seq (.reg [⟨.x 5,.mv (.c (.int .i64 0)),none⟩]) (.block 0 (.loop (.seq (.seq (.reg [⟨.t 30,.mv (.x 5),none⟩,⟨.t 31,.mv (.x 0),none⟩,⟨.t 32,.lenS (.t 31),none⟩,⟨.x 33,.bin .lss (.t 30) (.t 32),none⟩]) (.cond (.x 33) .skip (.exit 0))) (.block 1 (.seq (.reg [⟨.t 34,.mv (.x 5),none⟩,⟨.t 35,.bin .add (.t 34) (.c (.int .i64 9)),none⟩,⟨.x 6,.mv (.t 35),none⟩]) (.seq (.seq (.reg [⟨.t 36,.mv (.x 5),none⟩,⟨.t 37,.bin .eql (.t 36) (.c (.int .i64 0)),none⟩,⟨.t 38,.mv (.t 37),none⟩,⟨.t 39,.mv (.x 4),some (.t 38,true)⟩,⟨.t 40,.bin .gtr (.t 39) (.c (.int .i64 0)),some (.t 38,true)⟩,⟨.x 41,.pick (.t 38) (.t 40) (.c (.bool false)),none⟩]) (.cond (.x 41) (.reg [⟨.t 42,.mv (.x 4),none⟩,⟨.x 6,.mv (.t 42),none⟩]) .skip)) (.seq (.reg [⟨.x 7,.mv (.c (.int .u64 0)),none⟩]) (.seq (.seq (.reg [⟨.t 43,.mv (.x 0),none⟩,⟨.t 44,.mv (.x 5),none⟩,⟨.t 45,.mv (.x 6),none⟩,⟨.t 46,.slcS (.t 43) (some (.t 44)) (some (.t 45)),none⟩,⟨.x 47,.s2b (.t 46),none⟩,⟨.x 48,.len 1 (.x 47),none⟩,⟨.x 49,.mv (.c (.int .i64 0)),none⟩]) (.block 2 (.loop (.seq (.reg [⟨.x 50,.bin .lss (.x 49) (.x 48),none⟩]) (.seq (.cond (.x 50) .skip (.exit 2)) (.seq (.block 3 (.seq (.reg [⟨.t 51,.iad 1 (.x 47) (.x 49),none⟩,⟨.t 52,.ld (.t 51),none⟩,⟨.x 9,.mv (.t 52),none⟩]) (.seq (.seq (.reg [⟨.t 53,.mv (.x 9),none⟩,⟨.t 54,.bin .lss (.t 53) (.c (.int .u8 48)),none⟩,⟨.t 55,.mv (.t 54),none⟩,⟨.t 56,.mv (.x 9),some (.t 55,false)⟩,⟨.t 57,.bin .gtr (.t 56) (.c (.int .u8 57)),some (.t 55,false)⟩,⟨.x 58,.pick (.t 55) (.c (.bool true)) (.t 57),none⟩]) (.cond (.x 58) (.seq (.reg [⟨.x 2,.mv (.c .nils),none⟩,⟨.x 3,.mv (.c (.bool false)),none⟩]) .ret) .skip)) (.reg [⟨.t 59,.mv (.x 7),none⟩,⟨.t 60,.bin .mul (.c (.int .u64 10)) (.t 59),none⟩,⟨.t 61,.mv (.x 9),none⟩,⟨.t 62,.bin .sub (.t 61) (.c (.int .u8 48)),none⟩,⟨.t 63,.conv .u64 (.t 62),none⟩,⟨.t 64,.bin .add (.t 60) (.t 63),none⟩,⟨.x 7,.mv (.t 64),none⟩])))) (.reg [⟨.t 65,.bin .add (.x 49) (.c (.int .i64 1)),none⟩,⟨.x 49,.mv (.t 65),none⟩]))))))) (.seq (.reg [⟨.t 66,.mv (.x 2),none⟩,⟨.t 67,.bsl 1 [(.int .u32 0)] [(0,1,(.c (.int .u32 1000000000)))],none⟩,⟨.t 68,.call 78 [.t 66,.t 67],none⟩,⟨.t 69,.mv (.x 7),none⟩,⟨.t 70,.call 137 [.t 69],none⟩,⟨.t 71,.call 82 [.t 68,.t 70],none⟩,⟨.x 2,.mv (.t 71),none⟩]) (.reg [⟨.t 72,.mv (.x 6),none⟩,⟨.x 5,.mv (.t 72),none⟩]))))))))))) (.seq (.reg [⟨.t 73,.mv (.x 2),none⟩,⟨.x 2,.mv (.t 73),none⟩,⟨.x 3,.mv (.c (.bool true)),none⟩]) .ret)))))
def resnParse : List RV := [.t 2, .t 3]
theorem isnParse : IsFn fnnParse 125 codenParse resnParse := ⟨⟨Tryz.f125, _, Tryz.func125, rfl, rfl, by kernel_rfl, by kernel_rfl, by kernel_rfl⟩⟩
noncomputable def fnnGcd : FnD := ⟨Tryz.prog,[0,1,4,5,6,7,8,10,18,32],[],48,false⟩
def codenGcd : DC := (.seq (.reg [⟨.x 4,.mv (.c .nils),none⟩]) (.seq (.reg [⟨.t 12,.mv (.x 0),none⟩,⟨.t 13,.call 112 [.t 12],none⟩,⟨.t 14,.mv (.x 1),none⟩,⟨.t 15,.call 112 [.t 14],none⟩,⟨.x 0,.mv (.t 13),none⟩,⟨.x 1,.mv (.t 15),none⟩]) (.seq (.block 0 (.loop (.seq (.seq (.reg [⟨.t 16,.mv (.x 1),none⟩,⟨.t 17,.len 1 (.t 16),none⟩,⟨.x 18,.bin .gtr (.t 17) (.c (.int .i64 0)),none⟩]) (.cond (.x 18) .skip (.exit 0))) (.block 1 (.seq (.reg [⟨.t 20,.mv (.x 0),none⟩,⟨.t 21,.call 167 [.t 20],none⟩,⟨.t 19,.mv (.t 21),none⟩,⟨.t 22,.ext (.t 19) 0,none⟩,⟨.t 23,.ext (.t 19) 1,none⟩,⟨.x 5,.mv (.t 22),none⟩,⟨.x 6,.mv (.t 23),none⟩]) (.seq (.seq (.reg [⟨.t 25,.mv (.x 1),none⟩,⟨.t 26,.call 167 [.t 25],none⟩,⟨.t 24,.mv (.t 26),none⟩,⟨.t 27,.ext (.t 24) 0,none⟩,⟨.t 28,.ext (.t 24) 1,none⟩,⟨.x 7,.mv (.t 27),none⟩,⟨.x 8,.mv (.t 28),none⟩]) (.seq (.reg [⟨.t 29,.mv (.x 6),none⟩,⟨.t 30,.mv (.t 29),none⟩,⟨.t 31,.mv (.x 8),some (.t 30,true)⟩,⟨.x 32,.pick (.t 30) (.t 31) (.c (.bool false)),none⟩]) (.cond (.x 32) (.seq (.reg [⟨.t 33,.mv (.x 5),none⟩,⟨.t 34,.mv (.x 7),none⟩,⟨.t 35,.call 169 [.t 33,.t 34],none⟩,⟨.t 36,.call 137 [.t 35],none⟩,⟨.x 4,.mv (.t 36),none⟩]) .ret) .skip))) (.seq (.reg [⟨.t 38,.mv (.x 0),none⟩,⟨.t 39,.mv (.x 1),none⟩,⟨.t 40,.call 77 [.t 38,.t 39],none⟩,⟨.t 37,.mv (.t 40),none⟩,⟨.t 41,.ext (.t 37) 0,none⟩,⟨.t 42,.ext (.t 37) 1,none⟩,⟨.t 43,.ext (.t 37) 2,none⟩,⟨.t 9,.mv (.t 41),none⟩,⟨.x 10,.mv (.t 42),none⟩,⟨.t 11,.mv (.t 43),none⟩]) (.reg [⟨.t 44,.mv (.x 1),none⟩,⟨.t 45,.mv (.x 10),none⟩,⟨.x 0,.mv (.t 44),none⟩,⟨.x 1,.mv (.t 45),none⟩])))))))) (.seq (.reg [⟨.t 46,.mv (.x 0),none⟩,⟨.t 47,.call 136 [.t 46],none⟩,⟨.x 4,.mv (.t 47),none⟩]) .ret))))
def resnGcd : List RV := [.t 4]
theorem isnGcd : IsFn fnnGcd 130 codenGcd resnGcd := ⟨⟨Tryz.f130, _, Tryz.func130, rfl, rfl, by kernel_rfl, by kernel_rfl, by kernel_rfl⟩⟩
noncomputable def fnnDivide : FnD := ⟨Tryz.prog,[0,1,4,5,6,7,8,9,10,11,12,39,82,102,103,104],[],130,false⟩
def codenDivide : DC := (.seq (.reg [⟨.x 4,.mv (.c .nils),none⟩,⟨.x 5,.mv (.c .nils),none⟩]) (.seq (.reg [⟨.t 13,.mv (.x 1),none⟩,⟨.t 14,.mv (.x 1),none⟩,⟨.t 15,.len 1 (.t 14),none⟩,⟨.t 16,.bin .sub (.t 15) (.c (.int .i64 1)),none⟩,⟨.t 17,.iad 1 (.t 13) (.t 16),none⟩,⟨.t 18,.ld (.t 17),none⟩,⟨.t 19,.call 170 [.t 18],none⟩,⟨.t 20,.mv (.x 1),none⟩,⟨.t 21,.len 1 (.t 20),none⟩,⟨.x 6,.mv (.t 19),none⟩,⟨.x 7,.mv (.t 21),none⟩]) (.seq (.reg [⟨.t 22,.mv (.x 0),none⟩,⟨.t 23,.mv (.x 6),none⟩,⟨.t 24,.call 171 [.t 22,.t 23],none⟩,⟨.t 25,.mv (.x 1),none⟩,⟨.t 26,.mv (.x 6),none⟩,⟨.t 27,.call 171 [.t 25,.t 26],none⟩,⟨.t 28,.call 139 [.t 27],none⟩,⟨.x 8,.mv (.t 24),none⟩,⟨.x 9,.mv (.t 28),none⟩]) (.seq (.reg [⟨.t 29,.mv (.x 0),none⟩,⟨.t 30,.len 1 (.t 29),none⟩,⟨.t 31,.mv (.x 7),none⟩,⟨.t 32,.bin .sub (.t 30) (.t 31),none⟩,⟨.t 33,.bin .add (.t 32) (.c (.int .i64 1)),none⟩,⟨.t 34,.mks 1 4 [(.int .u32 0)] (.t 33) (.t 33),none⟩,⟨.x 4,.mv (.t 34),none⟩]) (.seq (.seq (.reg [⟨.t 35,.mv (.x 4),none⟩,⟨.t 36,.len 1 (.t 35),none⟩,⟨.t 37,.bin .sub (.t 36) (.c (.int .i64 1)),none⟩,⟨.x 10,.mv (.t 37),none⟩]) (.block 0 (.loop (.seq (.seq (.reg [⟨.t 38,.mv (.x 10),none⟩,⟨.x 39,.bin .geq (.t 38) (.c (.int .i64 0)),none⟩]) (.cond (.x 39) .skip (.exit 0))) (.seq (.block 1 (.seq (.regd [⟨.t 42,.mv (.x 8),none⟩,⟨.t 43,.mv (.x 10),none⟩,⟨.t 44,.mv (.x 7),none⟩,⟨.t 45,.bin .add (.t 43) (.t 44),none⟩,⟨.t 46,.iad 1 (.t 42) (.t 45),none⟩,⟨.t 47,.ld (.t 46),none⟩,⟨.t 48,.mv (.x 8),none⟩,⟨.t 49,.mv (.x 10),none⟩,⟨.t 50,.mv (.x 7),none⟩,⟨.t 51,.bin .add (.t 49) (.t 50),none⟩,⟨.t 52,.bin .sub (.t 51) (.c (.int .i64 1)),none⟩,⟨.t 53,.iad 1 (.t 48) (.t 52),none⟩,⟨.t 54,.ld (.t 53),none⟩,⟨.t 55,.mv (.x 8),none⟩,⟨.t 56,.mv (.x 10),none⟩,⟨.t 57,.mv (.x 7),none⟩,⟨.t 58,.bin .add (.t 56) (.t 57),none⟩,⟨.t 59,.bin .sub (.t 58) (.c (.int .i64 2)),none⟩,⟨.t 60,.iad 1 (.t 55) (.t 59),none⟩,⟨.t 61,.ld (.t 60),none⟩,⟨.t 62,.mv (.x 9),none⟩,⟨.t 63,.mv (.x 7),none⟩,⟨.t 64,.bin .sub (.t 63) (.c (.int .i64 1)),none⟩,⟨.t 65,.iad 1 (.t 62) (.t 64),none⟩,⟨.t 66,.ld (.t 65),none⟩,⟨.t 67,.mv (.x 9),none⟩,⟨.t 68,.mv (.x 7),none⟩,⟨.t 69,.bin .sub (.t 68) (.c (.int .i64 2)),none⟩,⟨.t 70,.iad 1 (.t 67) (.t 69),none⟩,⟨.t 71,.ld (.t 70),none⟩,⟨.t 72,.call 172 [.t 47,.t 54,.t 61,.t 66,.t 71],none⟩,⟨.x 11,.mv (.t 72),none⟩]) (.seq (.seq (.reg [⟨.t 73,.mv (.x 8),none⟩,⟨.t 74,.mv (.x 10),none⟩,⟨.t 75,.mv (.x 10),none⟩,⟨.t 76,.mv (.x 7),none⟩,⟨.t 77,.bin .add (.t 75) (.t 76),none⟩,⟨.t 78,.bin .add (.t 77) (.c (.int .i64 1)),none⟩,⟨.t 79,.slc 1 (.t 73) (some (.t 74)) (some (.t 78)),none⟩,⟨.t 80,.mv (.x 9),none⟩,⟨.t 81,.mv (.x 11),none⟩,⟨.x 82,.call 173 [.t 79,.t 80,.t 81],none⟩]) (.cond (.x 82) (.seq (.reg [⟨.t 83,.mv (.x 8),none⟩,⟨.t 84,.mv (.x 10),none⟩,⟨.t 85,.mv (.x 10),none⟩,⟨.t 86,.mv (.x 7),none⟩,⟨.t 87,.bin .add (.t 85) (.t 86),none⟩,⟨.t 88,.bin .add (.t 87) (.c (.int .i64 1)),none⟩,⟨.t 89,.slc 1 (.t 83) (some (.t 84)) (some (.t 88)),none⟩,⟨.t 90,.mv (.x 9),none⟩,⟨.t 91,.call 174 [.t 89,.t 90],none⟩]) (.reg [⟨.t 92,.mv (.x 11),none⟩,⟨.t 93,.bin .sub (.t 92) (.c (.int .u64 1)),none⟩,⟨.x 11,.mv (.t 93),none⟩])) .skip)) (.reg [⟨.t 94,.mv (.x 4),none⟩,⟨.t 95,.mv (.x 10),none⟩,⟨.t 96,.mv (.x 11),none⟩,⟨.t 97,.conv .u32 (.t 96),none⟩,⟨.t 98,.iad 1 (.t 94) (.t 95),none⟩,⟨.no,.st (.t 98) (.t 97),none⟩])))) (.reg [⟨.t 40,.mv (.x 10),none⟩,⟨.t 41,.bin .sub (.t 40) (.c (.int .i64 1)),none⟩,⟨.x 10,.mv (.t 41),none⟩])))))) (.seq (.reg [⟨.t 99,.mv (.x 7),none⟩,⟨.t 100,.mks 1 4 [(.int .u32 0)] (.t 99) (.t 99),none⟩,⟨.x 5,.mv (.t 100),none⟩]) (.seq (.seq (.reg [⟨.t 101,.mv (.x 5),none⟩,⟨.x 102,.len 1 (.t 101),none⟩,⟨.x 103,.mv (.c (.int .i64 0)),none⟩]) (.block 2 (.loop (.seq (.reg [⟨.x 104,.bin .lss (.x 103) (.x 102),none⟩]) (.seq (.cond (.x 104) .skip (.exit 2)) (.seq (.block 3 (.seq (.reg [⟨.t 105,.mv (.x 103),none⟩,⟨.x 12,.mv (.t 105),none⟩]) (.regd [⟨.t 106,.mv (.x 5),none⟩,⟨.t 107,.mv (.x 12),none⟩,⟨.t 108,.mv (.x 8),none⟩,⟨.t 109,.mv (.x 12),none⟩,⟨.t 110,.bin .add (.t 109) (.c (.int .i64 1)),none⟩,⟨.t 111,.iad 1 (.t 108) (.t 110),none⟩,⟨.t 112,.ld (.t 111),none⟩,⟨.t 113,.conv .u64 (.t 112),none⟩,⟨.t 114,.bin .shl (.t 113) (.c (.int .u64 32)),none⟩,⟨.t 115,.mv (.x 8),none⟩,⟨.t 116,.mv (.x 12),none⟩,⟨.t 117,.iad 1 (.t 115) (.t 116),none⟩,⟨.t 118,.ld (.t 117),none⟩,⟨.t 119,.conv .u64 (.t 118),none⟩,⟨.t 120,.bin .or (.t 114) (.t 119),none⟩,⟨.t 121,.mv (.x 6),none⟩,⟨.t 122,.bin .shr (.t 120) (.t 121),none⟩,⟨.t 123,.conv .u32 (.t 122),none⟩,⟨.t 124,.iad 1 (.t 106) (.t 107),none⟩,⟨.no,.st (.t 124) (.t 123),none⟩]))) (.reg [⟨.t 125,.bin .add (.x 103) (.c (.int .i64 1)),none⟩,⟨.x 103,.mv (.t 125),none⟩]))))))) (.seq (.reg [⟨.t 126,.mv (.x 4),none⟩,⟨.t 127,.call 139 [.t 126],none⟩,⟨.t 128,.mv (.x 5),none⟩,⟨.t 129,.call 139 [.t 128],none⟩,⟨.x 4,.mv (.t 127),none⟩,⟨.x 5,.mv (.t 129),none⟩]) .ret))))))))
def resnDivide : List RV := [.t 4, .t 5]
theorem nbnDivide : fnnDivide.nb = 0 := rfl
theorem isnDivide : IsFn fnnDivide 138 codenDivide resnDivide := ⟨⟨Tryz.f138, _, Tryz.func138, rfl, rfl, by kernel_rfl, by kernel_rfl, by kernel_rfl⟩⟩
noncomputable def fnrGcd : FnD := ⟨Tryz.prog,[0,1,4,6,14],[],25,false⟩
def coderGcd : DC := (.seq (.reg [⟨.x 4,.mv (.c .nils),none⟩]) (.seq (.reg [⟨.t 8,.mv (.x 0),none⟩,⟨.t 9,.call 119 [.t 8],none⟩,⟨.t 10,.mv (.x 1),none⟩,⟨.t 11,.call 119 [.t 10],none⟩,⟨.x 0,.mv (.t 9),none⟩,⟨.x 1,.mv (.t 11),none⟩]) (.seq (.block 0 (.loop (.seq (.seq (.reg [⟨.t 12,.mv (.x 1),none⟩,⟨.t 13,.len 1 (.t 12),none⟩,⟨.x 14,.bin .gtr (.t 13) (.c (.int .i64 0)),none⟩]) (.cond (.x 14) .skip (.exit 0))) (.block 1 (.seq (.reg [⟨.t 16,.mv (.x 0),none⟩,⟨.t 17,.mv (.x 1),none⟩,⟨.t 18,.call 120 [.t 16,.t 17],none⟩,⟨.t 15,.mv (.t 18),none⟩,⟨.t 19,.ext (.t 15) 0,none⟩,⟨.t 20,.ext (.t 15) 1,none⟩,⟨.t 21,.ext (.t 15) 2,none⟩,⟨.t 5,.mv (.t 19),none⟩,⟨.x 6,.mv (.t 20),none⟩,⟨.t 7,.mv (.t 21),none⟩]) (.reg [⟨.t 22,.mv (.x 1),none⟩,⟨.t 23,.mv (.x 6),none⟩,⟨.x 0,.mv (.t 22),none⟩,⟨.x 1,.mv (.t 23),none⟩])))))) (.seq (.reg [⟨.t 24,.mv (.x 0),none⟩,⟨.x 4,.mv (.t 24),none⟩]) .ret))))
def resrGcd : List RV := [.t 4]
theorem isrGcd : IsFn fnrGcd 152 coderGcd resrGcd := ⟨⟨Tryz.f152, _, Tryz.func152, rfl, rfl, by kernel_rfl, by kernel_rfl, by kernel_rfl⟩⟩
noncomputable def fnDiv32 : FnD := ⟨Tryz.prog,[0,1,2,6,7,8,15],[],33,false⟩
def codeDiv32 : DC := (.seq (.reg [⟨.x 6,.mv (.c (.int .u32 0)),none⟩,⟨.x 7,.mv (.c (.int .u32 0)),none⟩]) (.seq (.seq (.reg [⟨.t 9,.mv (.x 2),none⟩,⟨.t 10,.bin .neq (.t 9) (.c (.int .u32 0)),none⟩,⟨.t 11,.mv (.t 10),none⟩,⟨.t 12,.mv (.x 2),some (.t 11,true)⟩,⟨.t 13,.mv (.x 0),some (.t 11,true)⟩,⟨.t 14,.bin .leq (.t 12) (.t 13),some (.t 11,true)⟩,⟨.x 15,.pick (.t 11) (.t 14) (.c (.bool false)),none⟩]) (.cond (.x 15) (.reg [⟨.t 16,.ld (.c .undef),none⟩,⟨.no,.pan (.t 16),none⟩]) .skip)) (.seq (.reg [⟨.t 17,.mv (.x 0),none⟩,⟨.t 18,.conv .u64 (.t 17),none⟩,⟨.t 19,.bin .shl (.t 18) (.c (.int .u64 32)),none⟩,⟨.t 20,.mv (.x 1),none⟩,⟨.t 21,.conv .u64 (.t 20),none⟩,⟨.t 22,.bin .or (.t 19) (.t 21),none⟩,⟨.x 8,.mv (.t 22),none⟩]) (.seq (.regd [⟨.t 23,.mv (.x 8),none⟩,⟨.t 24,.mv (.x 2),none⟩,⟨.t 25,.conv .u64 (.t 24),none⟩,⟨.t 26,.bin .quo (.t 23) (.t 25),none⟩,⟨.t 27,.conv .u32 (.t 26),none⟩,⟨.t 28,.mv (.x 8),none⟩,⟨.t 29,.mv (.x 2),none⟩,⟨.t 30,.conv .u64 (.t 29),none⟩,⟨.t 31,.bin .rem (.t 28) (.t 30),none⟩,⟨.t 32,.conv .u32 (.t 31),none⟩,⟨.x 6,.mv (.t 27),none⟩,⟨.x 7,.mv (.t 32),none⟩]) .ret))))
def resDiv32 : List RV := [.t 6, .t 7]
theorem isDiv32 : IsFn fnDiv32 156 codeDiv32 resDiv32 := ⟨⟨Tryz.f156, _, Tryz.func156, rfl, rfl, by kernel_rfl, by kernel_rfl, by kernel_rfl⟩⟩
noncomputable def fnrBit : FnD := ⟨Tryz.prog,[0,1,4],[],15,false⟩
def coderBit : DC := (.seq (.reg [⟨.x 4,.mv (.c (.int .u32 0)),none⟩]) (.seq (.reg [⟨.t 5,.mv (.x 0),none⟩,⟨.t 6,.mv (.x 1),none⟩,⟨.t 7,.bin .quo (.t 6) (.c (.int .i64 32)),none⟩,⟨.t 8,.iad 1 (.t 5) (.t 7),none⟩,⟨.t 9,.ld (.t 8),none⟩,⟨.t 10,.mv (.x 1),none⟩,⟨.t 11,.bin .rem (.t 10) (.c (.int .i64 32)),none⟩,⟨.t 12,.conv .u64 (.t 11),none⟩,⟨.t 13,.bin .shr (.t 9) (.t 12),none⟩,⟨.t 14,.bin .and (.t 13) (.c (.int .u32 1)),none⟩,⟨.x 4,.mv (.t 14),none⟩]) .ret))
def resrBit : List RV := [.t 4]
theorem isrBit : IsFn fnrBit 161 coderBit resrBit := ⟨⟨Tryz.f161, _, Tryz.func161, rfl, rfl, by kernel_rfl, by kernel_rfl, by kernel_rfl⟩⟩
noncomputable def fnLz32 : FnD := ⟨Tryz.prog,[0,2],[],6,false⟩
def codeLz32 : DC := (.seq (.reg [⟨.x 2,.mv (.c (.int .i64 0)),none⟩]) (.seq (.reg [⟨.t 3,.mv (.x 0),none⟩,⟨.t 4,.call 189 [.t 3],none⟩,⟨.t 5,.bin .sub (.c (.int .i64 32)) (.t 4),none⟩,⟨.x 2,.mv (.t 5),none⟩]) .ret))
def resLz32 : List RV := [.t 2]
theorem isLz32 : IsFn fnLz32 170 codeLz32 resLz32 := ⟨⟨Tryz.f170, _, Tryz.func170, rfl, rfl, by kernel_rfl, by kernel_rfl, by kernel_rfl⟩⟩
noncomputable def fnnRestore : FnD := ⟨Tryz.prog,[0,1,4,5,6,8,9,10,15],[],34,false⟩
def codenRestore : DC := (.seq (.reg [⟨.x 4,.mv (.c (.int .u32 0)),none⟩]) (.seq (.reg [⟨.t 7,.mv (.x 0),none⟩,⟨.x 8,.len 1 (.t 7),none⟩,⟨.x 9,.mv (.c (.int .i64 0)),none⟩]) (.block 0 (.loop (.seq (.reg [⟨.x 10,.bin .lss (.x 9) (.x 8),none⟩]) (.seq (.cond (.x 10) .skip (.exit 0)) (.seq (.block 1 (.seq (.reg [⟨.t 11,.mv (.x 9),none⟩,⟨.x 5,.mv (.t 11),none⟩]) (.seq (.reg [⟨.x 6,.mv (.c (.int .u32 0)),none⟩]) (.seq (.seq (.reg [⟨.t 12,.mv (.x 5),none⟩,⟨.t 13,.mv (.x 1),none⟩,⟨.t 14,.len 1 (.t 13),none⟩,⟨.x 15,.bin .lss (.t 12) (.t 14),none⟩]) (.cond (.x 15) (.reg [⟨.t 16,.mv (.x 1),none⟩,⟨.t 17,.mv (.x 5),none⟩,⟨.t 18,.iad 1 (.t 16) (.t 17),none⟩,⟨.t 19,.ld (.t 18),none⟩,⟨.x 6,.mv (.t 19),none⟩]) .skip)) (.reg [⟨.t 21,.mv (.x 0),none⟩,⟨.t 22,.mv (.x 5),none⟩,⟨.t 23,.mv (.x 0),none⟩,⟨.t 24,.mv (.x 5),none⟩,⟨.t 25,.iad 1 (.t 23) (.t 24),none⟩,⟨.t 26,.ld (.t 25),none⟩,⟨.t 27,.mv (.x 6),none⟩,⟨.t 28,.mv (.x 4),none⟩,⟨.t 29,.call 141 [.t 26,.t 27,.t 28],none⟩,⟨.t 20,.mv (.t 29),none⟩,⟨.t 30,.ext (.t 20) 0,none⟩,⟨.t 31,.ext (.t 20) 1,none⟩,⟨.t 32,.iad 1 (.t 21) (.t 22),none⟩,⟨.no,.st (.t 32) (.t 30),none⟩,⟨.x 4,.mv (.t 31),none⟩]))))) (.reg [⟨.t 33,.bin .add (.x 9) (.c (.int .i64 1)),none⟩,⟨.x 9,.mv (.t 33),none⟩]))))))))
def resnRestore : List RV := []
theorem isnRestore : IsFn fnnRestore 174 codenRestore resnRestore := ⟨⟨Tryz.f174, _, Tryz.func174, rfl, rfl, by kernel_rfl, by kernel_rfl, by kernel_rfl⟩⟩
end Go.Proofs.YtjfedgpbedppeaaGreatDoor
namespace Go.Proofs
open Go.Shelf
def Tryz.lays169_ren : Go.Shelf.Ren := ⟨fun | 169 => 40 | n => n, fun | 70 => 69 | 9 => 9 | 0 => 0 | 72 => 71 | 37 => 38 | 127 => 102 | 3 => 3 | 5 => 5 | n => n, fun | n => n⟩
theorem Tryz.lays169 : Go.Proofs.Lays.n169 Tryz.prog Tryz.lays169_ren := {
 mixed := by kernel_rfl
 f169 := Tryz.func40.trans (congrArg some (by kernel_rfl))
 t0 := Tryz.underlying0
 a0 := Tryz.isAgg0
 z0 := Tryz.sizeOf0
 v0 := Tryz.zeroValue0
 t3 := Tryz.underlying3
 a3 := Tryz.isAgg3
 z3 := Tryz.sizeOf3
 v3 := Tryz.zeroValue3
 t9 := Tryz.underlying9
 a9 := Tryz.isAgg9
 z9 := Tryz.sizeOf9
 v9 := Tryz.zeroValue9
 t37 := Tryz.underlying38
 a37 := Tryz.isAgg38
 z37 := Tryz.sizeOf38
 v37 := Tryz.zeroValue38
 t70 := Tryz.underlying69
 a70 := Tryz.isAgg69
 z70 := Tryz.sizeOf69
 v70 := Tryz.zeroValue69
 t72 := Tryz.underlying71
 a72 := Tryz.isAgg71
 z72 := Tryz.sizeOf71
 v72 := Tryz.zeroValue71
 t127 := Tryz.underlying102
 a127 := Tryz.isAgg102
 z127 := Tryz.sizeOf102
 v127 := Tryz.zeroValue102 }
theorem Tryz.Builder_Extra_169 : Builder.Extra Tryz.prog Tryz.lays169_ren := {
 sizeBuilder := by kernel_rfl
 liesBuilder := by kernel_rfl
 t5 := Tryz.underlying5
 a5 := Tryz.isAgg5
 z5 := Tryz.sizeOf5
 v5 := Tryz.zeroValue5
 infoByte := by kernel_rfl
 cellsByte := by kernel_rfl
 sizeByte := by kernel_rfl
 neB5 := by decide }
def Tryz.lays156_ren : Go.Shelf.Ren := ⟨fun | 156 => 116 | 165 => 98 | 166 => 37 | 169 => 40 | 240 => 60 | 241 => 148 | 276 => 108 | 277 => 176 | n => n, fun | 31 => 39 | 9 => 9 | 3 => 3 | 4 => 4 | 0 => 0 | 20 => 20 | 72 => 71 | 76 => 78 | 70 => 69 | 37 => 38 | 75 => 77 | 127 => 102 | 164 => 142 | 5 => 5 | 80 => 82 | n => n, fun | n => n⟩
theorem Tryz.lays156 : Go.Proofs.Lays.n156 Tryz.prog Tryz.lays156_ren := {
 mixed := by kernel_rfl
 f156 := Tryz.func116.trans (congrArg some (by kernel_rfl))
 f165 := Tryz.func98.trans (congrArg some (by kernel_rfl))
 f166 := Tryz.func37.trans (congrArg some (by kernel_rfl))
 f169 := Tryz.func40.trans (congrArg some (by kernel_rfl))
 f240 := Tryz.func60.trans (congrArg some (by kernel_rfl))
 f241 := Tryz.func148.trans (congrArg some (by kernel_rfl))
 f276 := Tryz.func108.trans (congrArg some (by kernel_rfl))
 f277 := Tryz.func176.trans (congrArg some (by kernel_rfl))
 t0 := Tryz.underlying0
 a0 := Tryz.isAgg0
 z0 := Tryz.sizeOf0
 v0 := Tryz.zeroValue0
 t3 := Tryz.underlying3
 a3 := Tryz.isAgg3
 z3 := Tryz.sizeOf3
 v3 := Tryz.zeroValue3
 t4 := Tryz.underlying4
 a4 := Tryz.isAgg4
 z4 := Tryz.sizeOf4
 v4 := Tryz.zeroValue4
 t9 := Tryz.underlying9
 a9 := Tryz.isAgg9
 z9 := Tryz.sizeOf9
 v9 := Tryz.zeroValue9
 t20 := Tryz.underlying20
 a20 := Tryz.isAgg20
 z20 := Tryz.sizeOf20
 v20 := Tryz.zeroValue20
 t31 := Tryz.underlying39
 a31 := Tryz.isAgg39
 z31 := Tryz.sizeOf39
 v31 := Tryz.zeroValue39
 t37 := Tryz.underlying38
 a37 := Tryz.isAgg38
 z37 := Tryz.sizeOf38
 v37 := Tryz.zeroValue38
 t70 := Tryz.underlying69
 a70 := Tryz.isAgg69
 z70 := Tryz.sizeOf69
 v70 := Tryz.zeroValue69
 t72 := Tryz.underlying71
 a72 := Tryz.isAgg71
 z72 := Tryz.sizeOf71
 v72 := Tryz.zeroValue71
 t75 := Tryz.underlying77
 a75 := Tryz.isAgg77
 z75 := Tryz.sizeOf77
 v75 := Tryz.zeroValue77
 t76 := Tryz.underlying78
 a76 := Tryz.isAgg78
 z76 := Tryz.sizeOf78
 v76 := Tryz.zeroValue78
 t127 := Tryz.underlying102
 a127 := Tryz.isAgg102
 z127 := Tryz.sizeOf102
 v127 := Tryz.zeroValue102
 t164 := Tryz.underlying142
 a164 := Tryz.isAgg142
 z164 := Tryz.sizeOf142
 v164 := Tryz.zeroValue142 }
theorem Tryz.Builder_Extra_156 : Builder.Extra Tryz.prog Tryz.lays156_ren := {
 sizeBuilder := by kernel_rfl
 liesBuilder := by kernel_rfl
 t5 := Tryz.underlying5
 a5 := Tryz.isAgg5
 z5 := Tryz.sizeOf5
 v5 := Tryz.zeroValue5
 infoByte := by kernel_rfl
 cellsByte := by kernel_rfl
 sizeByte := by kernel_rfl
 neB5 := by decide }
open Go.RowKit in
theorem Tryz.strings_Join (bk o c : Nat) (xs : List ByteArray) (sep : ByteArray) (w : World) (hcells : ∀ (j : Nat) x, xs[j]? = some x → w.cell? ⟨bk, o + j, none⟩ = some (.string x)) (hbk : bk < w.heap.size) (hN : xs.length ≤ 140737488355328) (hcap : xs.length ≤ c) (hlen : (Lib.join (xs.map (·.data.toList)) sep.data.toList).length ≤ 140737488355328) :
  Calls Tryz.prog 116 #[.slice (some ⟨bk, o, none⟩) xs.length c, .string sep] w fun e w' => e = .returned (.string ⟨(Lib.join (xs.map (·.data.toList)) sep.data.toList).toArray⟩) ∧ Below w.heap.size w w' := Any.strings_Join Tryz.lays156 Tryz.Builder_Extra_156 bk o c xs sep w hcells hbk hN hcap hlen
def Tryz.lays161_ren : Go.Shelf.Ren := ⟨fun | 161 => 168 | 231 => 186 | 227 => 165 | 233 => 187 | 235 => 188 | 228 => 166 | 197 => 178 | 151 => 198 | 260 => 191 | 152 => 163 | 137 => 182 | 119 => 183 | 224 => 184 | 225 => 185 | 217 => 192 | 266 => 199 | n => n, fun | 9 => 9 | 4 => 4 | 3 => 3 | 5 => 5 | 117 => 174 | 116 => 173 | 0 => 0 | 124 => 190 | 105 => 185 | 21 => 21 | 119 => 199 | 46 => 129 | 139 => 202 | 138 => 201 | n => n, fun | 3 => 2 | 4 => 3 | n => n⟩
theorem Tryz.lays161 : Go.Proofs.Lays.n161 Tryz.prog Tryz.lays161_ren := {
 mixed := by kernel_rfl
 f119 := Tryz.func183.trans (congrArg some (by kernel_rfl))
 f137 := Tryz.func182.trans (congrArg some (by kernel_rfl))
 f151 := Tryz.func198.trans (congrArg some (by kernel_rfl))
 f152 := Tryz.func163.trans (congrArg some (by kernel_rfl))
 f161 := Tryz.func168.trans (congrArg some (by kernel_rfl))
 f197 := Tryz.func178.trans (congrArg some (by kernel_rfl))
 f217 := Tryz.func192.trans (congrArg some (by kernel_rfl))
 f224 := Tryz.func184.trans (congrArg some (by kernel_rfl))
 f225 := Tryz.func185.trans (congrArg some (by kernel_rfl))
 f227 := Tryz.func165.trans (congrArg some (by kernel_rfl))
 f228 := Tryz.func166.trans (congrArg some (by kernel_rfl))
 f231 := Tryz.func186.trans (congrArg some (by kernel_rfl))
 f233 := Tryz.func187.trans (congrArg some (by kernel_rfl))
 f235 := Tryz.func188.trans (congrArg some (by kernel_rfl))
 f260 := Tryz.func191.trans (congrArg some (by kernel_rfl))
 f266 := Tryz.func199.trans (congrArg some (by kernel_rfl))
 t0 := Tryz.underlying0
 a0 := Tryz.isAgg0
 z0 := Tryz.sizeOf0
 v0 := Tryz.zeroValue0
 t3 := Tryz.underlying3
 a3 := Tryz.isAgg3
 z3 := Tryz.sizeOf3
 v3 := Tryz.zeroValue3
 t4 := Tryz.underlying4
 a4 := Tryz.isAgg4
 z4 := Tryz.sizeOf4
 v4 := Tryz.zeroValue4
 t5 := Tryz.underlying5
 a5 := Tryz.isAgg5
 z5 := Tryz.sizeOf5
 v5 := Tryz.zeroValue5
 t9 := Tryz.underlying9
 a9 := Tryz.isAgg9
 z9 := Tryz.sizeOf9
 v9 := Tryz.zeroValue9
 t21 := Tryz.underlying21
 a21 := Tryz.isAgg21
 z21 := Tryz.sizeOf21
 v21 := Tryz.zeroValue21
 t46 := Tryz.underlying129
 a46 := Tryz.isAgg129
 z46 := Tryz.sizeOf129
 v46 := Tryz.zeroValue129
 t105 := Tryz.underlying185
 a105 := Tryz.isAgg185
 z105 := Tryz.sizeOf185
 v105 := Tryz.zeroValue185
 t116 := Tryz.underlying173
 a116 := Tryz.isAgg173
 z116 := Tryz.sizeOf173
 t117 := Tryz.underlying174
 a117 := Tryz.isAgg174
 z117 := Tryz.sizeOf174
 v117 := Tryz.zeroValue174
 t119 := Tryz.underlying199
 a119 := Tryz.isAgg199
 z119 := Tryz.sizeOf199
 t124 := Tryz.underlying190
 a124 := Tryz.isAgg190
 z124 := Tryz.sizeOf190
 v124 := Tryz.zeroValue190
 t138 := Tryz.underlying201
 a138 := Tryz.isAgg201
 z138 := Tryz.sizeOf201
 v138 := Tryz.zeroValue201
 t139 := Tryz.underlying202
 a139 := Tryz.isAgg202
 z139 := Tryz.sizeOf202
 v139 := Tryz.zeroValue202
 g3 := by kernel_rfl
 g4 := by kernel_rfl }
open Go.RowKit in
theorem Tryz.strings_TrimLeft_one (s : ByteArray) (c : UInt8) (hc : c.toNat < 128) (w : World) :
  Calls Tryz.prog 168 #[.string s, .string ⟨#[c]⟩] w fun e w' => e = .returned (.string ⟨(Lib.trimLeftB s.data.toList c).toArray⟩) ∧ w' = w := Any.strings_TrimLeft_one Tryz.lays161 s c hc w
def Tryz.lays119_ren : Go.Shelf.Ren := ⟨fun | 119 => 183 | n => n, fun | 21 => 21 | 4 => 4 | n => n, fun | n => n⟩
theorem Tryz.lays119 : Go.Proofs.Lays.n119 Tryz.prog Tryz.lays119_ren := {
 mixed := by kernel_rfl
 f119 := Tryz.func183.trans (congrArg some (by kernel_rfl))
 t4 := Tryz.underlying4
 a4 := Tryz.isAgg4
 z4 := Tryz.sizeOf4
 v4 := Tryz.zeroValue4
 t21 := Tryz.underlying21
 a21 := Tryz.isAgg21
 z21 := Tryz.sizeOf21
 v21 := Tryz.zeroValue21 }
theorem Tryz.utf8_ValidRune (r : Int) (w : World) :
  Calls Tryz.prog 183 #[.int .i32 r] w fun e w' => e = .returned (.bool (Lib.validRune r)) ∧ w' = w := Any.utf8_ValidRune Tryz.lays119 r w
def Tryz.lays137_ren : Go.Shelf.Ren := ⟨fun | 137 => 182 | 217 => 192 | 266 => 199 | n => n, fun | 9 => 9 | 5 => 5 | 3 => 3 | n => n, fun | n => n⟩
theorem Tryz.lays137 : Go.Proofs.Lays.n137 Tryz.prog Tryz.lays137_ren := {
 mixed := by kernel_rfl
 f137 := Tryz.func182.trans (congrArg some (by kernel_rfl))
 f217 := Tryz.func192.trans (congrArg some (by kernel_rfl))
 f266 := Tryz.func199.trans (congrArg some (by kernel_rfl))
 t3 := Tryz.underlying3
 a3 := Tryz.isAgg3
 z3 := Tryz.sizeOf3
 v3 := Tryz.zeroValue3
 t5 := Tryz.underlying5
 a5 := Tryz.isAgg5
 z5 := Tryz.sizeOf5
 v5 := Tryz.zeroValue5
 t9 := Tryz.underlying9
 a9 := Tryz.isAgg9
 z9 := Tryz.sizeOf9
 v9 := Tryz.zeroValue9 }
open Go.RowKit in
theorem Tryz.strings_IndexByte (s : ByteArray) (c : Int) (w : World) :
  Calls Tryz.prog 182 #[.string s, .int .u8 c] w fun e w' => e = .returned (.int .i64 (Lib.indexByte s.data.toList c.toNat.toUInt8)) ∧ w' = w := Any.strings_IndexByte Tryz.lays137 s c w
def Tryz.lays103_ren : Go.Shelf.Ren := ⟨fun | 103 => 45 | 210 => 68 | 206 => 123 | n => n, fun | 9 => 9 | 4 => 4 | 24 => 86 | 3 => 3 | n => n, fun | n => n⟩
theorem Tryz.lays103 : Go.Proofs.Lays.n103 Tryz.prog Tryz.lays103_ren := {
 mixed := by kernel_rfl
 f103 := Tryz.func45.trans (congrArg some (by kernel_rfl))
 f206 := Tryz.func123.trans (congrArg some (by kernel_rfl))
 f210 := Tryz.func68.trans (congrArg some (by kernel_rfl))
 t3 := Tryz.underlying3
 a3 := Tryz.isAgg3
 z3 := Tryz.sizeOf3
 v3 := Tryz.zeroValue3
 t4 := Tryz.underlying4
 a4 := Tryz.isAgg4
 z4 := Tryz.sizeOf4
 v4 := Tryz.zeroValue4
 t9 := Tryz.underlying9
 a9 := Tryz.isAgg9
 z9 := Tryz.sizeOf9
 v9 := Tryz.zeroValue9
 t24 := Tryz.underlying86
 a24 := Tryz.isAgg86
 z24 := Tryz.sizeOf86
 v24 := Tryz.zeroValue86 }
open Go.RowKit in
theorem Tryz.strings_CutPrefix (s p : ByteArray) (w : World) :
  Calls Tryz.prog 45 #[.string s, .string p] w fun e w' => e = .returned (.tuple #[.string ⟨(Lib.trimPrefix s.data.toList p.data.toList).toArray⟩, .bool (Lib.hasPrefix s.data.toList p.data.toList)]) ∧ w' = w := Any.strings_CutPrefix Tryz.lays103 s p w
open Go.RowKit in
theorem Tryz.Builder_String_any_f (B b : Nat) (l : List UInt8) (w : World) (h : Lib.IsBuilderF 71 5 B b (Lib.byteCells l) w) (hBw : B ≤ w.heap.size) :
  Calls Tryz.prog 40 #[.pointer (some ⟨b, 0, none⟩)] w fun e w' => e = .returned (.string ⟨l.toArray⟩) ∧ (Lib.IsBuilderF 71 5 B b (Lib.byteCells l) w' ∧ Below B w w') := Any.Builder_String_any_f Tryz.lays169 Tryz.Builder_Extra_169 B b l w h hBw
def Tryz.laysM171_ren : Go.Shelf.Ren := ⟨fun | 171 => 114 | 243 => 157 | 246 => 181 | 283 => 194 | 284 => 195 | 285 => 196 | 286 => 197 | 129 => 202 | 317 => 201 | 318 => 203 | 319 => 204 | 320 => 205 | 337 => 206 | 338 => 207 | n => n, fun | 3 => 3 | 9 => 9 | 2 => 2 | 4 => 4 | 171 => 193 | 0 => 0 | 53 => 111 | 37 => 38 | 5 => 5 | 173 => 196 | 212 => 205 | 51 => 66 | 20 => 20 | 213 => 206 | 46 => 129 | 232 => 208 | 233 => 209 | n => n, fun | 17 => 4 | 18 => 5 | 19 => 6 | n => n⟩
theorem Tryz.laysM171 : Go.Proofs.LaysM.n171 Tryz.prog Tryz.laysM171_ren := {
 mixed := by kernel_rfl
 f129 := Tryz.func202.trans (congrArg some (by kernel_rfl))
 f171 := Tryz.func114.trans (congrArg some (by kernel_rfl))
 f243 := Tryz.func157.trans (congrArg some (by kernel_rfl))
 f246 := Tryz.func181.trans (congrArg some (by kernel_rfl))
 f283 := Tryz.func194.trans (congrArg some (by kernel_rfl))
 f284 := Tryz.func195.trans (congrArg some (by kernel_rfl))
 f285 := Tryz.func196.trans (congrArg some (by kernel_rfl))
 f286 := Tryz.func197.trans (congrArg some (by kernel_rfl))
 f317 := Tryz.func201.trans (congrArg some (by kernel_rfl))
 f318 := Tryz.func203.trans (congrArg some (by kernel_rfl))
 f319 := Tryz.func204.trans (congrArg some (by kernel_rfl))
 f320 := Tryz.func205.trans (congrArg some (by kernel_rfl))
 f337 := Tryz.func206.trans (congrArg some (by kernel_rfl))
 f338 := Tryz.func207.trans (congrArg some (by kernel_rfl))
 t0 := Tryz.underlying0
 a0 := Tryz.isAgg0
 z0 := Tryz.sizeOf0
 v0 := Tryz.zeroValue0
 t2 := Tryz.underlying2
 a2 := Tryz.isAgg2
 z2 := Tryz.sizeOf2
 v2 := Tryz.zeroValue2
 t3 := Tryz.underlying3
 a3 := Tryz.isAgg3
 z3 := Tryz.sizeOf3
 v3 := Tryz.zeroValue3
 t4 := Tryz.underlying4
 a4 := Tryz.isAgg4
 z4 := Tryz.sizeOf4
 v4 := Tryz.zeroValue4
 t5 := Tryz.underlying5
 a5 := Tryz.isAgg5
 z5 := Tryz.sizeOf5
 v5 := Tryz.zeroValue5
 t9 := Tryz.underlying9
 a9 := Tryz.isAgg9
 z9 := Tryz.sizeOf9
 v9 := Tryz.zeroValue9
 t20 := Tryz.underlying20
 a20 := Tryz.isAgg20
 z20 := Tryz.sizeOf20
 v20 := Tryz.zeroValue20
 t37 := Tryz.underlying38
 a37 := Tryz.isAgg38
 z37 := Tryz.sizeOf38
 v37 := Tryz.zeroValue38
 t46 := Tryz.underlying129
 a46 := Tryz.isAgg129
 z46 := Tryz.sizeOf129
 v46 := Tryz.zeroValue129
 t51 := Tryz.underlying66
 a51 := Tryz.isAgg66
 z51 := Tryz.sizeOf66
 v51 := Tryz.zeroValue66
 t53 := Tryz.underlying111
 a53 := Tryz.isAgg111
 z53 := Tryz.sizeOf111
 v53 := Tryz.zeroValue111
 t171 := Tryz.underlying193
 a171 := Tryz.isAgg193
 z171 := Tryz.sizeOf193
 v171 := Tryz.zeroValue193
 t173 := Tryz.underlying196
 a173 := Tryz.isAgg196
 z173 := Tryz.sizeOf196
 v173 := Tryz.zeroValue196
 t212 := Tryz.underlying205
 a212 := Tryz.isAgg205
 z212 := Tryz.sizeOf205
 v212 := Tryz.zeroValue205
 t213 := Tryz.underlying206
 a213 := Tryz.isAgg206
 z213 := Tryz.sizeOf206
 t232 := Tryz.underlying208
 a232 := Tryz.isAgg208
 z232 := Tryz.sizeOf208
 v232 := Tryz.zeroValue208
 t233 := Tryz.underlying209
 a233 := Tryz.isAgg209
 z233 := Tryz.sizeOf209
 v233 := Tryz.zeroValue209
 g17 := by kernel_rfl
 g18 := by kernel_rfl
 g19 := by kernel_rfl
 i0 := by kernel_rfl
 i2 := by kernel_rfl
 i3 := by kernel_rfl
 i4 := by kernel_rfl
 i5 := by kernel_rfl
 i9 := by kernel_rfl
 i20 := by kernel_rfl
 i37 := by kernel_rfl
 i46 := by kernel_rfl
 i51 := by kernel_rfl
 i53 := by kernel_rfl
 i171 := by kernel_rfl
 i173 := by kernel_rfl
 i212 := by kernel_rfl
 i232 := by kernel_rfl
 i233 := by kernel_rfl
 m17 := by kernel_rfl
 m18 := by kernel_rfl
 m19 := by kernel_rfl }
open Go.RowKit Go.Sort Go.Lib in
theorem Tryz.strconv_Itoa (n : Int) (h0 : -9223372036854775808 ≤ n) (h1 : n ≤ 9223372036854775807) (w : World) (htab : Lib.TabIs Tryz.prog w "internal/strconv.uint64pow10" .u64 Lib.pow10Tab) :
  Calls Tryz.prog 114 #[.int .i64 n] w fun e w' => e = .returned (.string ⟨(Lib.itoa n).toArray⟩) ∧ ∃ k os, w' = grow (w.drewN k) os := Any.strconv_Itoa Tryz.laysM171 n h0 h1 w htab
def Tryz.lays219_ren : Go.Shelf.Ren := ⟨fun | 219 => 180 | 217 => 192 | 225 => 185 | 224 => 184 | 267 => 193 | 266 => 199 | 314 => 200 | n => n, fun | 9 => 9 | 3 => 3 | 4 => 4 | 5 => 5 | 46 => 129 | 146 => 161 | 51 => 66 | n => n, fun | 1 => 1 | n => n⟩
theorem Tryz.lays219 : Go.Proofs.Lays.n219 Tryz.prog Tryz.lays219_ren := {
 mixed := by kernel_rfl
 f217 := Tryz.func192.trans (congrArg some (by kernel_rfl))
 f219 := Tryz.func180.trans (congrArg some (by kernel_rfl))
 f224 := Tryz.func184.trans (congrArg some (by kernel_rfl))
 f225 := Tryz.func185.trans (congrArg some (by kernel_rfl))
 f266 := Tryz.func199.trans (congrArg some (by kernel_rfl))
 f267 := Tryz.func193.trans (congrArg some (by kernel_rfl))
 f314 := Tryz.func200.trans (congrArg some (by kernel_rfl))
 t3 := Tryz.underlying3
 a3 := Tryz.isAgg3
 z3 := Tryz.sizeOf3
 v3 := Tryz.zeroValue3
 t4 := Tryz.underlying4
 a4 := Tryz.isAgg4
 z4 := Tryz.sizeOf4
 v4 := Tryz.zeroValue4
 t5 := Tryz.underlying5
 a5 := Tryz.isAgg5
 z5 := Tryz.sizeOf5
 v5 := Tryz.zeroValue5
 t9 := Tryz.underlying9
 a9 := Tryz.isAgg9
 z9 := Tryz.sizeOf9
 v9 := Tryz.zeroValue9
 t46 := Tryz.underlying129
 a46 := Tryz.isAgg129
 z46 := Tryz.sizeOf129
 v46 := Tryz.zeroValue129
 t51 := Tryz.underlying66
 a51 := Tryz.isAgg66
 z51 := Tryz.sizeOf66
 v51 := Tryz.zeroValue66
 t146 := Tryz.underlying161
 a146 := Tryz.isAgg161
 z146 := Tryz.sizeOf161
 v146 := Tryz.zeroValue161
 g1 := by kernel_rfl }
open Go.RowKit Go.Lib in
theorem Tryz.stringslite_Index_one (s : ByteArray) (c : UInt8) (w : World) :
  Calls Tryz.prog 180 #[.string s, .string ⟨#[c]⟩] w fun e w' => e = .returned (.int .i64 (Lib.indexByte s.data.toList c)) ∧ w' = w := Any.stringslite_Index_one Tryz.lays219 s c w
def Tryz.lays100_ren : Go.Shelf.Ren := ⟨fun | 100 => 67 | 207 => 122 | n => n, fun | 9 => 9 | 4 => 4 | 3 => 3 | n => n, fun | n => n⟩
theorem Tryz.lays100 : Go.Proofs.Lays.n100 Tryz.prog Tryz.lays100_ren := {
 mixed := by kernel_rfl
 f100 := Tryz.func67.trans (congrArg some (by kernel_rfl))
 f207 := Tryz.func122.trans (congrArg some (by kernel_rfl))
 t3 := Tryz.underlying3
 a3 := Tryz.isAgg3
 z3 := Tryz.sizeOf3
 v3 := Tryz.zeroValue3
 t4 := Tryz.underlying4
 a4 := Tryz.isAgg4
 z4 := Tryz.sizeOf4
 v4 := Tryz.zeroValue4
 t9 := Tryz.underlying9
 a9 := Tryz.isAgg9
 z9 := Tryz.sizeOf9
 v9 := Tryz.zeroValue9 }
open Go.RowKit Go.Lib in
theorem Tryz.strings_HasSuffix (s p : ByteArray) (w : World) (hs : s.size ≤ 9223372036854775807) :
  Calls Tryz.prog 67 #[.string s, .string p] w fun e w' => e = .returned (.bool (Lib.hasSuffix s.data.toList p.data.toList)) ∧ w' = w := Any.strings_HasSuffix Tryz.lays100 s p w hs
def Tryz.lays146_ren : Go.Shelf.Ren := ⟨fun | 146 => 57 | 221 => 100 | 268 => 149 | 138 => 150 | 143 => 151 | 195 => 177 | 197 => 178 | 218 => 179 | 219 => 180 | 260 => 191 | 217 => 192 | 225 => 185 | 224 => 184 | 267 => 193 | 266 => 199 | 314 => 200 | n => n, fun | 9 => 9 | 31 => 39 | 3 => 3 | 4 => 4 | 0 => 0 | 105 => 185 | 21 => 21 | 5 => 5 | 46 => 129 | 119 => 199 | 139 => 202 | 138 => 201 | 146 => 161 | 51 => 66 | n => n, fun | 1 => 1 | 3 => 2 | 4 => 3 | n => n⟩
theorem Tryz.lays146 : Go.Proofs.Lays.n146 Tryz.prog Tryz.lays146_ren := {
 mixed := by kernel_rfl
 f138 := Tryz.func150.trans (congrArg some (by kernel_rfl))
 f143 := Tryz.func151.trans (congrArg some (by kernel_rfl))
 f146 := Tryz.func57.trans (congrArg some (by kernel_rfl))
 f195 := Tryz.func177.trans (congrArg some (by kernel_rfl))
 f197 := Tryz.func178.trans (congrArg some (by kernel_rfl))
 f217 := Tryz.func192.trans (congrArg some (by kernel_rfl))
 f218 := Tryz.func179.trans (congrArg some (by kernel_rfl))
 f219 := Tryz.func180.trans (congrArg some (by kernel_rfl))
 f221 := Tryz.func100.trans (congrArg some (by kernel_rfl))
 f224 := Tryz.func184.trans (congrArg some (by kernel_rfl))
 f225 := Tryz.func185.trans (congrArg some (by kernel_rfl))
 f260 := Tryz.func191.trans (congrArg some (by kernel_rfl))
 f266 := Tryz.func199.trans (congrArg some (by kernel_rfl))
 f267 := Tryz.func193.trans (congrArg some (by kernel_rfl))
 f268 := Tryz.func149.trans (congrArg some (by kernel_rfl))
 f314 := Tryz.func200.trans (congrArg some (by kernel_rfl))
 t0 := Tryz.underlying0
 a0 := Tryz.isAgg0
 z0 := Tryz.sizeOf0
 v0 := Tryz.zeroValue0
 t3 := Tryz.underlying3
 a3 := Tryz.isAgg3
 z3 := Tryz.sizeOf3
 v3 := Tryz.zeroValue3
 t4 := Tryz.underlying4
 a4 := Tryz.isAgg4
 z4 := Tryz.sizeOf4
 v4 := Tryz.zeroValue4
 t5 := Tryz.underlying5
 a5 := Tryz.isAgg5
 z5 := Tryz.sizeOf5
 v5 := Tryz.zeroValue5
 t9 := Tryz.underlying9
 a9 := Tryz.isAgg9
 z9 := Tryz.sizeOf9
 v9 := Tryz.zeroValue9
 t21 := Tryz.underlying21
 a21 := Tryz.isAgg21
 z21 := Tryz.sizeOf21
 v21 := Tryz.zeroValue21
 t31 := Tryz.underlying39
 a31 := Tryz.isAgg39
 z31 := Tryz.sizeOf39
 v31 := Tryz.zeroValue39
 t46 := Tryz.underlying129
 a46 := Tryz.isAgg129
 z46 := Tryz.sizeOf129
 v46 := Tryz.zeroValue129
 t51 := Tryz.underlying66
 a51 := Tryz.isAgg66
 z51 := Tryz.sizeOf66
 v51 := Tryz.zeroValue66
 t105 := Tryz.underlying185
 a105 := Tryz.isAgg185
 z105 := Tryz.sizeOf185
 v105 := Tryz.zeroValue185
 t119 := Tryz.underlying199
 a119 := Tryz.isAgg199
 z119 := Tryz.sizeOf199
 t138 := Tryz.underlying201
 a138 := Tryz.isAgg201
 z138 := Tryz.sizeOf201
 v138 := Tryz.zeroValue201
 t139 := Tryz.underlying202
 a139 := Tryz.isAgg202
 z139 := Tryz.sizeOf202
 v139 := Tryz.zeroValue202
 t146 := Tryz.underlying161
 a146 := Tryz.isAgg161
 z146 := Tryz.sizeOf161
 v146 := Tryz.zeroValue161
 g1 := by kernel_rfl
 g3 := by kernel_rfl
 g4 := by kernel_rfl }
open Go.RowKit Go.Lib in
theorem Tryz.strings_Split (s sep : ByteArray) (m : Int) (w : World) (hs : s.size < 4294967281) (hm : w.cell? ⟨1, 0, none⟩ = some (.int .i64 m)) (h1 : 1 ≤ sep.size) :
  Calls Tryz.prog 57 #[.string s, .string sep] w fun e w' =>
   e = .returned (.slice (some ⟨w.heap.size, 0, none⟩) (Lib.countB s sep + 1) (Lib.countB s sep + 1)) ∧ w' = w.alloc (.cells ((Lib.splitB sep 0 (Lib.countB s sep) s).map Value.string).toArray 9) := Any.strings_Split Tryz.lays146 (by kernel_rfl) s sep m w hs hm h1
def Tryz.lays152_ren : Go.Shelf.Ren := ⟨fun | 152 => 163 | 137 => 182 | 119 => 183 | 224 => 184 | 225 => 185 | 217 => 192 | 266 => 199 | n => n, fun | 9 => 9 | 21 => 21 | 3 => 3 | 4 => 4 | 5 => 5 | 0 => 0 | 46 => 129 | n => n, fun | n => n⟩
theorem Tryz.lays152 : Go.Proofs.Lays.n152 Tryz.prog Tryz.lays152_ren := {
 mixed := by kernel_rfl
 f119 := Tryz.func183.trans (congrArg some (by kernel_rfl))
 f137 := Tryz.func182.trans (congrArg some (by kernel_rfl))
 f152 := Tryz.func163.trans (congrArg some (by kernel_rfl))
 f217 := Tryz.func192.trans (congrArg some (by kernel_rfl))
 f224 := Tryz.func184.trans (congrArg some (by kernel_rfl))
 f225 := Tryz.func185.trans (congrArg some (by kernel_rfl))
 f266 := Tryz.func199.trans (congrArg some (by kernel_rfl))
 t0 := Tryz.underlying0
 a0 := Tryz.isAgg0
 z0 := Tryz.sizeOf0
 v0 := Tryz.zeroValue0
 t3 := Tryz.underlying3
 a3 := Tryz.isAgg3
 z3 := Tryz.sizeOf3
 v3 := Tryz.zeroValue3
 t4 := Tryz.underlying4
 a4 := Tryz.isAgg4
 z4 := Tryz.sizeOf4
 v4 := Tryz.zeroValue4
 t5 := Tryz.underlying5
 a5 := Tryz.isAgg5
 z5 := Tryz.sizeOf5
 v5 := Tryz.zeroValue5
 t9 := Tryz.underlying9
 a9 := Tryz.isAgg9
 z9 := Tryz.sizeOf9
 v9 := Tryz.zeroValue9
 t21 := Tryz.underlying21
 a21 := Tryz.isAgg21
 z21 := Tryz.sizeOf21
 v21 := Tryz.zeroValue21
 t46 := Tryz.underlying129
 a46 := Tryz.isAgg129
 z46 := Tryz.sizeOf129
 v46 := Tryz.zeroValue129 }
open Go.RowKit Go.Lib in
theorem Tryz.strings_IndexRune_ascii (s : ByteArray) (r : Int) (w : World) (h0 : 0 ≤ r) (h1 : r < 128) :
  Calls Tryz.prog 163 #[.string s, .int .i32 r] w fun e w' => e = .returned (.int .i64 (Lib.indexByte s.data.toList r.toNat.toUInt8)) ∧ w' = w := Any.strings_IndexRune_ascii Tryz.lays152 s r w h0 h1
def Tryz.lays226_ren : Go.Shelf.Ren := ⟨fun | 226 => 164 | n => n, fun | 3 => 3 | 4 => 4 | n => n, fun | n => n⟩
theorem Tryz.lays226 : Go.Proofs.Lays.n226 Tryz.prog Tryz.lays226_ren := {
 mixed := by kernel_rfl
 f226 := Tryz.func164.trans (congrArg some (by kernel_rfl))
 t3 := Tryz.underlying3
 a3 := Tryz.isAgg3
 z3 := Tryz.sizeOf3
 v3 := Tryz.zeroValue3
 t4 := Tryz.underlying4
 a4 := Tryz.isAgg4
 z4 := Tryz.sizeOf4
 v4 := Tryz.zeroValue4 }
open Go.RowKit Go.Lib in
theorem Tryz.strings_shouldUseASCIISet (n : Int) (w : World) :
  Calls Tryz.prog 164 #[.int .i64 n] w fun e w' => e = .returned (.bool (decide (8 < n))) ∧ w' = w := Any.strings_shouldUseASCIISet Tryz.lays226 n w
def Tryz.lays153_ren : Go.Shelf.Ren := ⟨fun | 153 => 126 | 152 => 163 | 226 => 164 | 227 => 165 | 228 => 166 | 137 => 182 | 119 => 183 | 224 => 184 | 225 => 185 | 217 => 192 | 266 => 199 | n => n, fun | 9 => 9 | 3 => 3 | 4 => 4 | 5 => 5 | 21 => 21 | 117 => 174 | 116 => 173 | 0 => 0 | 46 => 129 | 124 => 190 | n => n, fun | n => n⟩
theorem Tryz.lays153 : Go.Proofs.Lays.n153 Tryz.prog Tryz.lays153_ren := {
 mixed := by kernel_rfl
 f119 := Tryz.func183.trans (congrArg some (by kernel_rfl))
 f137 := Tryz.func182.trans (congrArg some (by kernel_rfl))
 f152 := Tryz.func163.trans (congrArg some (by kernel_rfl))
 f153 := Tryz.func126.trans (congrArg some (by kernel_rfl))
 f217 := Tryz.func192.trans (congrArg some (by kernel_rfl))
 f224 := Tryz.func184.trans (congrArg some (by kernel_rfl))
 f225 := Tryz.func185.trans (congrArg some (by kernel_rfl))
 f226 := Tryz.func164.trans (congrArg some (by kernel_rfl))
 f227 := Tryz.func165.trans (congrArg some (by kernel_rfl))
 f228 := Tryz.func166.trans (congrArg some (by kernel_rfl))
 f266 := Tryz.func199.trans (congrArg some (by kernel_rfl))
 t0 := Tryz.underlying0
 a0 := Tryz.isAgg0
 z0 := Tryz.sizeOf0
 v0 := Tryz.zeroValue0
 t3 := Tryz.underlying3
 a3 := Tryz.isAgg3
 z3 := Tryz.sizeOf3
 v3 := Tryz.zeroValue3
 t4 := Tryz.underlying4
 a4 := Tryz.isAgg4
 z4 := Tryz.sizeOf4
 v4 := Tryz.zeroValue4
 t5 := Tryz.underlying5
 a5 := Tryz.isAgg5
 z5 := Tryz.sizeOf5
 v5 := Tryz.zeroValue5
 t9 := Tryz.underlying9
 a9 := Tryz.isAgg9
 z9 := Tryz.sizeOf9
 v9 := Tryz.zeroValue9
 t21 := Tryz.underlying21
 a21 := Tryz.isAgg21
 z21 := Tryz.sizeOf21
 v21 := Tryz.zeroValue21
 t46 := Tryz.underlying129
 a46 := Tryz.isAgg129
 z46 := Tryz.sizeOf129
 v46 := Tryz.zeroValue129
 t116 := Tryz.underlying173
 a116 := Tryz.isAgg173
 z116 := Tryz.sizeOf173
 t117 := Tryz.underlying174
 a117 := Tryz.isAgg174
 z117 := Tryz.sizeOf174
 v117 := Tryz.zeroValue174
 t124 := Tryz.underlying190
 a124 := Tryz.isAgg190
 z124 := Tryz.sizeOf190
 v124 := Tryz.zeroValue190 }
open Go.RowKit Go.Lib in
theorem Tryz.strings_IndexAny_long (hv116 : ∀ w, (zeroValue 173).run Tryz.prog w = .ok (.agg (Array.replicate 256 (.bool false))) w) (s chars : ByteArray) (w : World) (h2 : 2 ≤ chars.size) (h8 : 8 < s.size) (hs : s.size < 4294967281) (hcs : chars.size < 4294967281) (hascii : ∀ (j : Nat) b, chars.data.toList[j]? = some b → b.toNat < 128) :
  Calls Tryz.prog 126 #[.string s, .string chars] w fun e w' => e = .returned (.int .i64 (Lib.indexAny s.data.toList chars.data.toList)) ∧ w' = ((w.alloc (.cells (Lib.setCells chars.data.toList) 173)).alloc (.cells (Lib.setCells chars.data.toList) 173)) := Any.strings_IndexAny_long Tryz.lays153 hv116 (by kernel_rfl) s chars w h2 h8 hs hcs hascii
open Go.RowKit Go.Lib in
theorem Tryz.strings_IndexAny_laid (s chars : ByteArray) (w : World) (hs : s.size < 4294967281) (hcs : chars.size < 4294967281) (has : ∀ (j : Nat) b, s.data.toList[j]? = some b → b.toNat < 128) (hac : ∀ (j : Nat) b, chars.data.toList[j]? = some b → b.toNat < 128) :
  Calls Tryz.prog 126 #[.string s, .string chars] w fun e w' => e = .returned (.int .i64 (Lib.indexAny s.data.toList chars.data.toList)) ∧ Below w.heap.size w w' := Any.strings_IndexAny_laid Tryz.lays153 (by kernel_rfl) s chars w hs hcs has hac
def Tryz.lays105_ren : Go.Shelf.Ren := ⟨fun | 105 => 55 | 212 => 96 | 99 => 97 | 165 => 98 | 166 => 37 | 170 => 99 | 169 => 40 | 263 => 146 | 264 => 147 | 206 => 123 | 240 => 60 | 241 => 148 | 276 => 108 | 277 => 176 | n => n, fun | 9 => 9 | 3 => 3 | 4 => 4 | 20 => 20 | 0 => 0 | 46 => 129 | 109 => 130 | 5 => 5 | 72 => 71 | 76 => 78 | 51 => 66 | 146 => 161 | 53 => 111 | 148 => 165 | 70 => 69 | 37 => 38 | 75 => 77 | 127 => 102 | 164 => 142 | 80 => 82 | n => n, fun | n => n⟩
theorem Tryz.lays105 : Go.Proofs.Lays.n105 Tryz.prog Tryz.lays105_ren := {
 mixed := by kernel_rfl
 f99 := Tryz.func97.trans (congrArg some (by kernel_rfl))
 f105 := Tryz.func55.trans (congrArg some (by kernel_rfl))
 f165 := Tryz.func98.trans (congrArg some (by kernel_rfl))
 f166 := Tryz.func37.trans (congrArg some (by kernel_rfl))
 f169 := Tryz.func40.trans (congrArg some (by kernel_rfl))
 f170 := Tryz.func99.trans (congrArg some (by kernel_rfl))
 f206 := Tryz.func123.trans (congrArg some (by kernel_rfl))
 f212 := Tryz.func96.trans (congrArg some (by kernel_rfl))
 f240 := Tryz.func60.trans (congrArg some (by kernel_rfl))
 f241 := Tryz.func148.trans (congrArg some (by kernel_rfl))
 f263 := Tryz.func146.trans (congrArg some (by kernel_rfl))
 f264 := Tryz.func147.trans (congrArg some (by kernel_rfl))
 f276 := Tryz.func108.trans (congrArg some (by kernel_rfl))
 f277 := Tryz.func176.trans (congrArg some (by kernel_rfl))
 t0 := Tryz.underlying0
 a0 := Tryz.isAgg0
 z0 := Tryz.sizeOf0
 v0 := Tryz.zeroValue0
 t3 := Tryz.underlying3
 a3 := Tryz.isAgg3
 z3 := Tryz.sizeOf3
 v3 := Tryz.zeroValue3
 t4 := Tryz.underlying4
 a4 := Tryz.isAgg4
 z4 := Tryz.sizeOf4
 v4 := Tryz.zeroValue4
 t5 := Tryz.underlying5
 a5 := Tryz.isAgg5
 z5 := Tryz.sizeOf5
 v5 := Tryz.zeroValue5
 t9 := Tryz.underlying9
 a9 := Tryz.isAgg9
 z9 := Tryz.sizeOf9
 v9 := Tryz.zeroValue9
 t20 := Tryz.underlying20
 a20 := Tryz.isAgg20
 z20 := Tryz.sizeOf20
 v20 := Tryz.zeroValue20
 t37 := Tryz.underlying38
 a37 := Tryz.isAgg38
 z37 := Tryz.sizeOf38
 v37 := Tryz.zeroValue38
 t46 := Tryz.underlying129
 a46 := Tryz.isAgg129
 z46 := Tryz.sizeOf129
 v46 := Tryz.zeroValue129
 t51 := Tryz.underlying66
 a51 := Tryz.isAgg66
 z51 := Tryz.sizeOf66
 v51 := Tryz.zeroValue66
 t53 := Tryz.underlying111
 a53 := Tryz.isAgg111
 z53 := Tryz.sizeOf111
 v53 := Tryz.zeroValue111
 t70 := Tryz.underlying69
 a70 := Tryz.isAgg69
 z70 := Tryz.sizeOf69
 v70 := Tryz.zeroValue69
 t72 := Tryz.underlying71
 a72 := Tryz.isAgg71
 z72 := Tryz.sizeOf71
 v72 := Tryz.zeroValue71
 t75 := Tryz.underlying77
 a75 := Tryz.isAgg77
 z75 := Tryz.sizeOf77
 v75 := Tryz.zeroValue77
 t76 := Tryz.underlying78
 a76 := Tryz.isAgg78
 z76 := Tryz.sizeOf78
 v76 := Tryz.zeroValue78
 t109 := Tryz.underlying130
 a109 := Tryz.isAgg130
 z109 := Tryz.sizeOf130
 v109 := Tryz.zeroValue130
 t127 := Tryz.underlying102
 a127 := Tryz.isAgg102
 z127 := Tryz.sizeOf102
 v127 := Tryz.zeroValue102
 t146 := Tryz.underlying161
 a146 := Tryz.isAgg161
 z146 := Tryz.sizeOf161
 v146 := Tryz.zeroValue161
 t148 := Tryz.underlying165
 a148 := Tryz.isAgg165
 z148 := Tryz.sizeOf165
 v148 := Tryz.zeroValue165
 t164 := Tryz.underlying142
 a164 := Tryz.isAgg142
 z164 := Tryz.sizeOf142
 v164 := Tryz.zeroValue142 }
theorem Tryz.Builder_Extra_105 : Builder.Extra Tryz.prog Tryz.lays105_ren := {
 sizeBuilder := by kernel_rfl
 liesBuilder := by kernel_rfl
 t5 := Tryz.underlying5
 a5 := Tryz.isAgg5
 z5 := Tryz.sizeOf5
 v5 := Tryz.zeroValue5
 infoByte := by kernel_rfl
 cellsByte := by kernel_rfl
 sizeByte := by kernel_rfl
 neB5 := by decide }
open Go.RowKit Go.Lib in
theorem Tryz.strings_Repeat (s : ByteArray) (c : Nat) (w : World) (hc : c ≤ 9223372036854775807) (hlen : s.size * c ≤ 140737488355328) :
  Calls Tryz.prog 55 #[.string s, .int .i64 c] w fun e w' => e = .returned (.string ⟨(Lib.repeatL s.data.toList c).toArray⟩) ∧ Below w.heap.size w w' := Any.strings_Repeat Tryz.lays105 Tryz.Builder_Extra_105 s c w hc hlen
def Tryz.laysNm217_ren : Go.Shelf.Ren := ⟨fun | 17 => 115 | n => n, fun | 24 => 39 | 9 => 9 | 3 => 3 | 4 => 4 | 0 => 0 | n => n, fun | n => n⟩
theorem Tryz.laysNm217 : Go.Proofs.Lays2.n17 Tryz.prog Tryz.laysNm217_ren := {
 mixed := by kernel_rfl
 f17 := Tryz.func115.trans (congrArg some (by kernel_rfl))
 t0 := Tryz.underlying0
 a0 := Tryz.isAgg0
 z0 := Tryz.sizeOf0
 v0 := Tryz.zeroValue0
 t3 := Tryz.underlying3
 a3 := Tryz.isAgg3
 z3 := Tryz.sizeOf3
 v3 := Tryz.zeroValue3
 t4 := Tryz.underlying4
 a4 := Tryz.isAgg4
 z4 := Tryz.sizeOf4
 v4 := Tryz.zeroValue4
 t9 := Tryz.underlying9
 a9 := Tryz.isAgg9
 z9 := Tryz.sizeOf9
 v9 := Tryz.zeroValue9
 t24 := Tryz.underlying39
 a24 := Tryz.isAgg39
 z24 := Tryz.sizeOf39
 v24 := Tryz.zeroValue39 }
open Go.RowKit Go.Lib Go.Sort in
theorem Tryz.slices_Reverse_string (blk off cap : Nat) (zs : List (List UInt8)) (w : World) (hH : Holds encStr w blk off zs.toArray) (hsz : zs.length ≤ 9223372036854775807) :
  Calls Tryz.prog 115 #[.slice (some ⟨blk, off, none⟩) zs.length cap] w fun e w' => e = .returned (.tuple #[]) ∧ ∃ n, w' = putRow encStr (Sort.ahead w n) blk off zs.reverse.toArray := Any.slices_Reverse_string Tryz.laysNm217 blk off cap zs w hH hsz
end Go.Proofs
