/- Lemmas of the walk; no conditions beyond those that each states. -/
import Derived.Test.YteiagmmfapbaiaaGreatDoorProg
import Derived.KernelRfl
import Derived.Laws.RangeAny
import Derived.Lib.DecodeN
import Derived.WalkMore
import Derived.Shelf.RegionOpenPlain
import Derived.Laws.Runes
import Derived.Lib.OthersKept
import Derived.Test.YteiagmmfapbaiaaGreatDoorT2
import Derived.Test.YteiagmmfapbaiaaGreatDoorT4
import Derived.Test.YteiagmmfapbaiaaGreatDoorN1
import Derived.Test.YteiagmmfapbaiaaGreatDoorT3
set_option linter.unusedSimpArgs false
set_option linter.unusedVariables false
set_option linter.unnecessarySimpa false
namespace Go.Proofs.YteiagmmfapbaiaaGreatDoor
open Go Go.Dat Go.Proofs
noncomputable def fnlqRationalWrites : FnD := ⟨Tryz.prog, [0, 1, 2, 3, 6, 7, 8, 9, 10, 18], [], 57, 0, false⟩
def codelqRationalWrites : DC := (.seq (.reg [⟨.x 3, .box (.x 0), none⟩,⟨.x 6, .mv (.c (.bool false)), none⟩]) (.seq (.seq (.reg [⟨.t 11, .ldn 3 (.x 3), none⟩,⟨.t 12, .call 17 [(.t 11)], none⟩,⟨.t 13, .un .not (.t 12), none⟩,⟨.t 14, .mv (.t 13), none⟩,⟨.t 15, .mv (.x 1), (some ((.t 14), false))⟩,⟨.t 16, .lenS (.t 15), (some ((.t 14), false))⟩,⟨.t 17, .bin .gtr (.t 16) (.c (.int .i64 100)), (some ((.t 14), false))⟩,⟨.x 18, .pick (.t 14) (.c (.bool true)) (.t 17), none⟩]) (.cond (.x 18) (.seq (.reg [⟨.t 19, .call 13 [], none⟩,⟨.x 6, .mv (.t 19), none⟩]) .ret) .skip)) (.seq (.reg [⟨.t 21, .mv (.x 1), none⟩,⟨.t 22, .call 18 [(.t 21)], none⟩,⟨.t 20, .mv (.t 22), none⟩,⟨.t 23, .ext (.t 20) 0, none⟩,⟨.t 24, .ext (.t 20) 1, none⟩,⟨.x 7, .alloc [(.bool false), .nils, .nils], none⟩,⟨.no, .stn 3 (.x 7) (.t 23), none⟩,⟨.x 8, .mv (.t 24), none⟩]) (.seq (.reg [⟨.t 26, .mv (.x 1), none⟩,⟨.t 27, .call 19 [(.t 26)], none⟩,⟨.t 25, .mv (.t 27), none⟩,⟨.t 28, .ext (.t 25) 0, none⟩,⟨.t 29, .ext (.t 25) 1, none⟩,⟨.x 9, .alloc [(.bool false), .nils, .nils], none⟩,⟨.no, .stn 3 (.x 9) (.t 28), none⟩,⟨.x 10, .mv (.t 29), none⟩]) (.seq (.regd [⟨.t 30, .call 13 [], none⟩,⟨.t 31, .mv (.t 30), none⟩,⟨.t 32, .ldn 3 (.x 3), (some ((.t 31), true))⟩,⟨.t 33, .call 20 [(.t 32)], (some ((.t 31), true))⟩,⟨.t 34, .ldn 3 (.x 3), (some ((.t 31), true))⟩,⟨.t 35, .call 21 [(.t 34)], (some ((.t 31), true))⟩,⟨.t 36, .bin .eql (.t 33) (.t 35), (some ((.t 31), true))⟩,⟨.t 37, .pick (.t 31) (.t 36) (.c (.bool false)), none⟩,⟨.t 38, .mv (.t 37), none⟩,⟨.t 39, .ldn 3 (.x 7), (some ((.t 38), true))⟩,⟨.t 40, .ldn 3 (.x 9), (some ((.t 38), true))⟩,⟨.t 41, .call 16 [(.t 39), (.t 40)], (some ((.t 38), true))⟩,⟨.t 42, .pick (.t 38) (.t 41) (.c (.bool false)), none⟩,⟨.t 43, .mv (.t 42), none⟩,⟨.t 44, .mv (.x 8), (some ((.t 43), true))⟩,⟨.t 45, .mv (.x 10), (some ((.t 43), true))⟩,⟨.t 46, .beq false (.t 44) (.t 45), (some ((.t 43), true))⟩,⟨.t 47, .pick (.t 43) (.t 46) (.c (.bool false)), none⟩,⟨.t 48, .mv (.t 47), none⟩,⟨.t 49, .ldn 3 (.x 3), (some ((.t 48), true))⟩,⟨.t 50, .mv (.x 2), (some ((.t 48), true))⟩,⟨.t 51, .call 22 [(.t 49), (.t 50)], (some ((.t 48), true))⟩,⟨.t 52, .ldn 3 (.x 3), (some ((.t 48), true))⟩,⟨.t 53, .mv (.x 2), (some ((.t 48), true))⟩,⟨.t 54, .call 23 [(.t 52), (.t 53)], (some ((.t 48), true))⟩,⟨.t 55, .bin .eql (.t 51) (.t 54), (some ((.t 48), true))⟩,⟨.t 56, .pick (.t 48) (.t 55) (.c (.bool false)), none⟩,⟨.x 6, .mv (.t 56), none⟩]) .ret)))))
def reslqRationalWrites : List RV := [.t 6]
theorem nblqRationalWrites : fnlqRationalWrites.nb = 0 := rfl
theorem islqRationalWrites : IsFn fnlqRationalWrites 4 codelqRationalWrites reslqRationalWrites := ⟨⟨Tryz.f4, _, Tryz.func4, rfl, rfl, by kernel_rfl, by kernel_rfl, by kernel_rfl⟩⟩
noncomputable def fnpParse : FnD := ⟨Tryz.prog, [0, 2, 3, 4, 5, 6, 7, 8, 9, 10, 11, 12, 13, 14, 15, 16, 17, 18, 19, 20, 21, 22, 30, 38, 56, 77, 100, 111, 133], [], 140, 0, false⟩
def codepParse : DC := (.seq (.reg [⟨.x 2, .alloc [(.bool false), .nils, .nils], none⟩,⟨.x 3, .mv (.c (.bool false)), none⟩]) (.seq (.seq (.reg [⟨.t 23, .mv (.x 0), none⟩,⟨.t 24, .lenS (.t 23), none⟩,⟨.t 25, .bin .gtr (.t 24) (.c (.int .i64 0)), none⟩,⟨.t 26, .mv (.t 25), none⟩,⟨.t 27, .mv (.x 0), (some ((.t 26), true))⟩,⟨.t 28, .idx (.t 27) (.c (.int .i64 0)), (some ((.t 26), true))⟩,⟨.t 29, .bin .eql (.t 28) (.c (.int .u8 45)), (some ((.t 26), true))⟩,⟨.x 30, .pick (.t 26) (.t 29) (.c (.bool false)), none⟩]) (.cond (.x 30) (.seq (.seq (.reg [⟨.t 31, .mv (.x 0), none⟩,⟨.t 32, .lenS (.t 31), none⟩,⟨.t 33, .bin .gtr (.t 32) (.c (.int .i64 1)), none⟩,⟨.t 34, .mv (.t 33), none⟩,⟨.t 35, .mv (.x 0), (some ((.t 34), true))⟩,⟨.t 36, .idx (.t 35) (.c (.int .i64 1)), (some ((.t 34), true))⟩,⟨.t 37, .bin .eql (.t 36) (.c (.int .u8 45)), (some ((.t 34), true))⟩,⟨.x 38, .pick (.t 34) (.t 37) (.c (.bool false)), none⟩]) (.cond (.x 38) (.seq (.reg [⟨.t 39, .build [(.bool false), .nils, .nils] [], none⟩,⟨.no, .stn 3 (.x 2) (.t 39), none⟩,⟨.x 3, .mv (.c (.bool false)), none⟩]) .ret) .skip)) (.seq (.reg [⟨.t 41, .mv (.x 0), none⟩,⟨.t 42, .slcS (.t 41) (some (.c (.int .i64 1))) none, none⟩,⟨.t 43, .call 19 [(.t 42)], none⟩,⟨.t 40, .mv (.t 43), none⟩,⟨.t 44, .ext (.t 40) 0, none⟩,⟨.t 45, .ext (.t 40) 1, none⟩,⟨.x 4, .alloc [(.bool false), .nils, .nils], none⟩,⟨.no, .stn 3 (.x 4) (.t 44), none⟩,⟨.x 5, .mv (.t 45), none⟩]) (.seq (.reg [⟨.t 46, .ldn 3 (.x 4), none⟩,⟨.t 47, .call 49 [(.t 46)], none⟩,⟨.t 48, .mv (.x 5), none⟩,⟨.no, .stn 3 (.x 2) (.t 47), none⟩,⟨.x 3, .mv (.t 48), none⟩]) .ret))) .skip)) (.seq (.seq (.reg [⟨.t 50, .mv (.x 0), none⟩,⟨.t 51, .call 62 [(.t 50), (.c (.str [47]))], none⟩,⟨.t 49, .mv (.t 51), none⟩,⟨.t 52, .ext (.t 49) 0, none⟩,⟨.t 53, .ext (.t 49) 1, none⟩,⟨.t 54, .ext (.t 49) 2, none⟩,⟨.x 6, .mv (.t 52), none⟩,⟨.x 7, .mv (.t 53), none⟩,⟨.x 8, .mv (.t 54), none⟩]) (.seq (.reg [⟨.t 55, .mv (.x 8), none⟩,⟨.x 56, .bin .geq (.t 55) (.c (.int .i64 0)), none⟩]) (.cond (.x 56) (.seq (.reg [⟨.t 58, .mv (.x 6), none⟩,⟨.t 59, .call 63 [(.t 58)], none⟩,⟨.t 57, .mv (.t 59), none⟩,⟨.t 60, .ext (.t 57) 0, none⟩,⟨.t 61, .ext (.t 57) 1, none⟩,⟨.x 9, .mv (.t 60), none⟩,⟨.x 10, .mv (.t 61), none⟩]) (.seq (.reg [⟨.t 63, .mv (.x 7), none⟩,⟨.t 64, .call 63 [(.t 63)], none⟩,⟨.t 62, .mv (.t 64), none⟩,⟨.t 65, .ext (.t 62) 0, none⟩,⟨.t 66, .ext (.t 62) 1, none⟩,⟨.x 11, .mv (.t 65), none⟩,⟨.x 12, .mv (.t 66), none⟩]) (.seq (.seq (.reg [⟨.t 67, .mv (.x 10), none⟩,⟨.t 68, .un .not (.t 67), none⟩,⟨.t 69, .mv (.t 68), none⟩,⟨.t 70, .mv (.x 12), (some ((.t 69), false))⟩,⟨.t 71, .un .not (.t 70), (some ((.t 69), false))⟩,⟨.t 72, .pick (.t 69) (.c (.bool true)) (.t 71), none⟩,⟨.t 73, .mv (.t 72), none⟩,⟨.t 74, .mv (.x 11), (some ((.t 73), false))⟩,⟨.t 75, .len 1 (.t 74), (some ((.t 73), false))⟩,⟨.t 76, .bin .eql (.t 75) (.c (.int .i64 0)), (some ((.t 73), false))⟩,⟨.x 77, .pick (.t 73) (.c (.bool true)) (.t 76), none⟩]) (.cond (.x 77) (.seq (.reg [⟨.t 78, .build [(.bool false), .nils, .nils] [], none⟩,⟨.no, .stn 3 (.x 2) (.t 78), none⟩,⟨.x 3, .mv (.c (.bool false)), none⟩]) .ret) .skip)) (.seq (.reg [⟨.t 79, .mv (.x 9), none⟩,⟨.t 80, .build [(.bool false), .nils] [(1, 1, (.t 79))], none⟩,⟨.t 81, .mv (.x 11), none⟩,⟨.t 82, .build [(.bool false), .nils] [(1, 1, (.t 81))], none⟩,⟨.t 83, .call 58 [(.t 80), (.t 82)], none⟩,⟨.no, .stn 3 (.x 2) (.t 83), none⟩,⟨.x 3, .mv (.c (.bool true)), none⟩]) .ret)))) .skip))) (.seq (.reg [⟨.t 85, .mv (.x 0), none⟩,⟨.t 86, .call 62 [(.t 85), (.c (.str [101, 69]))], none⟩,⟨.t 84, .mv (.t 86), none⟩,⟨.t 87, .ext (.t 84) 0, none⟩,⟨.t 88, .ext (.t 84) 1, none⟩,⟨.t 89, .ext (.t 84) 2, none⟩,⟨.x 13, .mv (.t 87), none⟩,⟨.x 14, .mv (.t 88), none⟩,⟨.x 15, .mv (.t 89), none⟩]) (.seq (.reg [⟨.t 91, .mv (.x 13), none⟩,⟨.t 92, .call 64 [(.t 91)], none⟩,⟨.t 90, .mv (.t 92), none⟩,⟨.t 93, .ext (.t 90) 0, none⟩,⟨.t 94, .ext (.t 90) 1, none⟩,⟨.x 16, .alloc [(.bool false), .nils, .nils], none⟩,⟨.no, .stn 3 (.x 16) (.t 93), none⟩,⟨.x 17, .mv (.t 94), none⟩]) (.seq (.seq (.reg [⟨.t 95, .mv (.x 15), none⟩,⟨.t 96, .bin .lss (.t 95) (.c (.int .i64 0)), none⟩,⟨.t 97, .mv (.t 96), none⟩,⟨.t 98, .mv (.x 17), (some ((.t 97), false))⟩,⟨.t 99, .un .not (.t 98), (some ((.t 97), false))⟩,⟨.x 100, .pick (.t 97) (.c (.bool true)) (.t 99), none⟩]) (.cond (.x 100) (.seq (.reg [⟨.t 101, .ldn 3 (.x 16), none⟩,⟨.t 102, .mv (.x 17), none⟩,⟨.no, .stn 3 (.x 2) (.t 101), none⟩,⟨.x 3, .mv (.t 102), none⟩]) .ret) .skip)) (.seq (.reg [⟨.t 103, .mv (.x 14), none⟩,⟨.t 104, .lenS (.t 103), none⟩,⟨.t 105, .bin .gtr (.t 104) (.c (.int .i64 0)), none⟩,⟨.t 106, .mv (.t 105), none⟩,⟨.t 107, .mv (.x 14), (some ((.t 106), true))⟩,⟨.t 108, .idx (.t 107) (.c (.int .i64 0)), (some ((.t 106), true))⟩,⟨.t 109, .bin .eql (.t 108) (.c (.int .u8 45)), (some ((.t 106), true))⟩,⟨.t 110, .pick (.t 106) (.t 109) (.c (.bool false)), none⟩,⟨.x 18, .mv (.t 110), none⟩]) (.seq (.seq (.reg [⟨.x 111, .mv (.x 18), none⟩]) (.cond (.x 111) (.reg [⟨.t 112, .mv (.x 14), none⟩,⟨.t 113, .slcS (.t 112) (some (.c (.int .i64 1))) none, none⟩,⟨.x 14, .mv (.t 113), none⟩]) .skip)) (.seq (.reg [⟨.t 115, .mv (.x 14), none⟩,⟨.t 116, .call 63 [(.t 115)], none⟩,⟨.t 114, .mv (.t 116), none⟩,⟨.t 117, .ext (.t 114) 0, none⟩,⟨.t 118, .ext (.t 114) 1, none⟩,⟨.x 19, .mv (.t 117), none⟩,⟨.x 20, .mv (.t 118), none⟩]) (.seq (.reg [⟨.t 120, .mv (.x 19), none⟩,⟨.t 121, .call 65 [(.t 120)], none⟩,⟨.t 119, .mv (.t 121), none⟩,⟨.t 122, .ext (.t 119) 0, none⟩,⟨.t 123, .ext (.t 119) 1, none⟩,⟨.x 21, .mv (.t 122), none⟩,⟨.x 22, .mv (.t 123), none⟩]) (.seq (.seq (.reg [⟨.t 124, .mv (.x 20), none⟩,⟨.t 125, .un .not (.t 124), none⟩,⟨.t 126, .mv (.t 125), none⟩,⟨.t 127, .mv (.x 22), (some ((.t 126), false))⟩,⟨.t 128, .un .not (.t 127), (some ((.t 126), false))⟩,⟨.t 129, .pick (.t 126) (.c (.bool true)) (.t 128), none⟩,⟨.t 130, .mv (.t 129), none⟩,⟨.t 131, .mv (.x 21), (some ((.t 130), false))⟩,⟨.t 132, .bin .gtr (.t 131) (.c (.int .u64 40)), (some ((.t 130), false))⟩,⟨.x 133, .pick (.t 130) (.c (.bool true)) (.t 132), none⟩]) (.cond (.x 133) (.seq (.reg [⟨.t 134, .build [(.bool false), .nils, .nils] [], none⟩,⟨.no, .stn 3 (.x 2) (.t 134), none⟩,⟨.x 3, .mv (.c (.bool false)), none⟩]) .ret) .skip)) (.seq (.reg [⟨.t 135, .ldn 3 (.x 16), none⟩,⟨.t 136, .mv (.x 18), none⟩,⟨.t 137, .mv (.x 21), none⟩,⟨.t 138, .conv .i64 (.t 137), none⟩,⟨.t 139, .call 66 [(.t 135), (.t 136), (.t 138)], none⟩,⟨.no, .stn 3 (.x 2) (.t 139), none⟩,⟨.x 3, .mv (.c (.bool true)), none⟩]) .ret))))))))))))
def respParse : List RV := [.cn 3 2, .t 3]
theorem nbpParse : fnpParse.nb = 0 := rfl
theorem ispParse : IsFn fnpParse 19 codepParse respParse := ⟨⟨Tryz.f19, _, Tryz.func19, rfl, rfl, by kernel_rfl, by kernel_rfl, by kernel_rfl⟩⟩
noncomputable def fnpDecimal : FnD := ⟨Tryz.prog, [0, 1, 2, 4, 5, 6, 7, 8, 9, 10, 16, 20, 61, 70, 74, 96], [], 100, 0, false⟩
def codepDecimal : DC := (.seq (.reg [⟨.x 2, .box (.x 0), none⟩,⟨.x 4, .mv (.c (.str [])), none⟩]) (.seq (.seq (.reg [⟨.t 11, .mv (.x 1), none⟩,⟨.t 12, .bin .lss (.t 11) (.c (.int .i64 0)), none⟩,⟨.t 13, .mv (.t 12), none⟩,⟨.t 14, .mv (.x 1), (some ((.t 13), false))⟩,⟨.t 15, .bin .gtr (.t 14) (.c (.int .i64 100)), (some ((.t 13), false))⟩,⟨.x 16, .pick (.t 13) (.c (.bool true)) (.t 15), none⟩]) (.cond (.x 16) (.seq (.reg [⟨.x 4, .mv (.c (.str [])), none⟩]) .ret) .skip)) (.seq (.reg [⟨.t 17, .bsl 1 [(.int .u32 0)] [(0, 1, (.c (.int .u32 1)))], none⟩,⟨.x 5, .mv (.t 17), none⟩]) (.seq (.seq (.reg [⟨.x 6, .mv (.c (.int .i64 0)), none⟩]) (.block 0 (.loop (.seq (.seq (.reg [⟨.t 18, .mv (.x 6), none⟩,⟨.t 19, .mv (.x 1), none⟩,⟨.x 20, .bin .lss (.t 18) (.t 19), none⟩]) (.cond (.x 20) .skip (.exit 0))) (.seq (.block 1 (.reg [⟨.t 23, .mv (.x 5), none⟩,⟨.t 24, .bsl 1 [(.int .u32 0)] [(0, 1, (.c (.int .u32 10)))], none⟩,⟨.t 25, .call 81 [(.t 23), (.t 24)], none⟩,⟨.x 5, .mv (.t 25), none⟩])) (.reg [⟨.t 21, .mv (.x 6), none⟩,⟨.t 22, .bin .add (.t 21) (.c (.int .i64 1)), none⟩,⟨.x 6, .mv (.t 22), none⟩])))))) (.seq (.reg [⟨.t 26, .ldn 3 (.x 2), none⟩,⟨.t 27, .call 50 [(.t 26)], none⟩,⟨.t 28, .mv (.x 5), none⟩,⟨.t 29, .build [(.bool false), .nils] [(1, 1, (.t 28))], none⟩,⟨.t 30, .build [(.bool false), .nils, .nils] [(0, 2, (.t 29))], none⟩,⟨.t 31, .call 38 [(.t 27), (.t 30)], none⟩,⟨.x 7, .alloc [(.bool false), .nils, .nils], none⟩,⟨.no, .stn 3 (.x 7) (.t 31), none⟩]) (.seq (.reg [⟨.t 32, .ldn 3 (.x 7), none⟩,⟨.t 33, .call 53 [(.t 32)], none⟩,⟨.x 8, .alloc [(.bool false), .nils], none⟩,⟨.no, .stn 2 (.x 8) (.t 33), none⟩]) (.seq (.reg [⟨.t 34, .ldn 3 (.x 7), none⟩,⟨.t 35, .ldn 2 (.x 8), none⟩,⟨.t 36, .build [(.bool false), .nils, .nils] [(0, 2, (.t 35))], none⟩,⟨.t 37, .call 36 [(.t 34), (.t 36)], none⟩,⟨.t 38, .call 47 [(.c (.int .i64 2))], none⟩,⟨.t 39, .call 38 [(.t 37), (.t 38)], none⟩,⟨.t 40, .call 47 [(.c (.int .i64 1))], none⟩,⟨.t 41, .call 51 [(.t 39), (.t 40)], none⟩,⟨.x 9, .mv (.t 41), none⟩]) (.seq (.seq (.reg [⟨.t 42, .mv (.x 9), none⟩,⟨.t 43, .bin .gtr (.t 42) (.c (.int .i64 0)), none⟩,⟨.t 44, .mv (.t 43), none⟩,⟨.t 45, .mv (.x 9), (some ((.t 44), false))⟩,⟨.t 46, .bin .eql (.t 45) (.c (.int .i64 0)), (some ((.t 44), false))⟩,⟨.t 47, .mv (.t 46), (some ((.t 44), false))⟩,⟨.t 48, .fad 1 (.x 8), (some ((.t 47), true))⟩,⟨.t 49, .ld (.t 48), (some ((.t 47), true))⟩,⟨.t 50, .len 1 (.t 49), (some ((.t 47), true))⟩,⟨.t 51, .bin .gtr (.t 50) (.c (.int .i64 0)), (some ((.t 47), true))⟩,⟨.t 52, .pick (.t 47) (.t 51) (.c (.bool false)), (some ((.t 44), false))⟩,⟨.t 53, .mv (.t 52), (some ((.t 44), false))⟩,⟨.t 54, .fad 1 (.x 8), (some ((.t 53), true))⟩,⟨.t 55, .ld (.t 54), (some ((.t 53), true))⟩,⟨.t 56, .iad 1 (.t 55) (.c (.int .i64 0)), (some ((.t 53), true))⟩,⟨.t 57, .ld (.t 56), (some ((.t 53), true))⟩,⟨.t 58, .bin .rem (.t 57) (.c (.int .u32 2)), (some ((.t 53), true))⟩,⟨.t 59, .bin .eql (.t 58) (.c (.int .u32 1)), (some ((.t 53), true))⟩,⟨.t 60, .pick (.t 53) (.t 59) (.c (.bool false)), (some ((.t 44), false))⟩,⟨.x 61, .pick (.t 44) (.c (.bool true)) (.t 60), none⟩]) (.cond (.x 61) (.regd [⟨.t 62, .ldn 2 (.x 8), none⟩,⟨.t 63, .call 83 [(.c (.int .i64 1))], none⟩,⟨.t 64, .call 82 [(.t 62), (.t 63)], none⟩,⟨.no, .stn 2 (.x 8) (.t 64), none⟩]) .skip)) (.seq (.reg [⟨.t 65, .ldn 2 (.x 8), none⟩,⟨.t 66, .call 71 [(.t 65)], none⟩,⟨.x 10, .mv (.t 66), none⟩]) (.seq (.block 2 (.loop (.seq (.seq (.reg [⟨.t 67, .mv (.x 10), none⟩,⟨.t 68, .lenS (.t 67), none⟩,⟨.t 69, .mv (.x 1), none⟩,⟨.x 70, .bin .leq (.t 68) (.t 69), none⟩]) (.cond (.x 70) .skip (.exit 2))) (.block 3 (.reg [⟨.t 71, .mv (.x 10), none⟩,⟨.t 72, .bin .add (.c (.str [48])) (.t 71), none⟩,⟨.x 10, .mv (.t 72), none⟩]))))) (.seq (.seq (.reg [⟨.t 73, .mv (.x 1), none⟩,⟨.x 74, .bin .gtr (.t 73) (.c (.int .i64 0)), none⟩]) (.cond (.x 74) (.regd [⟨.t 75, .mv (.x 10), none⟩,⟨.t 76, .mv (.x 10), none⟩,⟨.t 77, .lenS (.t 76), none⟩,⟨.t 78, .mv (.x 1), none⟩,⟨.t 79, .bin .sub (.t 77) (.t 78), none⟩,⟨.t 80, .slcS (.t 75) none (some (.t 79)), none⟩,⟨.t 81, .bin .add (.t 80) (.c (.str [46])), none⟩,⟨.t 82, .mv (.x 10), none⟩,⟨.t 83, .mv (.x 10), none⟩,⟨.t 84, .lenS (.t 83), none⟩,⟨.t 85, .mv (.x 1), none⟩,⟨.t 86, .bin .sub (.t 84) (.t 85), none⟩,⟨.t 87, .slcS (.t 82) (some (.t 86)) none, none⟩,⟨.t 88, .bin .add (.t 81) (.t 87), none⟩,⟨.x 10, .mv (.t 88), none⟩]) .skip)) (.seq (.seq (.reg [⟨.t 89, .ldn 3 (.x 2), none⟩,⟨.t 90, .call 40 [(.t 89)], none⟩,⟨.t 91, .bin .lss (.t 90) (.c (.int .i64 0)), none⟩,⟨.t 92, .mv (.t 91), none⟩,⟨.t 93, .ldn 2 (.x 8), (some ((.t 92), true))⟩,⟨.t 94, .call 24 [(.t 93)], (some ((.t 92), true))⟩,⟨.t 95, .bin .gtr (.t 94) (.c (.int .i64 0)), (some ((.t 92), true))⟩,⟨.x 96, .pick (.t 92) (.t 95) (.c (.bool false)), none⟩]) (.cond (.x 96) (.reg [⟨.t 97, .mv (.x 10), none⟩,⟨.t 98, .bin .add (.c (.str [45])) (.t 97), none⟩,⟨.x 10, .mv (.t 98), none⟩]) .skip)) (.seq (.reg [⟨.t 99, .mv (.x 10), none⟩,⟨.x 4, .mv (.t 99), none⟩]) .ret)))))))))))))
def respDecimal : List RV := [.t 4]
theorem nbpDecimal : fnpDecimal.nb = 0 := rfl
theorem ispDecimal : IsFn fnpDecimal 23 codepDecimal respDecimal := ⟨⟨Tryz.f23, _, Tryz.func23, rfl, rfl, by kernel_rfl, by kernel_rfl, by kernel_rfl⟩⟩
noncomputable def fnp_cut : FnD := ⟨Tryz.prog, [0, 1, 4, 5, 6, 7, 8, 12, 18, 27], [], 37, 0, false⟩
def codep_cut : DC := (.seq (.reg [⟨.x 4, .mv (.c (.str [])), none⟩,⟨.x 5, .mv (.c (.str [])), none⟩,⟨.x 6, .mv (.c (.int .i64 0)), none⟩]) (.seq (.seq (.reg [⟨.x 7, .mv (.c (.int .i64 0)), none⟩]) (.block 0 (.loop (.seq (.seq (.reg [⟨.t 9, .mv (.x 7), none⟩,⟨.t 10, .mv (.x 0), none⟩,⟨.t 11, .lenS (.t 10), none⟩,⟨.x 12, .bin .lss (.t 9) (.t 11), none⟩]) (.cond (.x 12) .skip (.exit 0))) (.seq (.block 1 (.seq (.reg [⟨.x 8, .mv (.c (.int .i64 0)), none⟩]) (.block 2 (.loop (.seq (.seq (.reg [⟨.t 15, .mv (.x 8), none⟩,⟨.t 16, .mv (.x 1), none⟩,⟨.t 17, .lenS (.t 16), none⟩,⟨.x 18, .bin .lss (.t 15) (.t 17), none⟩]) (.cond (.x 18) .skip (.exit 2))) (.seq (.block 3 (.seq (.regd [⟨.t 21, .mv (.x 0), none⟩,⟨.t 22, .mv (.x 7), none⟩,⟨.t 23, .idx (.t 21) (.t 22), none⟩,⟨.t 24, .mv (.x 1), none⟩,⟨.t 25, .mv (.x 8), none⟩,⟨.t 26, .idx (.t 24) (.t 25), none⟩,⟨.x 27, .bin .eql (.t 23) (.t 26), none⟩]) (.cond (.x 27) (.seq (.regd [⟨.t 28, .mv (.x 0), none⟩,⟨.t 29, .mv (.x 7), none⟩,⟨.t 30, .slcS (.t 28) none (some (.t 29)), none⟩,⟨.t 31, .mv (.x 0), none⟩,⟨.t 32, .mv (.x 7), none⟩,⟨.t 33, .bin .add (.t 32) (.c (.int .i64 1)), none⟩,⟨.t 34, .slcS (.t 31) (some (.t 33)) none, none⟩,⟨.t 35, .mv (.x 7), none⟩,⟨.x 4, .mv (.t 30), none⟩,⟨.x 5, .mv (.t 34), none⟩,⟨.x 6, .mv (.t 35), none⟩]) .ret) .skip))) (.reg [⟨.t 19, .mv (.x 8), none⟩,⟨.t 20, .bin .add (.t 19) (.c (.int .i64 1)), none⟩,⟨.x 8, .mv (.t 20), none⟩]))))))) (.reg [⟨.t 13, .mv (.x 7), none⟩,⟨.t 14, .bin .add (.t 13) (.c (.int .i64 1)), none⟩,⟨.x 7, .mv (.t 14), none⟩])))))) (.seq (.reg [⟨.t 36, .mv (.x 0), none⟩,⟨.x 4, .mv (.t 36), none⟩,⟨.x 5, .mv (.c (.str [])), none⟩,⟨.x 6, .mv (.c (.int .i64 (-1))), none⟩]) .ret)))
def resp_cut : List RV := [.t 4, .t 5, .t 6]
theorem isp_cut : IsFn fnp_cut 62 codep_cut resp_cut := ⟨⟨Tryz.f62, _, Tryz.func62, rfl, rfl, by kernel_rfl, by kernel_rfl, by kernel_rfl⟩⟩
noncomputable def fnp_decimal : FnD := ⟨Tryz.prog, [0, 2, 3, 4, 5, 6, 8, 9, 10, 11, 12, 42, 56], [], 68, 0, false⟩
def codep_decimal : DC := (.seq (.reg [⟨.x 2, .alloc [(.bool false), .nils, .nils], none⟩,⟨.x 3, .mv (.c (.bool false)), none⟩]) (.seq (.reg [⟨.t 14, .mv (.x 0), none⟩,⟨.t 15, .call 62 [(.t 14), (.c (.str [46]))], none⟩,⟨.t 13, .mv (.t 15), none⟩,⟨.t 16, .ext (.t 13) 0, none⟩,⟨.t 17, .ext (.t 13) 1, none⟩,⟨.t 18, .ext (.t 13) 2, none⟩,⟨.x 4, .mv (.t 16), none⟩,⟨.x 5, .mv (.t 17), none⟩,⟨.x 6, .mv (.t 18), none⟩]) (.seq (.seq (.reg [⟨.t 20, .mv (.x 4), none⟩,⟨.t 21, .call 63 [(.t 20)], none⟩,⟨.t 19, .mv (.t 21), none⟩,⟨.t 22, .ext (.t 19) 0, none⟩,⟨.t 23, .ext (.t 19) 1, none⟩,⟨.t 7, .mv (.t 22), none⟩,⟨.x 8, .mv (.t 23), none⟩]) (.seq (.reg [⟨.t 24, .mv (.x 8), none⟩,⟨.t 25, .un .not (.t 24), none⟩,⟨.t 26, .mv (.t 25), none⟩,⟨.t 27, .mv (.x 6), (some ((.t 26), false))⟩,⟨.t 28, .bin .geq (.t 27) (.c (.int .i64 0)), (some ((.t 26), false))⟩,⟨.t 29, .mv (.t 28), (some ((.t 26), false))⟩,⟨.t 30, .mv (.x 5), (some ((.t 29), true))⟩,⟨.t 31, .call 116 [(.t 30)], (some ((.t 29), true))⟩,⟨.t 32, .un .not (.t 31), (some ((.t 29), true))⟩,⟨.t 33, .pick (.t 29) (.t 32) (.c (.bool false)), (some ((.t 26), false))⟩,⟨.t 34, .pick (.t 26) (.c (.bool true)) (.t 33), none⟩,⟨.t 35, .mv (.t 34), none⟩,⟨.t 36, .mv (.x 4), (some ((.t 35), false))⟩,⟨.t 37, .lenS (.t 36), (some ((.t 35), false))⟩,⟨.t 38, .mv (.x 5), (some ((.t 35), false))⟩,⟨.t 39, .lenS (.t 38), (some ((.t 35), false))⟩,⟨.t 40, .bin .add (.t 37) (.t 39), (some ((.t 35), false))⟩,⟨.t 41, .bin .gtr (.t 40) (.c (.int .i64 4000)), (some ((.t 35), false))⟩,⟨.x 42, .pick (.t 35) (.c (.bool true)) (.t 41), none⟩]) (.cond (.x 42) (.seq (.reg [⟨.t 43, .build [(.bool false), .nils, .nils] [], none⟩,⟨.no, .stn 3 (.x 2) (.t 43), none⟩,⟨.x 3, .mv (.c (.bool false)), none⟩]) .ret) .skip))) (.seq (.reg [⟨.t 45, .mv (.x 4), none⟩,⟨.t 46, .mv (.x 5), none⟩,⟨.t 47, .bin .add (.t 45) (.t 46), none⟩,⟨.t 48, .call 117 [(.t 47)], none⟩,⟨.t 49, .call 63 [(.t 48)], none⟩,⟨.t 44, .mv (.t 49), none⟩,⟨.t 50, .ext (.t 44) 0, none⟩,⟨.t 51, .ext (.t 44) 1, none⟩,⟨.x 9, .mv (.t 50), none⟩,⟨.x 10, .mv (.t 51), none⟩]) (.seq (.reg [⟨.t 52, .bsl 1 [(.int .u32 0)] [(0, 1, (.c (.int .u32 1)))], none⟩,⟨.x 11, .mv (.t 52), none⟩]) (.seq (.seq (.reg [⟨.x 12, .mv (.c (.int .i64 0)), none⟩]) (.block 0 (.loop (.seq (.seq (.reg [⟨.t 53, .mv (.x 12), none⟩,⟨.t 54, .mv (.x 5), none⟩,⟨.t 55, .lenS (.t 54), none⟩,⟨.x 56, .bin .lss (.t 53) (.t 55), none⟩]) (.cond (.x 56) .skip (.exit 0))) (.seq (.block 1 (.reg [⟨.t 59, .mv (.x 11), none⟩,⟨.t 60, .bsl 1 [(.int .u32 0)] [(0, 1, (.c (.int .u32 10)))], none⟩,⟨.t 61, .call 81 [(.t 59), (.t 60)], none⟩,⟨.x 11, .mv (.t 61), none⟩])) (.reg [⟨.t 57, .mv (.x 12), none⟩,⟨.t 58, .bin .add (.t 57) (.c (.int .i64 1)), none⟩,⟨.x 12, .mv (.t 58), none⟩])))))) (.seq (.reg [⟨.t 62, .mv (.x 9), none⟩,⟨.t 63, .build [(.bool false), .nils] [(1, 1, (.t 62))], none⟩,⟨.t 64, .mv (.x 11), none⟩,⟨.t 65, .build [(.bool false), .nils] [(1, 1, (.t 64))], none⟩,⟨.t 66, .call 58 [(.t 63), (.t 65)], none⟩,⟨.t 67, .mv (.x 10), none⟩,⟨.no, .stn 3 (.x 2) (.t 66), none⟩,⟨.x 3, .mv (.t 67), none⟩]) .ret)))))))
def resp_decimal : List RV := [.cn 3 2, .t 3]
theorem nbp_decimal : fnp_decimal.nb = 0 := rfl
theorem isp_decimal : IsFn fnp_decimal 64 codep_decimal resp_decimal := ⟨⟨Tryz.f64, _, Tryz.func64, rfl, rfl, by kernel_rfl, by kernel_rfl, by kernel_rfl⟩⟩
noncomputable def fnp_scaled : FnD := ⟨Tryz.prog, [0, 1, 2, 3, 6, 7, 13], [], 20, 0, false⟩
def codep_scaled : DC := (.seq (.reg [⟨.x 3, .box (.x 0), none⟩,⟨.x 6, .alloc [(.bool false), .nils, .nils], none⟩]) (.seq (.reg [⟨.t 8, .bsl 1 [(.int .u32 0)] [(0, 1, (.c (.int .u32 10)))], none⟩,⟨.t 9, .mv (.x 2), none⟩,⟨.t 10, .call 44 [(.t 8), (.t 9)], none⟩,⟨.t 11, .build [(.bool false), .nils] [(1, 1, (.t 10))], none⟩,⟨.t 12, .build [(.bool false), .nils, .nils] [(0, 2, (.t 11))], none⟩,⟨.x 7, .alloc [(.bool false), .nils, .nils], none⟩,⟨.no, .stn 3 (.x 7) (.t 12), none⟩]) (.seq (.seq (.reg [⟨.x 13, .mv (.x 1), none⟩]) (.cond (.x 13) (.seq (.reg [⟨.t 14, .ldn 3 (.x 3), none⟩,⟨.t 15, .ldn 3 (.x 7), none⟩,⟨.t 16, .call 94 [(.t 14), (.t 15)], none⟩,⟨.no, .stn 3 (.x 6) (.t 16), none⟩]) .ret) .skip)) (.seq (.reg [⟨.t 17, .ldn 3 (.x 3), none⟩,⟨.t 18, .ldn 3 (.x 7), none⟩,⟨.t 19, .call 38 [(.t 17), (.t 18)], none⟩,⟨.no, .stn 3 (.x 6) (.t 19), none⟩]) .ret))))
def resp_scaled : List RV := [.cn 3 6]
theorem nbp_scaled : fnp_scaled.nb = 0 := rfl
theorem isp_scaled : IsFn fnp_scaled 66 codep_scaled resp_scaled := ⟨⟨Tryz.f66, _, Tryz.func66, rfl, rfl, by kernel_rfl, by kernel_rfl, by kernel_rfl⟩⟩
noncomputable def fnp_digits : FnD := ⟨Tryz.prog, [0, 2, 3, 7, 19], [], 23, 0, false⟩
def codep_digits : DC := (.seq (.reg [⟨.x 2, .mv (.c (.bool false)), none⟩]) (.seq (.seq (.reg [⟨.x 3, .mv (.c (.int .i64 0)), none⟩]) (.block 0 (.loop (.seq (.seq (.reg [⟨.t 4, .mv (.x 3), none⟩,⟨.t 5, .mv (.x 0), none⟩,⟨.t 6, .lenS (.t 5), none⟩,⟨.x 7, .bin .lss (.t 4) (.t 6), none⟩]) (.cond (.x 7) .skip (.exit 0))) (.seq (.block 1 (.seq (.reg [⟨.t 10, .mv (.x 0), none⟩,⟨.t 11, .mv (.x 3), none⟩,⟨.t 12, .idx (.t 10) (.t 11), none⟩,⟨.t 13, .bin .lss (.t 12) (.c (.int .u8 48)), none⟩,⟨.t 14, .mv (.t 13), none⟩,⟨.t 15, .mv (.x 0), (some ((.t 14), false))⟩,⟨.t 16, .mv (.x 3), (some ((.t 14), false))⟩,⟨.t 17, .idx (.t 15) (.t 16), (some ((.t 14), false))⟩,⟨.t 18, .bin .gtr (.t 17) (.c (.int .u8 57)), (some ((.t 14), false))⟩,⟨.x 19, .pick (.t 14) (.c (.bool true)) (.t 18), none⟩]) (.cond (.x 19) (.seq (.reg [⟨.x 2, .mv (.c (.bool false)), none⟩]) .ret) .skip))) (.reg [⟨.t 8, .mv (.x 3), none⟩,⟨.t 9, .bin .add (.t 8) (.c (.int .i64 1)), none⟩,⟨.x 3, .mv (.t 9), none⟩])))))) (.seq (.reg [⟨.t 20, .mv (.x 0), none⟩,⟨.t 21, .lenS (.t 20), none⟩,⟨.t 22, .bin .gtr (.t 21) (.c (.int .i64 0)), none⟩,⟨.x 2, .mv (.t 22), none⟩]) .ret)))
def resp_digits : List RV := [.t 2]
theorem isp_digits : IsFn fnp_digits 116 codep_digits resp_digits := ⟨⟨Tryz.f116, _, Tryz.func116, rfl, rfl, by kernel_rfl, by kernel_rfl, by kernel_rfl⟩⟩
noncomputable def fnp_zeros : FnD := ⟨Tryz.prog, [0, 2, 10], [], 14, 0, false⟩
def codep_zeros : DC := (.seq (.reg [⟨.x 2, .mv (.c (.str [])), none⟩]) (.seq (.block 0 (.loop (.seq (.seq (.reg [⟨.t 3, .mv (.x 0), none⟩,⟨.t 4, .lenS (.t 3), none⟩,⟨.t 5, .bin .gtr (.t 4) (.c (.int .i64 1)), none⟩,⟨.t 6, .mv (.t 5), none⟩,⟨.t 7, .mv (.x 0), (some ((.t 6), true))⟩,⟨.t 8, .idx (.t 7) (.c (.int .i64 0)), (some ((.t 6), true))⟩,⟨.t 9, .bin .eql (.t 8) (.c (.int .u8 48)), (some ((.t 6), true))⟩,⟨.x 10, .pick (.t 6) (.t 9) (.c (.bool false)), none⟩]) (.cond (.x 10) .skip (.exit 0))) (.block 1 (.reg [⟨.t 11, .mv (.x 0), none⟩,⟨.t 12, .slcS (.t 11) (some (.c (.int .i64 1))) none, none⟩,⟨.x 0, .mv (.t 12), none⟩]))))) (.seq (.reg [⟨.t 13, .mv (.x 0), none⟩,⟨.x 2, .mv (.t 13), none⟩]) .ret)))
def resp_zeros : List RV := [.t 2]
theorem isp_zeros : IsFn fnp_zeros 117 codep_zeros resp_zeros := ⟨⟨Tryz.f117, _, Tryz.func117, rfl, rfl, by kernel_rfl, by kernel_rfl, by kernel_rfl⟩⟩
end Go.Proofs.YteiagmmfapbaiaaGreatDoor
namespace Go.Proofs.YteiagmmfapbaiaaGreatDoor
open Go Go.Dat Go.Proofs Nat32 Go.RowKit
open Go.Lib (decDigits repeatL)
def lightB (a d : List Nat) : Bool := decide (a.length ≤ 8) && decide (d.length ≤ 8)
theorem mdLight_calls (neg : Bool) (a d : List Nat) : PCalls Tryz.prog 17 [XQ neg a d] (.bool (lightB a d)) := by
  have k1 : decide ((a.length : Int) ≤ 8) = decide (a.length ≤ 8) := by rw [decide_eq_decide]; omega
  have k2 : decide ((d.length : Int) ≤ 8) = decide (d.length ≤ 8) := by rw [decide_eq_decide]; omega
  refine PCalls_of ismdLight (by simp [fnmdLight]) ?_
  unfold codemdLight lightB
  by_cases h : a.length ≤ 8
  · rw [decide_eq_true h] at k1 ⊢
    repeat (first | refine W_seq ?_ | refine W_reg ?_ | refine W_regd ?_ | refine W_block ?_ | refine And.intro (by omega) ?_ | simp (maxSteps := 1000000) (disch := omega) only [cA, cB, cC, frz_us, binE, unE, boundE, newsE, blkQ, Nat.reduceEqDiff, Nat.reduceLT, Nat.reduceAdd, ↓reduceIte, reduceCtorEq, Nat.reduceLeDiff, XQ, cS, nbmdLight, us_length, k1, k2, Bool.true_and])
    exact W_ret (RetP_1 (.imm rfl))
  · rw [decide_eq_false h] at k1 ⊢
    repeat (first | refine W_seq ?_ | refine W_reg ?_ | refine W_regd ?_ | refine W_block ?_ | refine And.intro (by omega) ?_ | simp (maxSteps := 1000000) (disch := omega) only [cA, cB, cC, frz_us, binE, unE, boundE, newsE, blkQ, Nat.reduceEqDiff, Nat.reduceLT, Nat.reduceAdd, ↓reduceIte, reduceCtorEq, Nat.reduceLeDiff, XQ, cS, nbmdLight, us_length, k1, k2, Bool.false_and])
    exact W_ret (RetP_1 (.imm rfl))
theorem lightB_spec {a d : List Nat} (h : lightB a d = true) : a.length ≤ 8 ∧ d.length ≤ 8 := by
  unfold lightB at h; simpa using h
end Go.Proofs.YteiagmmfapbaiaaGreatDoor
namespace Go.Proofs.YteiagmmfapbaiaaGreatDoor
open Go Go.Dat Go.Proofs Nat32 Go.RowKit
open Go.Lib (decDigits repeatL)
def pB (bs : List UInt8) (c : UInt8) : Bool := bs.contains c
def pcutR (p : UInt8 → Bool) (l : List UInt8) : DV := if fi p l < l.length then .tup [.str (l.take (fi p l)), .str (l.drop (fi p l + 1)), .int .i64 (fi p l)] else .tup [.str l, .str [], .int .i64 (-1)]
theorem pB47 : pB [47] = is47 := by
  funext c; unfold pB is47
  simp only [List.contains_cons, List.contains_nil, Bool.or_false, beq_dec]
theorem pB46 : pB [46] = is46 := by
  funext c; unfold pB is46
  simp only [List.contains_cons, List.contains_nil, Bool.or_false, beq_dec]
theorem pBE : pB [101, 69] = isE := by
  funext c; unfold pB isE
  simp only [List.contains_cons, List.contains_nil, Bool.or_false, beq_dec]
theorem pB_true {bs : List UInt8} {c : UInt8} (k : Nat) (hk : k < bs.length) (h : c = bs.getD k 0) : pB bs c = true := by
  unfold pB
  rw [List.contains_iff_mem, h, List.getD_eq_getElem?_getD, List.getElem?_eq_getElem hk]
  exact List.getElem_mem hk
theorem pB_false {bs : List UInt8} {c : UInt8} (h : ∀ j, j < bs.length → ¬ c = bs.getD j 0) : pB bs c = false := by
  rw [← Bool.not_eq_true]
  unfold pB
  rw [List.contains_iff_mem]
  intro hc
  obtain ⟨j, hj, e⟩ := List.mem_iff_getElem.1 hc
  exact h j hj (by rw [List.getD_eq_getElem?_getD, List.getElem?_eq_getElem hj, ← e]; rfl)
set_option maxHeartbeats 1000000 in
theorem p_cut_calls (l bs : List UInt8) (hl : l.length ≤ 100000) (hb : bs.length ≤ 100) : PCalls Tryz.prog 62 [.str l, .str bs] (pcutR (pB bs) l) := by
  refine PCalls_of isp_cut (by simp [fnp_cut]) ?_
  unfold codep_cut pcutR
  have hfl := fi_le (pB bs) l
  have hat := fi_at (pB bs) l
  have hbf := fi_before (pB bs) l
  repeat (first | refine W_seq ?_ | refine W_reg ?_ | refine W_regd ?_ | refine W_block ?_ | refine And.intro (by omega) ?_ | simp (maxSteps := 1000000) (disch := omega) only [cA, cB, cC, frz_us, binE, unE, boundE, newsE, blkQ, Nat.reduceEqDiff, Nat.reduceLT, Nat.reduceAdd, ↓reduceIte, reduceCtorEq, Nat.reduceLeDiff])
  refine W_loop (σ := Nat) (fun i => [(0, .str l), (1, .str bs), (4, .str []), (5, .str []), (6, .int .i64 0), (7, .int .i64 i)]) (fun _ => []) (fun i => i ≤ l.length ∧ i ≤ fi (pB bs) l) (fun i => l.length - i) 0 (And.intro (Nat.zero_le _) (Nat.zero_le _)) ?_ rfl ?_
  · simp [subF, lk]
  · rintro i ⟨hi, hf⟩
    try simp only at hi hf ⊢
    by_cases hlt : i < l.length
    · have dl : decide ((i : Int) < l.length) = true := decide_eq_true (by omega)
      have ei : (i : Int).toNat = i := Int.toNat_natCast i
      obtain ⟨c, hc⟩ : ∃ c, l.getD i 0 = c := ⟨_, rfl⟩
      have hnext : pB bs c = false → i + 1 ≤ fi (pB bs) l := fun h => by
        rcases Nat.lt_or_ge i (fi (pB bs) l) with k | k
        · exact k
        · have e : fi (pB bs) l = i := by omega
          have := hat (by omega)
          rw [e, hc, h] at this; cases this
      have hstop : pB bs c = true → fi (pB bs) l = i := fun h => by
        rcases Nat.lt_or_ge i (fi (pB bs) l) with k | k
        · have := hbf i k
          rw [hc, h] at this; cases this
        · omega
      clear hat hbf
      repeat (first | refine W_seq ?_ | refine W_reg ?_ | refine W_regd ?_ | refine W_block ?_ | refine And.intro (by omega) ?_ | simp (maxSteps := 1000000) (disch := omega) only [cA, cB, cC, frz_us, binE, unE, boundE, newsE, blkQ, Nat.reduceEqDiff, Nat.reduceLT, Nat.reduceAdd, ↓reduceIte, reduceCtorEq, Nat.reduceLeDiff, dl])
      refine W_cond rfl (fun _ => W_skip ?_) (fun h => by cases h)
      repeat (first | refine W_seq ?_ | refine W_reg ?_ | refine W_regd ?_ | refine W_block ?_ | refine And.intro (by omega) ?_ | simp (maxSteps := 1000000) (disch := omega) only [cA, cB, cC, frz_us, binE, unE, boundE, newsE, blkQ, Nat.reduceEqDiff, Nat.reduceLT, Nat.reduceAdd, ↓reduceIte, reduceCtorEq, Nat.reduceLeDiff])
      refine W_loop (σ := Nat) (fun k => [(0, .str l), (1, .str bs), (4, .str []), (5, .str []), (6, .int .i64 0), (7, .int .i64 i), (8, .int .i64 k)]) (fun _ => []) (fun k => k ≤ bs.length ∧ ∀ j, j < k → ¬ c = bs.getD j 0) (fun k => bs.length - k) 0 (And.intro (Nat.zero_le _) (fun j hj => absurd hj (by omega))) ?_ rfl ?_
      · simp [subF, lk]
      · rintro k ⟨hk, hno⟩
        try simp only at hk hno ⊢
        by_cases hkt : k < bs.length
        · have dk : decide ((k : Int) < bs.length) = true := decide_eq_true (by omega)
          have ek : (k : Int).toNat = k := Int.toNat_natCast k
          obtain ⟨x, hx⟩ : ∃ x, bs.getD k 0 = x := ⟨_, rfl⟩
          have eb : ∀ z : UInt8, byteD z = .int .u8 (z.toNat : Nat) := fun _ => rfl
          by_cases he : c = x
          · have de : decide (((c.toNat : Nat) : Int) = ((x.toNat : Nat) : Int)) = true := decide_eq_true (by rw [he])
            have hs := hstop (pB_true k hkt (he.trans hx.symm))
            rw [hs, if_pos hlt]
            have e1 : ((i : Int) + 1).toNat = i + 1 := by omega
            have e2 : (l.take l.length).drop (i + 1) = l.drop (i + 1) := by rw [List.take_length]
            have e3 : (l.take i).drop 0 = l.take i := rfl
            clear hno hnext hstop
            repeat (first | refine W_seq ?_ | refine W_reg ?_ | refine W_regd ?_ | refine W_block ?_ | refine And.intro (by omega) ?_ | simp (maxSteps := 1000000) (disch := omega) only [cA, cB, cC, frz_us, binE, unE, boundE, newsE, blkQ, Nat.reduceEqDiff, Nat.reduceLT, Nat.reduceAdd, ↓reduceIte, reduceCtorEq, Nat.reduceLeDiff, dk])
            refine W_cond rfl (fun _ => W_skip ?_) (fun h => by cases h)
            repeat (first | refine W_seq ?_ | refine W_reg ?_ | refine W_regd ?_ | refine W_block ?_ | refine And.intro (by omega) ?_ | simp (maxSteps := 1000000) (disch := omega) only [cA, cB, cC, frz_us, binE, unE, boundE, newsE, blkQ, Nat.reduceEqDiff, Nat.reduceLT, Nat.reduceAdd, ↓reduceIte, reduceCtorEq, Nat.reduceLeDiff, ei, ek, hc, hx, eb, de])
            refine W_cond rfl (fun _ => ?_) (fun h => by cases h)
            repeat (first | refine W_seq ?_ | refine W_reg ?_ | refine W_regd ?_ | refine W_block ?_ | refine And.intro (by omega) ?_ | simp (maxSteps := 1000000) (disch := omega) only [cA, cB, cC, frz_us, binE, unE, boundE, newsE, blkQ, Nat.reduceEqDiff, Nat.reduceLT, Nat.reduceAdd, ↓reduceIte, reduceCtorEq, Nat.reduceLeDiff, ei, e1, e2, e3, List.take_length])
            exact W_ret (RetP_3 (.imm rfl) (.imm rfl) (.imm rfl))
          · have de : decide (((c.toNat : Nat) : Int) = ((x.toNat : Nat) : Int)) = false := decide_eq_false (fun h => he (UInt8.toNat_inj.1 (by omega)))
            have e1 : ((k : Int) + 1) = ((k + 1 : Nat) : Int) := by omega
            have hno' : ∀ j, j < k + 1 → ¬ c = bs.getD j 0 := fun j hj => by
              rcases Nat.lt_or_ge j k with h | h
              · exact hno j h
              · rw [show j = k by omega, hx]; exact he
            clear hno hnext hstop
            repeat (first | refine W_seq ?_ | refine W_reg ?_ | refine W_regd ?_ | refine W_block ?_ | refine And.intro (by omega) ?_ | simp (maxSteps := 1000000) (disch := omega) only [cA, cB, cC, frz_us, binE, unE, boundE, newsE, blkQ, Nat.reduceEqDiff, Nat.reduceLT, Nat.reduceAdd, ↓reduceIte, reduceCtorEq, Nat.reduceLeDiff, dk])
            refine W_cond rfl (fun _ => W_skip ?_) (fun h => by cases h)
            repeat (first | refine W_seq ?_ | refine W_reg ?_ | refine W_regd ?_ | refine W_block ?_ | refine And.intro (by omega) ?_ | simp (maxSteps := 1000000) (disch := omega) only [cA, cB, cC, frz_us, binE, unE, boundE, newsE, blkQ, Nat.reduceEqDiff, Nat.reduceLT, Nat.reduceAdd, ↓reduceIte, reduceCtorEq, Nat.reduceLeDiff, ei, ek, hc, hx, eb, de])
            refine W_cond rfl (fun h => by cases h) (fun _ => W_skip ?_)
            repeat (first | refine W_seq ?_ | refine W_reg ?_ | refine W_regd ?_ | refine W_block ?_ | refine And.intro (by omega) ?_ | simp (maxSteps := 1000000) (disch := omega) only [cA, cB, cC, frz_us, binE, unE, boundE, newsE, blkQ, Nat.reduceEqDiff, Nat.reduceLT, Nat.reduceAdd, ↓reduceIte, reduceCtorEq, Nat.reduceLeDiff, e1])
            exact ⟨k + 1, And.intro hkt hno', by omega, by simp [subF, lk]⟩
        · have dk : decide ((k : Int) < bs.length) = false := decide_eq_false (by omega)
          have hkl : k = bs.length := by omega
          subst hkl
          have hn := hnext (pB_false hno)
          have e1 : ((i : Int) + 1) = ((i + 1 : Nat) : Int) := by omega
          clear hno hnext hstop
          repeat (first | refine W_seq ?_ | refine W_reg ?_ | refine W_regd ?_ | refine W_block ?_ | refine And.intro (by omega) ?_ | simp (maxSteps := 1000000) (disch := omega) only [cA, cB, cC, frz_us, binE, unE, boundE, newsE, blkQ, Nat.reduceEqDiff, Nat.reduceLT, Nat.reduceAdd, ↓reduceIte, reduceCtorEq, Nat.reduceLeDiff, dk])
          refine W_cond rfl (fun h => by cases h) (fun _ => W_exit ?_)
          repeat (first | refine W_seq ?_ | refine W_reg ?_ | refine W_regd ?_ | refine W_block ?_ | refine And.intro (by omega) ?_ | simp (maxSteps := 1000000) (disch := omega) only [cA, cB, cC, frz_us, binE, unE, boundE, newsE, blkQ, Nat.reduceEqDiff, Nat.reduceLT, Nat.reduceAdd, ↓reduceIte, reduceCtorEq, Nat.reduceLeDiff, e1])
          exact ⟨i + 1, And.intro hlt hn, by omega, by simp [subF, lk]⟩
    · have dl : decide ((i : Int) < l.length) = false := decide_eq_false (by omega)
      rw [if_neg (by omega)]
      clear hat hbf
      repeat (first | refine W_seq ?_ | refine W_reg ?_ | refine W_regd ?_ | refine W_block ?_ | refine And.intro (by omega) ?_ | simp (maxSteps := 1000000) (disch := omega) only [cA, cB, cC, frz_us, binE, unE, boundE, newsE, blkQ, Nat.reduceEqDiff, Nat.reduceLT, Nat.reduceAdd, ↓reduceIte, reduceCtorEq, Nat.reduceLeDiff, dl])
      refine W_cond rfl (fun h => by cases h) (fun _ => W_exit ?_)
      repeat (first | refine W_seq ?_ | refine W_reg ?_ | refine W_regd ?_ | refine W_block ?_ | refine And.intro (by omega) ?_ | simp (maxSteps := 1000000) (disch := omega) only [cA, cB, cC, frz_us, binE, unE, boundE, newsE, blkQ, Nat.reduceEqDiff, Nat.reduceLT, Nat.reduceAdd, ↓reduceIte, reduceCtorEq, Nat.reduceLeDiff])
      exact W_ret (RetP_3 (.imm rfl) (.imm rfl) (.imm rfl))
theorem p_digits_calls (l : List UInt8) (hl : l.length ≤ 100000) : PCalls Tryz.prog 116 [.str l] (.bool (digs l)) := by
  refine PCalls_of isp_digits (by simp [fnp_digits]) ?_
  unfold codep_digits
  repeat (first | refine W_seq ?_ | refine W_reg ?_ | refine W_regd ?_ | refine W_block ?_ | refine And.intro (by omega) ?_ | simp (maxSteps := 1000000) (disch := omega) only [cA, cB, cC, frz_us, binE, unE, boundE, newsE, blkQ, Nat.reduceEqDiff, Nat.reduceLT, Nat.reduceAdd, ↓reduceIte, reduceCtorEq, Nat.reduceLeDiff])
  refine W_loop (σ := Nat) (fun i => [(0, .str l), (2, .bool false), (3, .int .i64 i)]) (fun _ => []) (fun i => i ≤ l.length ∧ (l.take i).all isD = true) (fun i => l.length - i) 0 (And.intro (Nat.zero_le _) rfl) ?_ rfl ?_
  · simp [subF, lk]
  · rintro i ⟨hi, hall⟩
    try simp only at hi hall ⊢
    by_cases hlt : i < l.length
    · have dl : decide ((i : Int) < l.length) = true := decide_eq_true (by omega)
      have ei : (i : Int).toNat = i := Int.toNat_natCast i
      have hg2 : l.getD i 0 = l[i] := by rw [List.getD_eq_getElem?_getD, List.getElem?_eq_getElem hlt]; rfl
      have hta := take_all hlt hall
      have hmem : l[i] ∈ l := List.getElem_mem hlt
      generalize l[i] = c at *
      have hk : c.toNat < 256 := UInt8.toNat_lt c
      have eb : byteD c = .int .u8 (c.toNat : Nat) := rfl
      have e1 : ((i : Int) + 1) = ((i + 1 : Nat) : Int) := by omega
      have hbad : ¬ isD c = true → digs l = false := fun h => by
        unfold digs
        rw [Bool.and_eq_false_iff]
        right
        rw [← Bool.not_eq_true]
        exact fun k => h (List.all_eq_true.1 k c hmem)
      repeat (first | refine W_seq ?_ | refine W_reg ?_ | refine W_regd ?_ | refine W_block ?_ | refine And.intro (by omega) ?_ | simp (maxSteps := 1000000) (disch := omega) only [cA, cB, cC, frz_us, binE, unE, boundE, newsE, blkQ, Nat.reduceEqDiff, Nat.reduceLT, Nat.reduceAdd, ↓reduceIte, reduceCtorEq, Nat.reduceLeDiff, dl])
      refine W_cond rfl (fun _ => W_skip ?_) (fun h => by cases h)
      by_cases hd : isD c = true
      · have hd' := hd
        simp only [isD, Bool.and_eq_true, decide_eq_true_eq] at hd'
        have d5 : decide (((c.toNat : Nat) : Int) < 48) = false := decide_eq_false (by omega)
        have d6 : decide ((57 : Int) < ((c.toNat : Nat) : Int)) = false := decide_eq_false (by omega)
        have hta' := hta hd
        clear hta hall hd hbad hmem
        (replace hta' := Hid.mk hta')
        repeat (first | refine W_seq ?_ | refine W_reg ?_ | refine W_regd ?_ | refine W_block ?_ | refine And.intro (by omega) ?_ | simp (maxSteps := 1000000) (disch := omega) only [cA, cB, cC, frz_us, binE, unE, boundE, newsE, blkQ, Nat.reduceEqDiff, Nat.reduceLT, Nat.reduceAdd, ↓reduceIte, reduceCtorEq, Nat.reduceLeDiff, ei, hg2, eb, d5, d6])
        refine W_cond rfl (fun h => by cases h) (fun _ => W_skip ?_)
        repeat (first | refine W_seq ?_ | refine W_reg ?_ | refine W_regd ?_ | refine W_block ?_ | refine And.intro (by omega) ?_ | simp (maxSteps := 1000000) (disch := omega) only [cA, cB, cC, frz_us, binE, unE, boundE, newsE, blkQ, Nat.reduceEqDiff, Nat.reduceLT, Nat.reduceAdd, ↓reduceIte, reduceCtorEq, Nat.reduceLeDiff, e1])
        exact ⟨i + 1, And.intro hlt hta'.out, by omega, by simp [subF, lk]⟩
      · rw [hbad hd]
        clear hta hall hbad hmem
        by_cases h5 : c.toNat < 48
        · have d5 : decide (((c.toNat : Nat) : Int) < 48) = true := decide_eq_true (by omega)
          repeat (first | refine W_seq ?_ | refine W_reg ?_ | refine W_regd ?_ | refine W_block ?_ | refine And.intro (by omega) ?_ | simp (maxSteps := 1000000) (disch := omega) only [cA, cB, cC, frz_us, binE, unE, boundE, newsE, blkQ, Nat.reduceEqDiff, Nat.reduceLT, Nat.reduceAdd, ↓reduceIte, reduceCtorEq, Nat.reduceLeDiff, ei, hg2, eb, d5])
          refine W_cond rfl (fun _ => ?_) (fun h => by cases h)
          repeat (first | refine W_seq ?_ | refine W_reg ?_ | refine W_regd ?_ | refine W_block ?_ | refine And.intro (by omega) ?_ | simp (maxSteps := 1000000) (disch := omega) only [cA, cB, cC, frz_us, binE, unE, boundE, newsE, blkQ, Nat.reduceEqDiff, Nat.reduceLT, Nat.reduceAdd, ↓reduceIte, reduceCtorEq, Nat.reduceLeDiff])
          exact W_ret (RetP_1 (.imm rfl))
        · have h57 : 57 < c.toNat := by
            simp only [isD, Bool.and_eq_true, decide_eq_true_eq] at hd
            omega
          have d5 : decide (((c.toNat : Nat) : Int) < 48) = false := decide_eq_false (by omega)
          have d6 : decide ((57 : Int) < ((c.toNat : Nat) : Int)) = true := decide_eq_true (by omega)
          clear hd
          repeat (first | refine W_seq ?_ | refine W_reg ?_ | refine W_regd ?_ | refine W_block ?_ | refine And.intro (by omega) ?_ | simp (maxSteps := 1000000) (disch := omega) only [cA, cB, cC, frz_us, binE, unE, boundE, newsE, blkQ, Nat.reduceEqDiff, Nat.reduceLT, Nat.reduceAdd, ↓reduceIte, reduceCtorEq, Nat.reduceLeDiff, ei, hg2, eb, d5, d6])
          refine W_cond rfl (fun _ => ?_) (fun h => by cases h)
          repeat (first | refine W_seq ?_ | refine W_reg ?_ | refine W_regd ?_ | refine W_block ?_ | refine And.intro (by omega) ?_ | simp (maxSteps := 1000000) (disch := omega) only [cA, cB, cC, frz_us, binE, unE, boundE, newsE, blkQ, Nat.reduceEqDiff, Nat.reduceLT, Nat.reduceAdd, ↓reduceIte, reduceCtorEq, Nat.reduceLeDiff])
          exact W_ret (RetP_1 (.imm rfl))
    · have dl : decide ((i : Int) < l.length) = false := decide_eq_false (by omega)
      have hil : i = l.length := by omega
      have hdg : digs l = decide ((0 : Int) < (l.length : Int)) := by
        unfold digs
        rw [hil, List.take_length] at hall
        rw [hall, Bool.and_true, decide_eq_decide]
        omega
      rw [hdg]
      repeat (first | refine W_seq ?_ | refine W_reg ?_ | refine W_regd ?_ | refine W_block ?_ | refine And.intro (by omega) ?_ | simp (maxSteps := 1000000) (disch := omega) only [cA, cB, cC, frz_us, binE, unE, boundE, newsE, blkQ, Nat.reduceEqDiff, Nat.reduceLT, Nat.reduceAdd, ↓reduceIte, reduceCtorEq, Nat.reduceLeDiff, dl])
      refine W_cond rfl (fun h => by cases h) (fun _ => W_exit ?_)
      repeat (first | refine W_seq ?_ | refine W_reg ?_ | refine W_regd ?_ | refine W_block ?_ | refine And.intro (by omega) ?_ | simp (maxSteps := 1000000) (disch := omega) only [cA, cB, cC, frz_us, binE, unE, boundE, newsE, blkQ, Nat.reduceEqDiff, Nat.reduceLT, Nat.reduceAdd, ↓reduceIte, reduceCtorEq, Nat.reduceLeDiff])
      exact W_ret (RetP_1 (.imm rfl))
def zrs : List UInt8 → List UInt8
  | [] => []
  | c :: l => if l = [] then [c] else if c = 48 then zrs l else c :: l
theorem zrs_sig : ∀ l : List UInt8, l.all isD = true → l ≠ [] → zrs l = sig l
  | [], _, h => absurd rfl h
  | c :: l, h, _ => by
    rw [List.all_cons, Bool.and_eq_true] at h
    unfold zrs sig
    rw [trimL_cons]
    by_cases hl : l = []
    · subst hl
      by_cases hc : c = 48
      · subst hc; rfl
      · rw [if_pos rfl, if_neg hc, if_neg (by simp)]
    · rw [if_neg hl]
      by_cases hc : c = 48
      · rw [if_pos hc, if_pos hc, zrs_sig l h.2 hl]; rfl
      · rw [if_neg hc, if_neg hc, if_neg (by simp)]
theorem p_zeros_calls (l : List UInt8) (hl : l.length ≤ 100000) : PCalls Tryz.prog 117 [.str l] (.str (zrs l)) := by
  refine PCalls_of isp_zeros (by simp [fnp_zeros]) ?_
  unfold codep_zeros
  repeat (first | refine W_seq ?_ | refine W_reg ?_ | refine W_regd ?_ | refine W_block ?_ | refine And.intro (by omega) ?_ | simp (maxSteps := 1000000) (disch := omega) only [cA, cB, cC, frz_us, binE, unE, boundE, newsE, blkQ, Nat.reduceEqDiff, Nat.reduceLT, Nat.reduceAdd, ↓reduceIte, reduceCtorEq, Nat.reduceLeDiff])
  refine W_loop (σ := List UInt8) (fun s => [(0, .str s), (2, .str [])]) (fun _ => []) (fun s => zrs s = zrs l ∧ s.length ≤ 100000) (fun s => s.length) l (And.intro rfl hl) ?_ rfl ?_
  · simp [subF, lk]
  · rintro s ⟨hs, hsl⟩
    try simp only at hs hsl ⊢
    have e0 : (Int.toNat 0) = 0 := rfl
    have e1 : (Int.toNat 1) = 1 := rfl
    by_cases hlong : 1 < s.length
    case neg =>
      have d : decide ((1 : Int) < (s.length : Int)) = false := decide_eq_false (by omega)
      have hz : s = zrs l := by
        rw [← hs]
        match s, hlong with
        | [], _ => rfl
        | [c], _ => rfl
        | c :: c2 :: t, h => simp at h
      rw [← hz]
      repeat (first | refine W_seq ?_ | refine W_reg ?_ | refine W_regd ?_ | refine W_block ?_ | refine And.intro (by omega) ?_ | simp (maxSteps := 1000000) (disch := omega) only [cA, cB, cC, frz_us, binE, unE, boundE, newsE, blkQ, Nat.reduceEqDiff, Nat.reduceLT, Nat.reduceAdd, ↓reduceIte, reduceCtorEq, Nat.reduceLeDiff, d])
      refine W_cond rfl (fun h => by cases h) (fun _ => W_exit ?_)
      repeat (first | refine W_seq ?_ | refine W_reg ?_ | refine W_regd ?_ | refine W_block ?_ | refine And.intro (by omega) ?_ | simp (maxSteps := 1000000) (disch := omega) only [cA, cB, cC, frz_us, binE, unE, boundE, newsE, blkQ, Nat.reduceEqDiff, Nat.reduceLT, Nat.reduceAdd, ↓reduceIte, reduceCtorEq, Nat.reduceLeDiff])
      exact W_ret (RetP_1 (.imm rfl))
    match s, hs, hsl, hlong with
    | c :: c2 :: t, hs, hsl, _ =>
      have d : decide ((1 : Int) < ((c :: c2 :: t).length : Int)) = true := decide_eq_true (by simp; omega)
      have hg : (c :: c2 :: t).getD 0 0 = c := rfl
      have eb : byteD c = .int .u8 (c.toNat : Nat) := rfl
      have hL : 1 < (c :: c2 :: t).length := by simp
      have htl : ((c :: c2 :: t).take (c :: c2 :: t).length).drop 1 = c2 :: t := by rw [List.take_length]; rfl
      have hlen : (c2 :: t).length < (c :: c2 :: t).length := by simp
      by_cases hc : c = 48
      · have dc : decide (((c.toNat : Nat) : Int) = 48) = true := decide_eq_true (by rw [hc]; rfl)
        have hs' : zrs (c2 :: t) = zrs l := by
          rw [← hs]
          conv => rhs; unfold zrs
          rw [if_neg (by simp), if_pos hc]
        generalize c :: c2 :: t = S at *
        repeat (first | refine W_seq ?_ | refine W_reg ?_ | refine W_regd ?_ | refine W_block ?_ | refine And.intro (by omega) ?_ | simp (maxSteps := 1000000) (disch := omega) only [cA, cB, cC, frz_us, binE, unE, boundE, newsE, blkQ, Nat.reduceEqDiff, Nat.reduceLT, Nat.reduceAdd, ↓reduceIte, reduceCtorEq, Nat.reduceLeDiff, d, e0, hg, eb, dc])
        refine W_cond rfl (fun _ => W_skip ?_) (fun h => by cases h)
        repeat (first | refine W_seq ?_ | refine W_reg ?_ | refine W_regd ?_ | refine W_block ?_ | refine And.intro (by omega) ?_ | simp (maxSteps := 1000000) (disch := omega) only [cA, cB, cC, frz_us, binE, unE, boundE, newsE, blkQ, Nat.reduceEqDiff, Nat.reduceLT, Nat.reduceAdd, ↓reduceIte, reduceCtorEq, Nat.reduceLeDiff, e1, htl])
        exact ⟨c2 :: t, And.intro hs' (by omega), hlen, by simp [subF, lk]⟩
      · have dc : decide (((c.toNat : Nat) : Int) = 48) = false := decide_eq_false (fun h => hc (UInt8.toNat_inj.1 (show c.toNat = 48 by omega)))
        have hs' : c :: c2 :: t = zrs l := by
          rw [← hs]
          conv => rhs; unfold zrs
          rw [if_neg (by simp), if_neg hc]
        rw [← hs']
        generalize c :: c2 :: t = S at *
        repeat (first | refine W_seq ?_ | refine W_reg ?_ | refine W_regd ?_ | refine W_block ?_ | refine And.intro (by omega) ?_ | simp (maxSteps := 1000000) (disch := omega) only [cA, cB, cC, frz_us, binE, unE, boundE, newsE, blkQ, Nat.reduceEqDiff, Nat.reduceLT, Nat.reduceAdd, ↓reduceIte, reduceCtorEq, Nat.reduceLeDiff, d, e0, hg, eb, dc])
        refine W_cond rfl (fun h => by cases h) (fun _ => W_exit ?_)
        repeat (first | refine W_seq ?_ | refine W_reg ?_ | refine W_regd ?_ | refine W_block ?_ | refine And.intro (by omega) ?_ | simp (maxSteps := 1000000) (disch := omega) only [cA, cB, cC, frz_us, binE, unE, boundE, newsE, blkQ, Nat.reduceEqDiff, Nat.reduceLT, Nat.reduceAdd, ↓reduceIte, reduceCtorEq, Nat.reduceLeDiff])
        exact W_ret (RetP_1 (.imm rfl))
end Go.Proofs.YteiagmmfapbaiaaGreatDoor
namespace Nat32
open Go Go.Dat
open Go.Lib (decDigits)
theorem okD_45 (l : List UInt8) : okD (45 :: l) = false := by
  rw [← Bool.not_eq_true, okD_iff']
  intro h
  have := h.2.2.2
  rw [List.all_cons] at this
  simp [isD] at this
theorem fi_45 {p : UInt8 → Bool} (hp : p 45 = false) (l : List UInt8) : fi p (45 :: l) = fi p l + 1 := by
  simp [fi, hp]
theorem decOk_45 (l : List UInt8) : decOk (45 :: l) = false := by
  unfold decOk decN
  rw [fi_45 rfl, List.take_succ_cons, okD_45]
  rfl
theorem unsQ_45 (l : List UInt8) : unsQ (45 :: l) = none := by
  unfold unsQ
  rw [fi_45 (p := is47) rfl]
  split
  · rw [List.take_succ_cons, okD_45]; rfl
  · rw [fi_45 (p := isE) rfl]
    split
    · rw [List.take_succ_cons, decOk_45, Bool.and_false]; rfl
    · rw [decOk_45]; rfl
theorem mk_mul_nat (n : Int) (d T : Nat) : mkRat n d * (((T : Nat) : Int) : Rat) = mkRat (n * T) d := by
  rw [show (((T : Nat) : Int) : Rat) = mkRat (T : Int) 1 from (Rat.mkRat_one _).symm, Rat.mkRat_mul_mkRat, Nat.mul_one]
theorem mk_div_nat (n : Int) (d T : Nat) : mkRat n d / (((T : Nat) : Int) : Rat) = mkRat n (d * T) := by
  rw [Rat.div_def, Rat.inv_def, Rat.num_intCast, Rat.den_intCast, Rat.divInt_ofNat, Rat.mkRat_mul_mkRat]
  simp
theorem scl_mul (neg : Bool) (n : Int) (d k : Nat) : scl neg n d k = if neg then mkRat n d / (((10 ^ k : Nat) : Int) : Rat) else mkRat n d * (((10 ^ k : Nat) : Int) : Rat) := by
  unfold scl
  cases neg
  · rw [if_neg (by decide), if_neg (by decide), mk_mul_nat]; simp
  · rw [if_pos rfl, if_pos rfl, mk_div_nat]
theorem ten_cast_ne (k : Nat) : (((10 ^ k : Nat) : Int) : Rat) ≠ 0 := fun h => by
  have := congrArg Rat.num h
  rw [Rat.num_intCast] at this
  have h2 := ten_ne k
  rw [show (0 : Rat).num = 0 from rfl] at this
  omega
theorem digs_ne {l : List UInt8} (h : okD l = true) : l ≠ [] := ((okD_iff' l).1 h).1
end Nat32
namespace Go.Proofs.YteiagmmfapbaiaaGreatDoor
open Go Go.Dat Go.Proofs Nat32 Go.RowKit
open Go.Lib (decDigits repeatL)
theorem rParse_pn (a : List UInt8) : PCalls Tryz.prog 63 [.str a] (.tup [.sl 1 (us (limbs (pn a))), .bool (okD a)]) := by
  have := rParse_calls a
  rwa [parseR_pn] at this
theorem rUint_pn (a : List UInt8) (hl : a.length ≤ 1000) : PCalls Tryz.prog 65 [.sl 1 (us (limbs (pn a)))] (uintR (pn a)) := by
  have hx : (limbs (pn a)).length ≤ 1000 := by
    unfold pn
    by_cases h : okD a = true
    · rw [if_pos h]; exact dval_le (okD_all h) hl
    · rw [if_neg h, limbs_zero]; simp
  have := rUint_calls (limbs (pn a)) (by omega) (lim_limbs _)
  rwa [vn_limbs] at this
theorem pcut46 (m : List UInt8) (hl : m.length ≤ 100000) : PCalls Tryz.prog 62 [.str m, .str [46]] (.tup [.str (decN m), .str (decF m), .int .i64 (idx is46 m)]) := by
  have cc := p_cut_calls m [46] hl (by decide)
  rw [pB46] at cc
  unfold pcutR at cc
  unfold decN decF idx
  by_cases h : fi is46 m < m.length
  · rw [if_pos h] at cc ⊢; exact cc
  · rw [if_neg h] at cc ⊢
    rw [List.take_of_length_le (by omega), List.drop_eq_nil_of_le (by omega)]
    exact cc
def decimalR (m : List UInt8) : DV := if decOk m then .tup [Q (mkRat (dval 0 (decN m ++ decF m) : Nat) (10 ^ (decF m).length)), .bool true] else .tup [Q 0, .bool false]
theorem rMul10 (i : Nat) (h : i ≤ 900) : PCalls Tryz.prog 81 [.sl 1 (us (limbs (10 ^ i))), .sl 1 (us (limbs 10))] (.sl 1 (us (limbs (10 ^ (i + 1))))) := by
  have h1 := ten_len i
  have := rMul_calls (limbs (10 ^ i)) (limbs 10) (by omega) (Nat.le_trans limbs10 (by decide)) (lim_limbs _) (lim_limbs _)
  rwa [vn_limbs, vn_limbs, ← Nat.pow_succ] at this
set_option maxHeartbeats 2000000 in
theorem p_decimal_calls (m : List UInt8) (hm : m.length ≤ 800) : PCalls Tryz.prog 64 [.str m] (decimalR m) := by
  have cc := pcut46 m (by omega)
  have hge := idx_ge is46 m
  have c2 := rParse_pn (decN m)
  have c3 := p_digits_calls (decF m) (by have := decN_len m; omega)
  have hNF := decN_len m
  have hfe : decide (fi is46 m = m.length) = !decide (fi is46 m < m.length) := by
    have := fi_le is46 m
    by_cases h : fi is46 m < m.length
    · rw [decide_eq_true h, decide_eq_false (by omega)]; rfl
    · rw [decide_eq_false h, decide_eq_true (by omega)]; rfl
  have c5 := p_zeros_calls (decN m ++ decF m) (by rw [List.length_append]; omega)
  have c6 := rParse_pn (sig (decN m ++ decF m))
  have hgood : decOk m = true → zrs (decN m ++ decF m) = sig (decN m ++ decF m) ∧ okD (sig (decN m ++ decF m)) = true ∧ dval 0 (sig (decN m ++ decF m)) = dval 0 (decN m ++ decF m) ∧ (limbs (dval 0 (decN m ++ decF m))).length ≤ 800 := fun h => by
    obtain ⟨h1, h2⟩ := decOk_all h
    obtain ⟨h3, h4⟩ := sig_ok h1 h2
    refine ⟨zrs_sig _ h1 ?_, h3, h4, dval_le h1 (by rw [List.length_append]; omega)⟩
    unfold decOk at h
    simp only [Bool.and_eq_true] at h
    have := digs_ne h.1.1
    exact fun e => this (List.append_eq_nil_iff.1 e).1
  have d4 : decide ((4000 : Int) < ((decN m).length : Int) + ((decF m).length : Int)) = false := decide_eq_false (by omega)
  have d4' : decide ((decN m).length + (decF m).length ≤ 4000) = true := decide_eq_true (by omega)
  have hdef : decOk m = (okD (decN m) && (decide (fi is46 m = m.length) || digs (decF m)) && decide ((decN m).length + (decF m).length ≤ 4000)) := rfl
  rw [hfe, d4', Bool.and_true] at hdef
  clear hfe d4'
  refine PCalls_of isp_decimal (by simp [fnp_decimal]) ?_
  unfold codep_decimal decimalR
  generalize decOk m = ok at *
  generalize decide (fi is46 m < m.length) = pt at *
  generalize idx is46 m = AT at *
  generalize decN m = N at *
  generalize decF m = F at *
  by_cases ho : ok = true
  · obtain ⟨g0, g1, g2, g3⟩ := hgood ho
    rw [g0] at c5
    unfold pn at c6
    rw [g1, if_pos rfl, g2] at c6
    subst ho
    rw [if_pos rfl]
    have hN : okD N = true := by
      cases h : okD N
      · rw [h] at hdef; simp at hdef
      · rfl
    have hP : pt = true → digs F = true := fun hpt => by
      cases h : digs F
      · rw [h, hpt] at hdef; simp at hdef
      · rfl
    rw [hN] at c2
    have t1 := ten_len F.length
    have cov := p_over_calls ((dval 0 (N ++ F) : Nat) : Int) ((10 ^ F.length : Nat) : Int) (by have := ten_ne F.length; omega) (il_nat (Nat.le_trans g3 (by decide))) (il_nat (by omega))
    rw [Rat.divInt_ofNat, I_nat, I_nat] at cov
    generalize dval 0 (N ++ F) = v at *
    clear hgood hdef g0 g1 g2 g3 t1
    have hloop : ∀ (K : Fr → Hp → Prop), True := fun _ => trivial
    clear hloop
    have l1 : limbs (10 ^ 0) = limbs 1 := rfl
    cases pt
    · repeat (first | refine W_seq ?_ | refine W_reg ?_ | refine W_regd ?_ | refine W_block ?_ | refine And.intro (by omega) ?_ | simp (maxSteps := 1000000) (disch := omega) only [cA, cB, cC, frz_us, binE, unE, boundE, newsE, blkQ, Nat.reduceEqDiff, Nat.reduceLT, Nat.reduceAdd, ↓reduceIte, reduceCtorEq, Nat.reduceLeDiff, d4, hge, cS, cT, nbp_decimal] | refine callC_pure (cc) rfl ?_ | refine callC_pure (c2) rfl ?_ | refine callC_pure (c3) rfl ?_ | exact W_ret (RetP_1 (.imm rfl)) | exact W_ret (RetP_c rfl rfl rfl (.imm rfl)))
      refine W_cond rfl (fun h => by cases h) (fun _ => W_skip ?_)
      repeat (first | refine W_seq ?_ | refine W_reg ?_ | refine W_regd ?_ | refine W_block ?_ | refine And.intro (by omega) ?_ | simp (maxSteps := 1000000) (disch := omega) only [cA, cB, cC, frz_us, binE, unE, boundE, newsE, blkQ, Nat.reduceEqDiff, Nat.reduceLT, Nat.reduceAdd, ↓reduceIte, reduceCtorEq, Nat.reduceLeDiff, us_rfd, us1L, cS, cT] | refine callC_pure (c5) rfl ?_ | refine callC_pure (c6) rfl ?_ | exact W_ret (RetP_1 (.imm rfl)) | exact W_ret (RetP_c rfl rfl rfl (.imm rfl)))
      refine W_loop (σ := Nat) (fun i => [(2, .ptr 2 0), (3, .bool false), (5, .str F), (9, .sl 1 (us (limbs v))), (10, .bool true), (11, .sl 1 (us (limbs (10 ^ i)))), (12, .int .i64 i)]) (fun _ => [(2, [.bool false, .nils, .nils])]) (fun i => i ≤ F.length) (fun i => F.length - i) 0 (Nat.zero_le _) ?_ rfl ?_
      · simp [subF, lk, l1]
      · rintro i hi
        try simp only at hi ⊢
        by_cases hlt : i < F.length
        · have dl : decide ((i : Int) < F.length) = true := decide_eq_true (by omega)
          have e1 : ((i : Int) + 1) = ((i + 1 : Nat) : Int) := by omega
          have cm := rMul10 i (by omega)
          repeat (first | refine W_seq ?_ | refine W_reg ?_ | refine W_regd ?_ | refine W_block ?_ | refine And.intro (by omega) ?_ | simp (maxSteps := 1000000) (disch := omega) only [cA, cB, cC, frz_us, binE, unE, boundE, newsE, blkQ, Nat.reduceEqDiff, Nat.reduceLT, Nat.reduceAdd, ↓reduceIte, reduceCtorEq, Nat.reduceLeDiff, dl])
          refine W_cond rfl (fun _ => W_skip ?_) (fun h => by cases h)
          repeat (first | refine W_seq ?_ | refine W_reg ?_ | refine W_regd ?_ | refine W_block ?_ | refine And.intro (by omega) ?_ | simp (maxSteps := 1000000) (disch := omega) only [cA, cB, cC, frz_us, binE, unE, boundE, newsE, blkQ, Nat.reduceEqDiff, Nat.reduceLT, Nat.reduceAdd, ↓reduceIte, reduceCtorEq, Nat.reduceLeDiff, l10, us_rfd, e1] | refine callC_pure (cm) rfl ?_ | exact W_ret (RetP_1 (.imm rfl)) | exact W_ret (RetP_c rfl rfl rfl (.imm rfl)))
          exact ⟨i + 1, hlt, by omega, by simp [subF, lk]⟩
        · have dl : decide ((i : Int) < F.length) = false := decide_eq_false (by omega)
          rw [show i = F.length by omega] at dl ⊢
          generalize 10 ^ F.length = TF at *
          repeat (first | refine W_seq ?_ | refine W_reg ?_ | refine W_regd ?_ | refine W_block ?_ | refine And.intro (by omega) ?_ | simp (maxSteps := 1000000) (disch := omega) only [cA, cB, cC, frz_us, binE, unE, boundE, newsE, blkQ, Nat.reduceEqDiff, Nat.reduceLT, Nat.reduceAdd, ↓reduceIte, reduceCtorEq, Nat.reduceLeDiff, dl])
          refine W_cond rfl (fun h => by cases h) (fun _ => W_exit ?_)
          repeat (first | refine W_seq ?_ | refine W_reg ?_ | refine W_regd ?_ | refine W_block ?_ | refine And.intro (by omega) ?_ | simp (maxSteps := 1000000) (disch := omega) only [cA, cB, cC, frz_us, binE, unE, boundE, newsE, blkQ, Nat.reduceEqDiff, Nat.reduceLT, Nat.reduceAdd, ↓reduceIte, reduceCtorEq, Nat.reduceLeDiff, Q, cS, cT, nbp_decimal] | refine callC_pure (cov) rfl ?_ | exact W_ret (RetP_1 (.imm rfl)) | exact W_ret (RetP_c rfl rfl rfl (.imm rfl)))
          exact W_ret (RetP_ct rfl rfl rfl (.imm rfl) (.imm rfl))
    · rw [hP rfl] at c3
      repeat (first | refine W_seq ?_ | refine W_reg ?_ | refine W_regd ?_ | refine W_block ?_ | refine And.intro (by omega) ?_ | simp (maxSteps := 1000000) (disch := omega) only [cA, cB, cC, frz_us, binE, unE, boundE, newsE, blkQ, Nat.reduceEqDiff, Nat.reduceLT, Nat.reduceAdd, ↓reduceIte, reduceCtorEq, Nat.reduceLeDiff, d4, hge, cS, cT, nbp_decimal] | refine callC_pure (cc) rfl ?_ | refine callC_pure (c2) rfl ?_ | refine callC_pure (c3) rfl ?_ | exact W_ret (RetP_1 (.imm rfl)) | exact W_ret (RetP_c rfl rfl rfl (.imm rfl)))
      refine W_cond rfl (fun h => by cases h) (fun _ => W_skip ?_)
      repeat (first | refine W_seq ?_ | refine W_reg ?_ | refine W_regd ?_ | refine W_block ?_ | refine And.intro (by omega) ?_ | simp (maxSteps := 1000000) (disch := omega) only [cA, cB, cC, frz_us, binE, unE, boundE, newsE, blkQ, Nat.reduceEqDiff, Nat.reduceLT, Nat.reduceAdd, ↓reduceIte, reduceCtorEq, Nat.reduceLeDiff, us_rfd, us1L, cS, cT] | refine callC_pure (c5) rfl ?_ | refine callC_pure (c6) rfl ?_ | exact W_ret (RetP_1 (.imm rfl)) | exact W_ret (RetP_c rfl rfl rfl (.imm rfl)))
      refine W_loop (σ := Nat) (fun i => [(2, .ptr 2 0), (3, .bool false), (5, .str F), (9, .sl 1 (us (limbs v))), (10, .bool true), (11, .sl 1 (us (limbs (10 ^ i)))), (12, .int .i64 i)]) (fun _ => [(2, [.bool false, .nils, .nils])]) (fun i => i ≤ F.length) (fun i => F.length - i) 0 (Nat.zero_le _) ?_ rfl ?_
      · simp [subF, lk, l1]
      · rintro i hi
        try simp only at hi ⊢
        by_cases hlt : i < F.length
        · have dl : decide ((i : Int) < F.length) = true := decide_eq_true (by omega)
          have e1 : ((i : Int) + 1) = ((i + 1 : Nat) : Int) := by omega
          have cm := rMul10 i (by omega)
          repeat (first | refine W_seq ?_ | refine W_reg ?_ | refine W_regd ?_ | refine W_block ?_ | refine And.intro (by omega) ?_ | simp (maxSteps := 1000000) (disch := omega) only [cA, cB, cC, frz_us, binE, unE, boundE, newsE, blkQ, Nat.reduceEqDiff, Nat.reduceLT, Nat.reduceAdd, ↓reduceIte, reduceCtorEq, Nat.reduceLeDiff, dl])
          refine W_cond rfl (fun _ => W_skip ?_) (fun h => by cases h)
          repeat (first | refine W_seq ?_ | refine W_reg ?_ | refine W_regd ?_ | refine W_block ?_ | refine And.intro (by omega) ?_ | simp (maxSteps := 1000000) (disch := omega) only [cA, cB, cC, frz_us, binE, unE, boundE, newsE, blkQ, Nat.reduceEqDiff, Nat.reduceLT, Nat.reduceAdd, ↓reduceIte, reduceCtorEq, Nat.reduceLeDiff, l10, us_rfd, e1] | refine callC_pure (cm) rfl ?_ | exact W_ret (RetP_1 (.imm rfl)) | exact W_ret (RetP_c rfl rfl rfl (.imm rfl)))
          exact ⟨i + 1, hlt, by omega, by simp [subF, lk]⟩
        · have dl : decide ((i : Int) < F.length) = false := decide_eq_false (by omega)
          rw [show i = F.length by omega] at dl ⊢
          generalize 10 ^ F.length = TF at *
          repeat (first | refine W_seq ?_ | refine W_reg ?_ | refine W_regd ?_ | refine W_block ?_ | refine And.intro (by omega) ?_ | simp (maxSteps := 1000000) (disch := omega) only [cA, cB, cC, frz_us, binE, unE, boundE, newsE, blkQ, Nat.reduceEqDiff, Nat.reduceLT, Nat.reduceAdd, ↓reduceIte, reduceCtorEq, Nat.reduceLeDiff, dl])
          refine W_cond rfl (fun h => by cases h) (fun _ => W_exit ?_)
          repeat (first | refine W_seq ?_ | refine W_reg ?_ | refine W_regd ?_ | refine W_block ?_ | refine And.intro (by omega) ?_ | simp (maxSteps := 1000000) (disch := omega) only [cA, cB, cC, frz_us, binE, unE, boundE, newsE, blkQ, Nat.reduceEqDiff, Nat.reduceLT, Nat.reduceAdd, ↓reduceIte, reduceCtorEq, Nat.reduceLeDiff, Q, cS, cT, nbp_decimal] | refine callC_pure (cov) rfl ?_ | exact W_ret (RetP_1 (.imm rfl)) | exact W_ret (RetP_c rfl rfl rfl (.imm rfl)))
          exact W_ret (RetP_ct rfl rfl rfl (.imm rfl) (.imm rfl))
  · have ho' : ok = false := by simpa using ho
    rw [ho'] at hdef
    subst ho'
    rw [if_neg ho, Q0]
    clear hgood c5 c6
    cases hN : okD N
    · rw [hN] at c2
      repeat (first | refine W_seq ?_ | refine W_reg ?_ | refine W_regd ?_ | refine W_block ?_ | refine And.intro (by omega) ?_ | simp (maxSteps := 1000000) (disch := omega) only [cA, cB, cC, frz_us, binE, unE, boundE, newsE, blkQ, Nat.reduceEqDiff, Nat.reduceLT, Nat.reduceAdd, ↓reduceIte, reduceCtorEq, Nat.reduceLeDiff, d4, hge, cS, cT, nbp_decimal] | refine callC_pure (cc) rfl ?_ | refine callC_pure (c2) rfl ?_ | refine callC_pure (c3) rfl ?_ | exact W_ret (RetP_1 (.imm rfl)) | exact W_ret (RetP_c rfl rfl rfl (.imm rfl)))
      refine W_cond rfl (fun _ => ?_) (fun h => by cases h)
      repeat (first | refine W_seq ?_ | refine W_reg ?_ | refine W_regd ?_ | refine W_block ?_ | refine And.intro (by omega) ?_ | simp (maxSteps := 1000000) (disch := omega) only [cA, cB, cC, frz_us, binE, unE, boundE, newsE, blkQ, Nat.reduceEqDiff, Nat.reduceLT, Nat.reduceAdd, ↓reduceIte, reduceCtorEq, Nat.reduceLeDiff, cS, cT, nbp_decimal])
      exact W_ret (RetP_ct rfl rfl rfl (Exp_bnn _ _ _) (.imm rfl))
    · rw [hN] at c2 hdef
      have hpt : pt = true := by
        cases pt
        · simp at hdef
        · rfl
      subst hpt
      have hF : digs F = false := by simpa using hdef.symm
      rw [hF] at c3
      repeat (first | refine W_seq ?_ | refine W_reg ?_ | refine W_regd ?_ | refine W_block ?_ | refine And.intro (by omega) ?_ | simp (maxSteps := 1000000) (disch := omega) only [cA, cB, cC, frz_us, binE, unE, boundE, newsE, blkQ, Nat.reduceEqDiff, Nat.reduceLT, Nat.reduceAdd, ↓reduceIte, reduceCtorEq, Nat.reduceLeDiff, d4, hge, cS, cT, nbp_decimal] | refine callC_pure (cc) rfl ?_ | refine callC_pure (c2) rfl ?_ | refine callC_pure (c3) rfl ?_ | exact W_ret (RetP_1 (.imm rfl)) | exact W_ret (RetP_c rfl rfl rfl (.imm rfl)))
      refine W_cond rfl (fun _ => ?_) (fun h => by cases h)
      repeat (first | refine W_seq ?_ | refine W_reg ?_ | refine W_regd ?_ | refine W_block ?_ | refine And.intro (by omega) ?_ | simp (maxSteps := 1000000) (disch := omega) only [cA, cB, cC, frz_us, binE, unE, boundE, newsE, blkQ, Nat.reduceEqDiff, Nat.reduceLT, Nat.reduceAdd, ↓reduceIte, reduceCtorEq, Nat.reduceLeDiff, cS, cT, nbp_decimal])
      exact W_ret (RetP_ct rfl rfl rfl (Exp_bnn _ _ _) (.imm rfl))
theorem rPow10' (k : Nat) (h : k ≤ 64) : PCalls Tryz.prog 44 [.sl 1 (us (limbs 10)), .int .i64 k] (.sl 1 (us (limbs (10 ^ k)))) := by
  have := rPower_calls (limbs 10) k (Nat.le_trans limbs10 (by decide)) (lim_limbs _)
  unfold pw at this
  rwa [if_neg (by omega), Int.toNat_natCast, vn_limbs] at this
theorem Q_nat' (n : Nat) : Q (((n : Nat) : Int) : Rat) = .agg [.bool false, .sl 1 (us (limbs n)), .sl 1 []] := by
  rw [Q_int, decide_eq_false (by omega), Int.natAbs_natCast]
theorem p_scaled_calls (x : Rat) (neg : Bool) (k : Nat) (hk : k ≤ 40) (hx : RB x 300) :
    PCalls Tryz.prog 66 [Q x, .bool neg, .int .i64 k] (Q (if neg then x / (((10 ^ k : Nat) : Int) : Rat) else x * (((10 ^ k : Nat) : Int) : Rat))) := by
  have t := ten_len k
  have rT : RB (((10 ^ k : Nat) : Int) : Rat) 300 := RB_int (by rw [Int.natAbs_natCast]; omega) (by decide)
  have c1 := rPow10' k (by omega)
  have c2 := pQuoL x _ (ten_cast_ne k) hx rT
  have c3 := pMulL x _ hx rT
  refine PCalls_of isp_scaled (by simp [fnp_scaled]) ?_
  unfold codep_scaled
  cases neg
  · rw [if_neg (by decide)]
    generalize x * (((10 ^ k : Nat) : Int) : Rat) = z at *
    rw [Q_nat'] at c3
    generalize 10 ^ k = T at *
    repeat (first | refine W_seq ?_ | refine W_reg ?_ | refine W_regd ?_ | refine W_block ?_ | refine And.intro (by omega) ?_ | simp (maxSteps := 1000000) (disch := omega) only [cA, cB, cC, frz_us, binE, unE, boundE, newsE, blkQ, Nat.reduceEqDiff, Nat.reduceLT, Nat.reduceAdd, ↓reduceIte, reduceCtorEq, Nat.reduceLeDiff, Q, cS, cT, nbp_scaled, l10, us_rfd] | refine callC_pure (c1) rfl ?_ | exact W_ret (RetP_1 (.imm rfl)) | exact W_ret (RetP_c rfl rfl rfl (.imm rfl)))
    refine W_cond rfl (fun h => by cases h) (fun _ => W_skip ?_)
    repeat (first | refine W_seq ?_ | refine W_reg ?_ | refine W_regd ?_ | refine W_block ?_ | refine And.intro (by omega) ?_ | simp (maxSteps := 1000000) (disch := omega) only [cA, cB, cC, frz_us, binE, unE, boundE, newsE, blkQ, Nat.reduceEqDiff, Nat.reduceLT, Nat.reduceAdd, ↓reduceIte, reduceCtorEq, Nat.reduceLeDiff, Q, cS, cT, nbp_scaled] | refine callC_pure (PCalls_nz1 1 (c3)) rfl ?_ | exact W_ret (RetP_1 (.imm rfl)) | exact W_ret (RetP_c rfl rfl rfl (.imm rfl)))
  · rw [if_pos rfl]
    generalize x / (((10 ^ k : Nat) : Int) : Rat) = z at *
    rw [Q_nat'] at c2
    generalize 10 ^ k = T at *
    repeat (first | refine W_seq ?_ | refine W_reg ?_ | refine W_regd ?_ | refine W_block ?_ | refine And.intro (by omega) ?_ | simp (maxSteps := 1000000) (disch := omega) only [cA, cB, cC, frz_us, binE, unE, boundE, newsE, blkQ, Nat.reduceEqDiff, Nat.reduceLT, Nat.reduceAdd, ↓reduceIte, reduceCtorEq, Nat.reduceLeDiff, Q, cS, cT, nbp_scaled, l10, us_rfd] | refine callC_pure (c1) rfl ?_ | exact W_ret (RetP_1 (.imm rfl)) | exact W_ret (RetP_c rfl rfl rfl (.imm rfl)))
    refine W_cond rfl (fun _ => ?_) (fun h => by cases h)
    repeat (first | refine W_seq ?_ | refine W_reg ?_ | refine W_regd ?_ | refine W_block ?_ | refine And.intro (by omega) ?_ | simp (maxSteps := 1000000) (disch := omega) only [cA, cB, cC, frz_us, binE, unE, boundE, newsE, blkQ, Nat.reduceEqDiff, Nat.reduceLT, Nat.reduceAdd, ↓reduceIte, reduceCtorEq, Nat.reduceLeDiff, Q, cS, cT, nbp_scaled] | refine callC_pure (PCalls_nz1 1 (c2)) rfl ?_ | exact W_ret (RetP_1 (.imm rfl)) | exact W_ret (RetP_c rfl rfl rfl (.imm rfl)))
end Go.Proofs.YteiagmmfapbaiaaGreatDoor
namespace Go.Proofs.YteiagmmfapbaiaaGreatDoor
open Go Go.Dat Go.Proofs Nat32 Go.RowKit
open Go.Lib (decDigits repeatL)
def tailP : DC := match codepParse with | .seq _ (.seq _ t) => t | _ => .skip
theorem pcut47 (m : List UInt8) (hl : m.length ≤ 100000) : PCalls Tryz.prog 62 [.str m, .str [47]] (pcutR is47 m) := by
  have cc := p_cut_calls m [47] hl (by decide)
  rwa [pB47] at cc
theorem pcutE (m : List UInt8) (hl : m.length ≤ 100000) : PCalls Tryz.prog 62 [.str m, .str [101, 69]] (pcutR isE m) := by
  have cc := p_cut_calls m [101, 69] hl (by decide)
  rwa [pBE] at cc
theorem decOk_RB {m : List UInt8} (h : decOk m = true) (hm : m.length ≤ 200) : RB (mkRat (dval 0 (decN m ++ decF m) : Nat) (10 ^ (decF m).length)) 300 := by
  obtain ⟨h1, _⟩ := decOk_all h
  have hNF := decN_len m
  have t := ten_len (decF m).length
  have := dval_le h1 (m := 200) (by rw [List.length_append]; omega)
  exact RB_mk (ten_ne _) (by rw [Int.natAbs_natCast]; omega) (by omega)
theorem dash_no {e : List UInt8} (h : ¬ e.head? = some 45) : e = [] ∨ ∃ c t, e = c :: t ∧ ¬ ((c.toNat : Nat) : Int) = 45 := by
  cases e with
  | nil => exact .inl rfl
  | cons c t => exact .inr ⟨c, t, rfl, fun k => h (by rw [List.head?_cons, UInt8.toNat_inj.1 (show c.toNat = (45 : UInt8).toNat from (by show c.toNat = 45; omega))])⟩
theorem limbs_nil_d (n : Nat) : decide (((limbs n).length : Int) = 0) = decide (n = 0) := by
  rw [decide_eq_decide]
  constructor
  · intro h
    have h1 : (limbs n).length = 0 := by omega
    have h2 := vn_limbs n
    rw [List.length_eq_zero_iff.1 h1] at h2
    exact h2.symm
  · intro h; rw [h, limbs_zero]; rfl
def XL (r : Rat) : List DV := [.bool (decide (r.num < 0)), .sl 1 (us (limbs r.num.natAbs)), .sl 1 (us (dn r.den))]
def sclR (x : Rat) (e : List UInt8) : DV := if expOk e then .tup [Q (if decide (e.head? = some 45) then x / (((10 ^ (dval 0 (expD e)) : Nat) : Int) : Rat) else x * (((10 ^ (dval 0 (expD e)) : Nat) : Int) : Rat)), .bool true] else .tup [Q 0, .bool false]
def tail2 : DC := match tailP with | .seq _ (.seq _ (.seq _ (.seq _ t))) => t | _ => .skip
def tail3 : DC := match tail2 with | .seq _ (.seq _ t) => t | _ => .skip
set_option maxHeartbeats 1000000 in
theorem tail3_W (s m e : List UInt8) (x : Rat) (neg : Bool) (at_ : Int) (hx : RB x 300) (he : e.length ≤ 200) :
    W fnpParse tail3 (RetP respParse (if okD e && decide (dval 0 e ≤ 40) then .tup [Q (if neg then x / (((10 ^ (dval 0 e) : Nat) : Int) : Rat) else x * (((10 ^ (dval 0 e) : Nat) : Int) : Rat)), .bool true] else .tup [Q 0, .bool false]))
      [(0, .str s), (2, .ptr 2 0), (3, .bool false), (13, .str m), (14, .str e), (15, .int .i64 at_), (16, .ptr 16 0), (17, .bool true), (18, .bool neg)] [(2, [.bool false, .nils, .nils]), (16, XL x)] := by
  have c3 := rParse_pn e
  have c4 := rUint_pn e (by omega)
  unfold tail3 tail2 tailP codepParse
  dsimp only
  unfold pn at c3 c4
  cases ho : okD e
  · rw [ho] at c3 c4
    simp only [Bool.false_eq_true, if_false] at c3 c4
    rw [uintR_small (by decide)] at c4
    rw [Bool.false_and, if_neg (by decide), Q0]
    repeat (first | refine W_seq ?_ | refine W_reg ?_ | refine W_regd ?_ | refine W_block ?_ | refine And.intro (by omega) ?_ | simp (maxSteps := 1000000) (disch := omega) only [cA, cB, cC, frz_us, binE, unE, boundE, newsE, blkQ, Nat.reduceEqDiff, Nat.reduceLT, Nat.reduceAdd, ↓reduceIte, reduceCtorEq, Nat.reduceLeDiff, XL, cS, cT, nbpParse] | refine callC_pure (c3) rfl ?_ | refine callC_pure (c4) rfl ?_ | exact W_ret (RetP_1 (.imm rfl)) | exact W_ret (RetP_c rfl rfl rfl (.imm rfl)))
    refine W_cond rfl (fun _ => ?_) (fun h => by cases h)
    repeat (first | refine W_seq ?_ | refine W_reg ?_ | refine W_regd ?_ | refine W_block ?_ | refine And.intro (by omega) ?_ | simp (maxSteps := 1000000) (disch := omega) only [cA, cB, cC, frz_us, binE, unE, boundE, newsE, blkQ, Nat.reduceEqDiff, Nat.reduceLT, Nat.reduceAdd, ↓reduceIte, reduceCtorEq, Nat.reduceLeDiff, XL, cS, cT, nbpParse])
    exact W_ret (RetP_ct rfl rfl rfl (Exp_bnn _ _ _) (.imm rfl))
  · rw [ho, if_pos rfl] at c3 c4
    rw [Bool.true_and]
    generalize dval 0 e = v at *
    by_cases hs : v < 18446744073709551616
    · rw [uintR_small hs] at c4
      by_cases h40 : v ≤ 40
      · have d40 : decide ((40 : Int) < (v : Int)) = false := decide_eq_false (by omega)
        have c5 := p_scaled_calls x neg v h40 hx
        rw [if_pos (decide_eq_true h40)]
        clear hs
        generalize (if neg = true then x / (((10 ^ v : Nat) : Int) : Rat) else x * (((10 ^ v : Nat) : Int) : Rat)) = z at *
        repeat (first | refine W_seq ?_ | refine W_reg ?_ | refine W_regd ?_ | refine W_block ?_ | refine And.intro (by omega) ?_ | simp (maxSteps := 1000000) (disch := omega) only [cA, cB, cC, frz_us, binE, unE, boundE, newsE, blkQ, Nat.reduceEqDiff, Nat.reduceLT, Nat.reduceAdd, ↓reduceIte, reduceCtorEq, Nat.reduceLeDiff, XL, Q, d40, cS, cT, nbpParse] | refine callC_pure (c3) rfl ?_ | refine callC_pure (c4) rfl ?_ | exact W_ret (RetP_1 (.imm rfl)) | exact W_ret (RetP_c rfl rfl rfl (.imm rfl)))
        refine W_cond rfl (fun h => by cases h) (fun _ => W_skip ?_)
        repeat (first | refine W_seq ?_ | refine W_reg ?_ | refine W_regd ?_ | refine W_block ?_ | refine And.intro (by omega) ?_ | simp (maxSteps := 1000000) (disch := omega) only [cA, cB, cC, frz_us, binE, unE, boundE, newsE, blkQ, Nat.reduceEqDiff, Nat.reduceLT, Nat.reduceAdd, ↓reduceIte, reduceCtorEq, Nat.reduceLeDiff, XL, Q, cS, cT, nbpParse] | refine callC_pure (c5) rfl ?_ | exact W_ret (RetP_1 (.imm rfl)) | exact W_ret (RetP_c rfl rfl rfl (.imm rfl)))
        exact W_ret (RetP_ct rfl rfl rfl (.imm rfl) (.imm rfl))
      · have d40 : decide ((40 : Int) < (v : Int)) = true := decide_eq_true (by omega)
        rw [if_neg (by simpa using h40), Q0]
        repeat (first | refine W_seq ?_ | refine W_reg ?_ | refine W_regd ?_ | refine W_block ?_ | refine And.intro (by omega) ?_ | simp (maxSteps := 1000000) (disch := omega) only [cA, cB, cC, frz_us, binE, unE, boundE, newsE, blkQ, Nat.reduceEqDiff, Nat.reduceLT, Nat.reduceAdd, ↓reduceIte, reduceCtorEq, Nat.reduceLeDiff, XL, d40, cS, cT, nbpParse] | refine callC_pure (c3) rfl ?_ | refine callC_pure (c4) rfl ?_ | exact W_ret (RetP_1 (.imm rfl)) | exact W_ret (RetP_c rfl rfl rfl (.imm rfl)))
        refine W_cond rfl (fun _ => ?_) (fun h => by cases h)
        repeat (first | refine W_seq ?_ | refine W_reg ?_ | refine W_regd ?_ | refine W_block ?_ | refine And.intro (by omega) ?_ | simp (maxSteps := 1000000) (disch := omega) only [cA, cB, cC, frz_us, binE, unE, boundE, newsE, blkQ, Nat.reduceEqDiff, Nat.reduceLT, Nat.reduceAdd, ↓reduceIte, reduceCtorEq, Nat.reduceLeDiff, XL, cS, cT, nbpParse])
        exact W_ret (RetP_ct rfl rfl rfl (Exp_bnn _ _ _) (.imm rfl))
    · rw [uintR_big hs] at c4
      rw [if_neg (by simp; omega), Q0]
      clear hs
      repeat (first | refine W_seq ?_ | refine W_reg ?_ | refine W_regd ?_ | refine W_block ?_ | refine And.intro (by omega) ?_ | simp (maxSteps := 1000000) (disch := omega) only [cA, cB, cC, frz_us, binE, unE, boundE, newsE, blkQ, Nat.reduceEqDiff, Nat.reduceLT, Nat.reduceAdd, ↓reduceIte, reduceCtorEq, Nat.reduceLeDiff, XL, cS, cT, nbpParse] | refine callC_pure (c3) rfl ?_ | refine callC_pure (c4) rfl ?_ | exact W_ret (RetP_1 (.imm rfl)) | exact W_ret (RetP_c rfl rfl rfl (.imm rfl)))
      refine W_cond rfl (fun _ => ?_) (fun h => by cases h)
      repeat (first | refine W_seq ?_ | refine W_reg ?_ | refine W_regd ?_ | refine W_block ?_ | refine And.intro (by omega) ?_ | simp (maxSteps := 1000000) (disch := omega) only [cA, cB, cC, frz_us, binE, unE, boundE, newsE, blkQ, Nat.reduceEqDiff, Nat.reduceLT, Nat.reduceAdd, ↓reduceIte, reduceCtorEq, Nat.reduceLeDiff, XL, cS, cT, nbpParse])
      exact W_ret (RetP_ct rfl rfl rfl (Exp_bnn _ _ _) (.imm rfl))
theorem expD_45 (t : List UInt8) : expD (45 :: t) = t := by unfold expD; rw [List.head?_cons, if_pos rfl]; rfl
theorem expD_ne {e : List UInt8} (h : ¬ e.head? = some 45) : expD e = e := by unfold expD; rw [if_neg h]
set_option maxHeartbeats 1000000 in
theorem tail2_W (s m e : List UInt8) (x : Rat) (at_ : Int) (hx : RB x 300) (he : e.length ≤ 200) :
    W fnpParse tail2 (RetP respParse (sclR x e)) [(0, .str s), (2, .ptr 2 0), (3, .bool false), (13, .str m), (14, .str e), (15, .int .i64 at_), (16, .ptr 16 0), (17, .bool true)] [(2, [.bool false, .nils, .nils]), (16, XL x)] := by
  have t3 := tail3_W s m (expD e) x (decide (e.head? = some 45)) at_ hx (by unfold expD; split; (rw [List.length_tail]; omega); exact he)
  have hR : sclR x e = (if okD (expD e) && decide (dval 0 (expD e) ≤ 40) then .tup [Q (if decide (e.head? = some 45) then x / (((10 ^ (dval 0 (expD e)) : Nat) : Int) : Rat) else x * (((10 ^ (dval 0 (expD e)) : Nat) : Int) : Rat)), .bool true] else .tup [Q 0, .bool false]) := rfl
  rw [hR]
  clear hR
  generalize hT : tail3 = T at *
  unfold tail2 tailP codepParse
  dsimp only
  have hT2 := hT
  unfold tail3 tail2 tailP codepParse at hT2
  dsimp only at hT2
  rw [hT2]
  clear hT hT2
  generalize (if okD (expD e) && decide (dval 0 (expD e) ≤ 40) then DV.tup [Q (if decide (e.head? = some 45) then x / (((10 ^ (dval 0 (expD e)) : Nat) : Int) : Rat) else x * (((10 ^ (dval 0 (expD e)) : Nat) : Int) : Rat)), .bool true] else .tup [Q 0, .bool false]) = R at *
  have e0 : (Int.toNat 0) = 0 := rfl
  have e1 : (Int.toNat 1) = 1 := rfl
  by_cases hd : e.head? = some 45
  · rw [decide_eq_true hd] at t3
    match e, hd, he, t3 with
    | c :: t, hd, he, t3 =>
      rw [List.head?_cons, Option.some.injEq] at hd
      subst hd
      rw [expD_45] at t3
      have dl : decide ((0 : Int) < (((45 : UInt8) :: t).length : Int)) = true := decide_eq_true (by rw [List.length_cons]; omega)
      have hg : ((45 : UInt8) :: t).getD 0 0 = 45 := rfl
      have eb : byteD 45 = .int .u8 45 := rfl
      have htl : (((45 : UInt8) :: t).take ((45 : UInt8) :: t).length).drop 1 = t := by rw [List.take_length]; rfl
      have hL : 1 ≤ ((45 : UInt8) :: t).length := by simp
      generalize ((45 : UInt8) :: t) = E at *
      repeat (first | refine W_seq ?_ | refine W_reg ?_ | refine W_regd ?_ | refine W_block ?_ | refine And.intro (by omega) ?_ | simp (maxSteps := 1000000) (disch := omega) only [cA, cB, cC, frz_us, binE, unE, boundE, newsE, blkQ, Nat.reduceEqDiff, Nat.reduceLT, Nat.reduceAdd, ↓reduceIte, reduceCtorEq, Nat.reduceLeDiff, dl, e0, hg, eb, XL])
      repeat (first | refine W_seq ?_ | refine W_reg ?_ | refine W_regd ?_ | refine W_block ?_ | refine And.intro (by omega) ?_ | simp (maxSteps := 1000000) (disch := omega) only [cA, cB, cC, frz_us, binE, unE, boundE, newsE, blkQ, Nat.reduceEqDiff, Nat.reduceLT, Nat.reduceAdd, ↓reduceIte, reduceCtorEq, Nat.reduceLeDiff])
      refine W_cond rfl (fun _ => ?_) (fun h => by cases h)
      repeat (first | refine W_seq ?_ | refine W_reg ?_ | refine W_regd ?_ | refine W_block ?_ | refine And.intro (by omega) ?_ | simp (maxSteps := 1000000) (disch := omega) only [cA, cB, cC, frz_us, binE, unE, boundE, newsE, blkQ, Nat.reduceEqDiff, Nat.reduceLT, Nat.reduceAdd, ↓reduceIte, reduceCtorEq, Nat.reduceLeDiff, e1, htl])
      refine W_sub ?_ t3
      simp [subF, lk]
  · rw [decide_eq_false hd, expD_ne hd] at t3
    rcases dash_no hd with h0 | ⟨c, t, rfl, hc⟩
    · have dl : decide ((0 : Int) < (e.length : Int)) = false := decide_eq_false (by rw [h0]; decide)
      clear h0
      repeat (first | refine W_seq ?_ | refine W_reg ?_ | refine W_regd ?_ | refine W_block ?_ | refine And.intro (by omega) ?_ | simp (maxSteps := 1000000) (disch := omega) only [cA, cB, cC, frz_us, binE, unE, boundE, newsE, blkQ, Nat.reduceEqDiff, Nat.reduceLT, Nat.reduceAdd, ↓reduceIte, reduceCtorEq, Nat.reduceLeDiff, XL, dl])
      repeat (first | refine W_seq ?_ | refine W_reg ?_ | refine W_regd ?_ | refine W_block ?_ | refine And.intro (by omega) ?_ | simp (maxSteps := 1000000) (disch := omega) only [cA, cB, cC, frz_us, binE, unE, boundE, newsE, blkQ, Nat.reduceEqDiff, Nat.reduceLT, Nat.reduceAdd, ↓reduceIte, reduceCtorEq, Nat.reduceLeDiff])
      refine W_cond rfl (fun h => by cases h) (fun _ => W_skip ?_)
      refine W_sub ?_ t3
      simp [subF, lk]
    · have dl : decide ((0 : Int) < ((c :: t).length : Int)) = true := decide_eq_true (by rw [List.length_cons]; omega)
      have hg : (c :: t).getD 0 0 = c := rfl
      have eb : byteD c = .int .u8 (c.toNat : Nat) := rfl
      have dc : decide (((c.toNat : Nat) : Int) = 45) = false := decide_eq_false hc
      have hL : 0 < (c :: t).length := by simp
      generalize (c :: t) = E at *
      repeat (first | refine W_seq ?_ | refine W_reg ?_ | refine W_regd ?_ | refine W_block ?_ | refine And.intro (by omega) ?_ | simp (maxSteps := 1000000) (disch := omega) only [cA, cB, cC, frz_us, binE, unE, boundE, newsE, blkQ, Nat.reduceEqDiff, Nat.reduceLT, Nat.reduceAdd, ↓reduceIte, reduceCtorEq, Nat.reduceLeDiff, dl, e0, hg, eb, dc, XL])
      repeat (first | refine W_seq ?_ | refine W_reg ?_ | refine W_regd ?_ | refine W_block ?_ | refine And.intro (by omega) ?_ | simp (maxSteps := 1000000) (disch := omega) only [cA, cB, cC, frz_us, binE, unE, boundE, newsE, blkQ, Nat.reduceEqDiff, Nat.reduceLT, Nat.reduceAdd, ↓reduceIte, reduceCtorEq, Nat.reduceLeDiff])
      refine W_cond rfl (fun h => by cases h) (fun _ => W_skip ?_)
      refine W_sub ?_ t3
      simp [subF, lk]
end Go.Proofs.YteiagmmfapbaiaaGreatDoor
namespace Go.Proofs.YteiagmmfapbaiaaGreatDoor
open Go Go.Dat Go.Proofs Nat32 Go.RowKit
open Go.Lib (decDigits repeatL)
set_option maxHeartbeats 2000000 in
theorem tailP_W (s : List UInt8) (hs : s.length ≤ 200) : W fnpParse tailP (RetP respParse (resQ (unsQ s))) [(0, .str s), (2, .ptr 2 0), (3, .bool false)] [(2, [.bool false, .nils, .nils])] := by
  have cs := pcut47 s (by omega)
  have ce := pcutE s (by omega)
  have h47 := fi_le is47 s
  have hE := fi_le isE s
  unfold pcutR at cs ce
  by_cases h1 : fi is47 s < s.length
  · rw [if_pos h1] at cs
    unfold unsQ
    rw [if_pos h1]
    clear ce hE
    have g0 : decide ((0 : Int) ≤ ((fi is47 s : Nat) : Int)) = true := decide_eq_true (by omega)
    have lA : (s.take (fi is47 s)).length ≤ 200 := by rw [List.length_take]; omega
    have lB : (s.drop (fi is47 s + 1)).length ≤ 200 := by rw [List.length_drop]; omega
    clear h1
    generalize s.take (fi is47 s) = A at *
    generalize s.drop (fi is47 s + 1) = B at *
    have c1 := rParse_pn A
    have c2 := rParse_pn B
    unfold pn at c1 c2
    unfold tailP codepParse
    dsimp only
    cases hA : okD A
    · rw [hA] at c1
      simp only [Bool.false_and, Bool.false_eq_true, if_false] at c1 ⊢
      unfold resQ
      dsimp only
      rw [Q0]
      repeat (first | refine W_seq ?_ | refine W_reg ?_ | refine W_regd ?_ | refine W_block ?_ | refine And.intro (by omega) ?_ | simp (maxSteps := 1000000) (disch := omega) only [cA, cB, cC, frz_us, binE, unE, boundE, newsE, blkQ, Nat.reduceEqDiff, Nat.reduceLT, Nat.reduceAdd, ↓reduceIte, reduceCtorEq, Nat.reduceLeDiff, g0, cS, cT, nbpParse] | refine callC_pure (cs) rfl ?_ | exact W_ret (RetP_1 (.imm rfl)) | exact W_ret (RetP_c rfl rfl rfl (.imm rfl)))
      refine W_cond rfl (fun _ => ?_) (fun h => by cases h)
      repeat (first | refine W_seq ?_ | refine W_reg ?_ | refine W_regd ?_ | refine W_block ?_ | refine And.intro (by omega) ?_ | simp (maxSteps := 1000000) (disch := omega) only [cA, cB, cC, frz_us, binE, unE, boundE, newsE, blkQ, Nat.reduceEqDiff, Nat.reduceLT, Nat.reduceAdd, ↓reduceIte, reduceCtorEq, Nat.reduceLeDiff, us_length, cS, cT, nbpParse] | refine callC_pure (c1) rfl ?_ | refine callC_pure (c2) rfl ?_ | exact W_ret (RetP_1 (.imm rfl)) | exact W_ret (RetP_c rfl rfl rfl (.imm rfl)))
      refine W_cond rfl (fun _ => ?_) (fun h => by cases h)
      repeat (first | refine W_seq ?_ | refine W_reg ?_ | refine W_regd ?_ | refine W_block ?_ | refine And.intro (by omega) ?_ | simp (maxSteps := 1000000) (disch := omega) only [cA, cB, cC, frz_us, binE, unE, boundE, newsE, blkQ, Nat.reduceEqDiff, Nat.reduceLT, Nat.reduceAdd, ↓reduceIte, reduceCtorEq, Nat.reduceLeDiff, cS, cT, nbpParse])
      exact W_ret (RetP_ct rfl rfl rfl (Exp_bnn _ _ _) (.imm rfl))
    · rw [hA, if_pos rfl] at c1
      cases hB : okD B
      · rw [hB] at c2
        simp only [Bool.false_and, Bool.true_and, Bool.false_eq_true, if_false] at c2 ⊢
        unfold resQ
        dsimp only
        rw [Q0]
        repeat (first | refine W_seq ?_ | refine W_reg ?_ | refine W_regd ?_ | refine W_block ?_ | refine And.intro (by omega) ?_ | simp (maxSteps := 1000000) (disch := omega) only [cA, cB, cC, frz_us, binE, unE, boundE, newsE, blkQ, Nat.reduceEqDiff, Nat.reduceLT, Nat.reduceAdd, ↓reduceIte, reduceCtorEq, Nat.reduceLeDiff, g0, cS, cT, nbpParse] | refine callC_pure (cs) rfl ?_ | exact W_ret (RetP_1 (.imm rfl)) | exact W_ret (RetP_c rfl rfl rfl (.imm rfl)))
        refine W_cond rfl (fun _ => ?_) (fun h => by cases h)
        repeat (first | refine W_seq ?_ | refine W_reg ?_ | refine W_regd ?_ | refine W_block ?_ | refine And.intro (by omega) ?_ | simp (maxSteps := 1000000) (disch := omega) only [cA, cB, cC, frz_us, binE, unE, boundE, newsE, blkQ, Nat.reduceEqDiff, Nat.reduceLT, Nat.reduceAdd, ↓reduceIte, reduceCtorEq, Nat.reduceLeDiff, us_length, cS, cT, nbpParse] | refine callC_pure (c1) rfl ?_ | refine callC_pure (c2) rfl ?_ | exact W_ret (RetP_1 (.imm rfl)) | exact W_ret (RetP_c rfl rfl rfl (.imm rfl)))
        refine W_cond rfl (fun _ => ?_) (fun h => by cases h)
        repeat (first | refine W_seq ?_ | refine W_reg ?_ | refine W_regd ?_ | refine W_block ?_ | refine And.intro (by omega) ?_ | simp (maxSteps := 1000000) (disch := omega) only [cA, cB, cC, frz_us, binE, unE, boundE, newsE, blkQ, Nat.reduceEqDiff, Nat.reduceLT, Nat.reduceAdd, ↓reduceIte, reduceCtorEq, Nat.reduceLeDiff, cS, cT, nbpParse])
        exact W_ret (RetP_ct rfl rfl rfl (Exp_bnn _ _ _) (.imm rfl))
      · rw [hB, if_pos rfl] at c2
        simp only [Bool.true_and]
        have dA := dval_le (okD_all hA) lA
        have dB := dval_le (okD_all hB) lB
        generalize dval 0 A = a at *
        generalize dval 0 B = b at *
        by_cases hb : b = 0
        · have db : decide (b = 0) = true := decide_eq_true hb
          rw [if_neg (by simp; omega)]
          unfold resQ
          dsimp only
          rw [Q0]
          repeat (first | refine W_seq ?_ | refine W_reg ?_ | refine W_regd ?_ | refine W_block ?_ | refine And.intro (by omega) ?_ | simp (maxSteps := 1000000) (disch := omega) only [cA, cB, cC, frz_us, binE, unE, boundE, newsE, blkQ, Nat.reduceEqDiff, Nat.reduceLT, Nat.reduceAdd, ↓reduceIte, reduceCtorEq, Nat.reduceLeDiff, g0, cS, cT, nbpParse] | refine callC_pure (cs) rfl ?_ | exact W_ret (RetP_1 (.imm rfl)) | exact W_ret (RetP_c rfl rfl rfl (.imm rfl)))
          refine W_cond rfl (fun _ => ?_) (fun h => by cases h)
          repeat (first | refine W_seq ?_ | refine W_reg ?_ | refine W_regd ?_ | refine W_block ?_ | refine And.intro (by omega) ?_ | simp (maxSteps := 1000000) (disch := omega) only [cA, cB, cC, frz_us, binE, unE, boundE, newsE, blkQ, Nat.reduceEqDiff, Nat.reduceLT, Nat.reduceAdd, ↓reduceIte, reduceCtorEq, Nat.reduceLeDiff, us_length, limbs_nil_d, db, cS, cT, nbpParse] | refine callC_pure (c1) rfl ?_ | refine callC_pure (c2) rfl ?_ | exact W_ret (RetP_1 (.imm rfl)) | exact W_ret (RetP_c rfl rfl rfl (.imm rfl)))
          refine W_cond rfl (fun _ => ?_) (fun h => by cases h)
          repeat (first | refine W_seq ?_ | refine W_reg ?_ | refine W_regd ?_ | refine W_block ?_ | refine And.intro (by omega) ?_ | simp (maxSteps := 1000000) (disch := omega) only [cA, cB, cC, frz_us, binE, unE, boundE, newsE, blkQ, Nat.reduceEqDiff, Nat.reduceLT, Nat.reduceAdd, ↓reduceIte, reduceCtorEq, Nat.reduceLeDiff, cS, cT, nbpParse])
          exact W_ret (RetP_ct rfl rfl rfl (Exp_bnn _ _ _) (.imm rfl))
        · have db : decide (b = 0) = false := decide_eq_false hb
          rw [if_pos (by simp; omega)]
          unfold resQ
          dsimp only
          have cov := p_over_calls ((a : Nat) : Int) ((b : Nat) : Int) (by omega) (il_nat (by omega)) (il_nat (by omega))
          rw [Rat.divInt_ofNat, I_nat, I_nat] at cov
          generalize mkRat ((a : Nat) : Int) b = z at *
          repeat (first | refine W_seq ?_ | refine W_reg ?_ | refine W_regd ?_ | refine W_block ?_ | refine And.intro (by omega) ?_ | simp (maxSteps := 1000000) (disch := omega) only [cA, cB, cC, frz_us, binE, unE, boundE, newsE, blkQ, Nat.reduceEqDiff, Nat.reduceLT, Nat.reduceAdd, ↓reduceIte, reduceCtorEq, Nat.reduceLeDiff, g0, cS, cT, nbpParse] | refine callC_pure (cs) rfl ?_ | exact W_ret (RetP_1 (.imm rfl)) | exact W_ret (RetP_c rfl rfl rfl (.imm rfl)))
          refine W_cond rfl (fun _ => ?_) (fun h => by cases h)
          repeat (first | refine W_seq ?_ | refine W_reg ?_ | refine W_regd ?_ | refine W_block ?_ | refine And.intro (by omega) ?_ | simp (maxSteps := 1000000) (disch := omega) only [cA, cB, cC, frz_us, binE, unE, boundE, newsE, blkQ, Nat.reduceEqDiff, Nat.reduceLT, Nat.reduceAdd, ↓reduceIte, reduceCtorEq, Nat.reduceLeDiff, us_length, limbs_nil_d, db, cS, cT, nbpParse] | refine callC_pure (c1) rfl ?_ | refine callC_pure (c2) rfl ?_ | exact W_ret (RetP_1 (.imm rfl)) | exact W_ret (RetP_c rfl rfl rfl (.imm rfl)))
          refine W_cond rfl (fun h => by cases h) (fun _ => W_skip ?_)
          repeat (first | refine W_seq ?_ | refine W_reg ?_ | refine W_regd ?_ | refine W_block ?_ | refine And.intro (by omega) ?_ | simp (maxSteps := 1000000) (disch := omega) only [cA, cB, cC, frz_us, binE, unE, boundE, newsE, blkQ, Nat.reduceEqDiff, Nat.reduceLT, Nat.reduceAdd, ↓reduceIte, reduceCtorEq, Nat.reduceLeDiff, Q, cS, cT, nbpParse] | refine callC_pure (cov) rfl ?_ | exact W_ret (RetP_1 (.imm rfl)) | exact W_ret (RetP_c rfl rfl rfl (.imm rfl)))
          exact W_ret (RetP_ct rfl rfl rfl (.imm rfl) (.imm rfl))
  · rw [if_neg h1] at cs
    unfold unsQ
    rw [if_neg h1]
    have ht := tail2_W s
    generalize hT : tail2 = T at *
    have hT2 := hT
    unfold tail2 tailP codepParse at hT2
    dsimp only at hT2
    unfold tailP codepParse
    dsimp only
    rw [hT2]
    clear hT hT2 h1 h47
    by_cases h2 : fi isE s < s.length
    · rw [if_pos h2] at ce ⊢
      have g0 : decide (((fi isE s : Nat) : Int) < 0) = false := decide_eq_false (by omega)
      have lM : (s.take (fi isE s)).length ≤ 200 := by rw [List.length_take]; omega
      have lE : (s.drop (fi isE s + 1)).length ≤ 200 := by rw [List.length_drop]; omega
      have cd := p_decimal_calls (s.take (fi isE s)) (by omega)
      have hRB := @decOk_RB (s.take (fi isE s))
      have hsq : ∀ (c : Bool) (r : Rat), (if c then some r else none : Option Rat) = (if c then some r else none) := fun _ _ => rfl
      clear hsq
      generalize s.take (fi isE s) = M at *
      generalize s.drop (fi isE s + 1) = E at *
      generalize ((fi isE s : Nat) : Int) = AT at *
      unfold decimalR at cd
      cases ho : decOk M
      · rw [ho, if_neg (by decide), Q0] at cd
        rw [Bool.and_false, if_neg (by decide)]
        unfold resQ
        dsimp only
        rw [Q0]
        clear ht hRB
        repeat (first | refine W_seq ?_ | refine W_reg ?_ | refine W_regd ?_ | refine W_block ?_ | refine And.intro (by omega) ?_ | simp (maxSteps := 1000000) (disch := omega) only [cA, cB, cC, frz_us, binE, unE, boundE, newsE, blkQ, Nat.reduceEqDiff, Nat.reduceLT, Nat.reduceAdd, ↓reduceIte, reduceCtorEq, Nat.reduceLeDiff, cS, cT, nbpParse] | refine callC_pure (cs) rfl ?_ | exact W_ret (RetP_1 (.imm rfl)) | exact W_ret (RetP_c rfl rfl rfl (.imm rfl)))
        refine W_cond rfl (fun h => by cases h) (fun _ => W_skip ?_)
        repeat (first | refine W_seq ?_ | refine W_reg ?_ | refine W_regd ?_ | refine W_block ?_ | refine And.intro (by omega) ?_ | simp (maxSteps := 1000000) (disch := omega) only [cA, cB, cC, frz_us, binE, unE, boundE, newsE, blkQ, Nat.reduceEqDiff, Nat.reduceLT, Nat.reduceAdd, ↓reduceIte, reduceCtorEq, Nat.reduceLeDiff, g0, cS, cT, nbpParse] | refine callC_pure (ce) rfl ?_ | refine callC_pure (cd) rfl ?_ | exact W_ret (RetP_1 (.imm rfl)) | exact W_ret (RetP_c rfl rfl rfl (.imm rfl)))
        refine W_cond rfl (fun _ => ?_) (fun h => by cases h)
        repeat (first | refine W_seq ?_ | refine W_reg ?_ | refine W_regd ?_ | refine W_block ?_ | refine And.intro (by omega) ?_ | simp (maxSteps := 1000000) (disch := omega) only [cA, cB, cC, frz_us, binE, unE, boundE, newsE, blkQ, Nat.reduceEqDiff, Nat.reduceLT, Nat.reduceAdd, ↓reduceIte, reduceCtorEq, Nat.reduceLeDiff, cS, cT, nbpParse])
        exact W_ret (RetP_ct rfl rfl rfl (.imm rfl) (.imm rfl))
      · rw [ho, if_pos rfl] at cd
        have ht := ht M E _ AT (hRB ho lM) lE
        rw [Bool.and_true]
        have hres : resQ (if expOk E then some (scl (decide (E.head? = some 45)) ((dval 0 (decN M ++ decF M) : Nat) : Int) (10 ^ (decF M).length) (dval 0 (expD E))) else none) = sclR (mkRat (dval 0 (decN M ++ decF M) : Nat) (10 ^ (decF M).length)) E := by
          unfold sclR
          cases expOk E
          · rfl
          · rw [if_pos rfl, if_pos rfl, scl_mul]; rfl
        rw [hres]
        clear hres hRB
        generalize sclR (mkRat (dval 0 (decN M ++ decF M) : Nat) (10 ^ (decF M).length)) E = R at *
        generalize mkRat (dval 0 (decN M ++ decF M) : Nat) (10 ^ (decF M).length) = z at *
        repeat (first | refine W_seq ?_ | refine W_reg ?_ | refine W_regd ?_ | refine W_block ?_ | refine And.intro (by omega) ?_ | simp (maxSteps := 1000000) (disch := omega) only [cA, cB, cC, frz_us, binE, unE, boundE, newsE, blkQ, Nat.reduceEqDiff, Nat.reduceLT, Nat.reduceAdd, ↓reduceIte, reduceCtorEq, Nat.reduceLeDiff, cS, cT, nbpParse] | refine callC_pure (cs) rfl ?_ | exact W_ret (RetP_1 (.imm rfl)) | exact W_ret (RetP_c rfl rfl rfl (.imm rfl)))
        refine W_cond rfl (fun h => by cases h) (fun _ => W_skip ?_)
        repeat (first | refine W_seq ?_ | refine W_reg ?_ | refine W_regd ?_ | refine W_block ?_ | refine And.intro (by omega) ?_ | simp (maxSteps := 1000000) (disch := omega) only [cA, cB, cC, frz_us, binE, unE, boundE, newsE, blkQ, Nat.reduceEqDiff, Nat.reduceLT, Nat.reduceAdd, ↓reduceIte, reduceCtorEq, Nat.reduceLeDiff, Q, g0, cS, cT, nbpParse] | refine callC_pure (ce) rfl ?_ | refine callC_pure (cd) rfl ?_ | exact W_ret (RetP_1 (.imm rfl)) | exact W_ret (RetP_c rfl rfl rfl (.imm rfl)))
        refine W_cond rfl (fun h => by cases h) (fun _ => W_skip ?_)
        refine W_sub ?_ ht
        simp [subF, lk]
    · rw [if_neg h2] at ce ⊢
      have cd := p_decimal_calls s (by omega)
      unfold decimalR at cd
      clear ht
      have hres : resQ (if decOk s then some (mkRat (dval 0 (decN s ++ decF s) : Nat) (10 ^ (decF s).length)) else none) = (if decOk s then .tup [Q (mkRat (dval 0 (decN s ++ decF s) : Nat) (10 ^ (decF s).length)), .bool true] else .tup [Q 0, .bool false]) := by
        cases decOk s <;> rfl
      rw [hres]
      clear hres
      generalize mkRat (dval 0 (decN s ++ decF s) : Nat) (10 ^ (decF s).length) = z at *
      cases ho : decOk s
      · rw [ho, if_neg (by decide)] at cd
        rw [if_neg (by decide)]
        repeat (first | refine W_seq ?_ | refine W_reg ?_ | refine W_regd ?_ | refine W_block ?_ | refine And.intro (by omega) ?_ | simp (maxSteps := 1000000) (disch := omega) only [cA, cB, cC, frz_us, binE, unE, boundE, newsE, blkQ, Nat.reduceEqDiff, Nat.reduceLT, Nat.reduceAdd, ↓reduceIte, reduceCtorEq, Nat.reduceLeDiff, cS, cT, nbpParse] | refine callC_pure (cs) rfl ?_ | exact W_ret (RetP_1 (.imm rfl)) | exact W_ret (RetP_c rfl rfl rfl (.imm rfl)))
        refine W_cond rfl (fun h => by cases h) (fun _ => W_skip ?_)
        repeat (first | refine W_seq ?_ | refine W_reg ?_ | refine W_regd ?_ | refine W_block ?_ | refine And.intro (by omega) ?_ | simp (maxSteps := 1000000) (disch := omega) only [cA, cB, cC, frz_us, binE, unE, boundE, newsE, blkQ, Nat.reduceEqDiff, Nat.reduceLT, Nat.reduceAdd, ↓reduceIte, reduceCtorEq, Nat.reduceLeDiff, Q, show decide ((-1 : Int) < 0) = true from rfl, cS, cT, nbpParse] | refine callC_pure (ce) rfl ?_ | refine callC_pure (cd) rfl ?_ | exact W_ret (RetP_1 (.imm rfl)) | exact W_ret (RetP_c rfl rfl rfl (.imm rfl)))
        refine W_cond rfl (fun _ => ?_) (fun h => by cases h)
        repeat (first | refine W_seq ?_ | refine W_reg ?_ | refine W_regd ?_ | refine W_block ?_ | refine And.intro (by omega) ?_ | simp (maxSteps := 1000000) (disch := omega) only [cA, cB, cC, frz_us, binE, unE, boundE, newsE, blkQ, Nat.reduceEqDiff, Nat.reduceLT, Nat.reduceAdd, ↓reduceIte, reduceCtorEq, Nat.reduceLeDiff, cS, cT, nbpParse])
        exact W_ret (RetP_ct rfl rfl rfl (.imm rfl) (.imm rfl))
      · rw [ho, if_pos rfl] at cd
        rw [if_pos rfl]
        repeat (first | refine W_seq ?_ | refine W_reg ?_ | refine W_regd ?_ | refine W_block ?_ | refine And.intro (by omega) ?_ | simp (maxSteps := 1000000) (disch := omega) only [cA, cB, cC, frz_us, binE, unE, boundE, newsE, blkQ, Nat.reduceEqDiff, Nat.reduceLT, Nat.reduceAdd, ↓reduceIte, reduceCtorEq, Nat.reduceLeDiff, cS, cT, nbpParse] | refine callC_pure (cs) rfl ?_ | exact W_ret (RetP_1 (.imm rfl)) | exact W_ret (RetP_c rfl rfl rfl (.imm rfl)))
        refine W_cond rfl (fun h => by cases h) (fun _ => W_skip ?_)
        repeat (first | refine W_seq ?_ | refine W_reg ?_ | refine W_regd ?_ | refine W_block ?_ | refine And.intro (by omega) ?_ | simp (maxSteps := 1000000) (disch := omega) only [cA, cB, cC, frz_us, binE, unE, boundE, newsE, blkQ, Nat.reduceEqDiff, Nat.reduceLT, Nat.reduceAdd, ↓reduceIte, reduceCtorEq, Nat.reduceLeDiff, Q, show decide ((-1 : Int) < 0) = true from rfl, cS, cT, nbpParse] | refine callC_pure (ce) rfl ?_ | refine callC_pure (cd) rfl ?_ | exact W_ret (RetP_1 (.imm rfl)) | exact W_ret (RetP_c rfl rfl rfl (.imm rfl)))
        refine W_cond rfl (fun _ => ?_) (fun h => by cases h)
        repeat (first | refine W_seq ?_ | refine W_reg ?_ | refine W_regd ?_ | refine W_block ?_ | refine And.intro (by omega) ?_ | simp (maxSteps := 1000000) (disch := omega) only [cA, cB, cC, frz_us, binE, unE, boundE, newsE, blkQ, Nat.reduceEqDiff, Nat.reduceLT, Nat.reduceAdd, ↓reduceIte, reduceCtorEq, Nat.reduceLeDiff, cS, cT, nbpParse])
        exact W_ret (RetP_ct rfl rfl rfl (.imm rfl) (.imm rfl))
end Go.Proofs.YteiagmmfapbaiaaGreatDoor
namespace Nat32
open Go Go.Dat
open Go.Lib (decDigits)
theorem mantP_lenB {B : Nat} {m : List UInt8} {k : Int} {n d : Nat} (h : mantP m k = some (n, d)) (hl : m.length ≤ B) (hk : k.natAbs ≤ 40) : (limbs n).length ≤ B + 41 ∧ (limbs d).length ≤ B + 42 := by
  have hd := decN_len m
  unfold mantP at h
  split at h
  · rename_i ho
    obtain ⟨h1, h2⟩ := decOk_all ho
    have hv := dval_le h1 (m := B) (by rw [List.length_append]; omega)
    have t1 := ten_le (decF m).length
    have t2 := ten_le k.natAbs
    split at h
    · simp only [Option.some.injEq, Prod.mk.injEq] at h
      rw [← h.1, ← h.2]
      exact ⟨by omega, Nat.le_trans (len_mul t1 t2) (by omega)⟩
    · simp only [Option.some.injEq, Prod.mk.injEq] at h
      rw [← h.1, ← h.2]
      exact ⟨Nat.le_trans (len_mul hv t2) (by omega), by omega⟩
  · cases h
theorem unsP_lenB {B : Nat} {s : List UInt8} {n d : Nat} (h : unsP s = some (n, d)) (hl : s.length ≤ B) : (limbs n).length ≤ B + 41 ∧ (limbs d).length ≤ B + 42 := by
  unfold unsP at h
  split at h
  · split at h
    · rename_i h1
      simp only [Bool.and_eq_true, decide_eq_true_eq] at h1
      simp only [Option.some.injEq, Prod.mk.injEq] at h
      rw [← h.1, ← h.2]
      exact ⟨dval_le (okD_all h1.1.1) (by rw [List.length_take]; omega), dval_le (okD_all h1.1.2) (by rw [List.length_drop]; omega)⟩
    · cases h
  · split at h
    · split at h
      · rename_i h1
        exact mantP_lenB h (by rw [List.length_take]; omega) (expOk_le h1)
      · cases h
    · exact mantP_lenB h hl (by decide)
end Nat32
namespace Go.Proofs.YteiagmmfapbaiaaGreatDoor
open Go Go.Dat Go.Proofs Nat32 Go.RowKit
open Go.Lib (decDigits repeatL)
theorem pParse_uns (s : List UInt8) (hs : s.length ≤ 200) (h45 : ¬ s.head? = some 45) : PCalls Tryz.prog 19 [.str s] (resQ (unsQ s)) := by
  have ht := tailP_W s hs
  generalize hT : tailP = T at *
  unfold tailP codepParse at hT
  dsimp only at hT
  refine PCalls_of ispParse (by simp [fnpParse]) ?_
  unfold codepParse
  rw [hT]
  clear hT
  generalize resQ (unsQ s) = R at *
  have e0 : (Int.toNat 0) = 0 := rfl
  rcases dash_no h45 with h0 | ⟨c, t, rfl, hc⟩
  · have dl : decide ((0 : Int) < (s.length : Int)) = false := decide_eq_false (by rw [h0]; decide)
    clear h0
    repeat (first | refine W_seq ?_ | refine W_reg ?_ | refine W_regd ?_ | refine W_block ?_ | refine And.intro (by omega) ?_ | simp (maxSteps := 1000000) (disch := omega) only [cA, cB, cC, frz_us, binE, unE, boundE, newsE, blkQ, Nat.reduceEqDiff, Nat.reduceLT, Nat.reduceAdd, ↓reduceIte, reduceCtorEq, Nat.reduceLeDiff, dl, nbpParse])
    refine W_cond rfl (fun h => by cases h) (fun _ => W_skip ?_)
    refine W_sub ?_ ht
    simp [subF, lk]
  · have dl : decide ((0 : Int) < ((c :: t).length : Int)) = true := decide_eq_true (by rw [List.length_cons]; omega)
    have hg : (c :: t).getD 0 0 = c := rfl
    have eb : byteD c = .int .u8 (c.toNat : Nat) := rfl
    have dc : decide (((c.toNat : Nat) : Int) = 45) = false := decide_eq_false hc
    have hL : 0 < (c :: t).length := by simp
    generalize (c :: t) = E at *
    repeat (first | refine W_seq ?_ | refine W_reg ?_ | refine W_regd ?_ | refine W_block ?_ | refine And.intro (by omega) ?_ | simp (maxSteps := 1000000) (disch := omega) only [cA, cB, cC, frz_us, binE, unE, boundE, newsE, blkQ, Nat.reduceEqDiff, Nat.reduceLT, Nat.reduceAdd, ↓reduceIte, reduceCtorEq, Nat.reduceLeDiff, dl, e0, hg, eb, dc, nbpParse])
    refine W_cond rfl (fun h => by cases h) (fun _ => W_skip ?_)
    refine W_sub ?_ ht
    simp [subF, lk]
theorem unsQ_RB {s : List UInt8} (hs : s.length ≤ 200) {x : Rat} (h : unsQ s = some x) : RB x 900 := by
  rw [unsQ_P, Option.map_eq_some_iff] at h
  obtain ⟨⟨n, d⟩, hp, rfl⟩ := h
  obtain ⟨b1, b2⟩ := unsP_lenB hp hs
  exact RB_mk (show d ≠ 0 by have := unsP_pos hp; omega) (by rw [Int.natAbs_natCast]; show (limbs n).length ≤ 900; omega) (show (limbs d).length ≤ 900 by omega)
theorem pParse_calls (l : List UInt8) (hl : l.length ≤ 200) : PCalls Tryz.prog 19 [.str l] (resQ (parseQ l)) := by
  unfold parseQ
  by_cases h45 : l.head? = some 45
  · rw [decide_eq_true h45, if_pos h45]
    match l, h45, hl with
    | c :: t, h45, hl =>
      rw [List.head?_cons, Option.some.injEq] at h45
      subst h45
      show PCalls _ _ _ (resQ (negQ true (unsQ t)))
      have e0 : (Int.toNat 0) = 0 := rfl
      have e1 : (Int.toNat 1) = 1 := rfl
      have dl : decide ((0 : Int) < (((45 : UInt8) :: t).length : Int)) = true := decide_eq_true (by rw [List.length_cons]; omega)
      have hg : ((45 : UInt8) :: t).getD 0 0 = 45 := rfl
      have hg1 : ((45 : UInt8) :: t).getD 1 0 = t.getD 0 0 := rfl
      have hL : 1 ≤ ((45 : UInt8) :: t).length := by simp
      have htl : (((45 : UInt8) :: t).take ((45 : UInt8) :: t).length).drop 1 = t := by rw [List.take_length]; rfl
      have eb : byteD 45 = .int .u8 45 := rfl
      have hlt : t.length ≤ 200 := by simp at hl; omega
      by_cases h2 : t.head? = some 45
      · match t, h2 with
        | c2 :: t2, h2 =>
          rw [List.head?_cons, Option.some.injEq] at h2
          subst h2
          rw [unsQ_45]
          have d1 : decide ((1 : Int) < (((45 : UInt8) :: (45 : UInt8) :: t2).length : Int)) = true := decide_eq_true (by simp; omega)
          have hL1 : 1 < ((45 : UInt8) :: (45 : UInt8) :: t2).length := by simp
          have hg1 : ((45 : UInt8) :: (45 : UInt8) :: t2).getD 1 0 = 45 := rfl
          clear htl hlt
          show PCalls _ _ _ (.tup [Q 0, .bool false])
          rw [Q0]
          refine PCalls_of ispParse (by simp [fnpParse]) ?_
          unfold codepParse
          generalize ((45 : UInt8) :: (45 : UInt8) :: t2) = E at *
          repeat (first | refine W_seq ?_ | refine W_reg ?_ | refine W_regd ?_ | refine W_block ?_ | refine And.intro (by omega) ?_ | simp (maxSteps := 1000000) (disch := omega) only [cA, cB, cC, frz_us, binE, unE, boundE, newsE, blkQ, Nat.reduceEqDiff, Nat.reduceLT, Nat.reduceAdd, ↓reduceIte, reduceCtorEq, Nat.reduceLeDiff, dl, e0, hg, eb, nbpParse])
          refine W_cond rfl (fun _ => ?_) (fun h => by cases h)
          repeat (first | refine W_seq ?_ | refine W_reg ?_ | refine W_regd ?_ | refine W_block ?_ | refine And.intro (by omega) ?_ | simp (maxSteps := 1000000) (disch := omega) only [cA, cB, cC, frz_us, binE, unE, boundE, newsE, blkQ, Nat.reduceEqDiff, Nat.reduceLT, Nat.reduceAdd, ↓reduceIte, reduceCtorEq, Nat.reduceLeDiff, d1, e1, hg1, eb, nbpParse])
          refine W_cond rfl (fun _ => ?_) (fun h => by cases h)
          repeat (first | refine W_seq ?_ | refine W_reg ?_ | refine W_regd ?_ | refine W_block ?_ | refine And.intro (by omega) ?_ | simp (maxSteps := 1000000) (disch := omega) only [cA, cB, cC, frz_us, binE, unE, boundE, newsE, blkQ, Nat.reduceEqDiff, Nat.reduceLT, Nat.reduceAdd, ↓reduceIte, reduceCtorEq, Nat.reduceLeDiff, cS, cT, nbpParse])
          exact W_ret (RetP_ct rfl rfl rfl (Exp_bnn _ _ _) (.imm rfl))
      · have cp := pParse_uns t hlt h2
        have hRB := @unsQ_RB t hlt
        refine PCalls_of ispParse (by simp [fnpParse]) ?_
        unfold codepParse
        have d2 : ∃ d, decide ((1 : Int) < (((45 : UInt8) :: t).length : Int)) = d ∧ (d = true → 1 < ((45 : UInt8) :: t).length) ∧ (d = true → decide (((((45 : UInt8) :: t).getD 1 0).toNat : Int) = 45) = false) := by
          refine ⟨_, rfl, fun h => by have := of_decide_eq_true h; omega, fun h => decide_eq_false ?_⟩
          rcases dash_no h2 with rfl | ⟨c, t2, rfl, hc⟩
          · simp at h
          · exact hc
        obtain ⟨d, d1, d3, d4⟩ := d2
        clear hg1
        generalize ((45 : UInt8) :: t) = E at *
        obtain ⟨g1, hgg⟩ : ∃ g, E.getD 1 0 = g := ⟨_, rfl⟩
        rw [hgg] at d4
        have eb1 : byteD g1 = .int .u8 (g1.toNat : Nat) := rfl
        cases hu : unsQ t with
        | none =>
          rw [hu] at cp
          have cn := pNegL 0 (RB_int (z := 0) (by simp [limbs_zero]) (by decide))
          rw [Rat.neg_zero, Q0] at cn
          show W _ _ (RetP _ (.tup [Q 0, .bool false])) _ _
          change PCalls _ _ _ (.tup [Q 0, .bool false]) at cp
          rw [Q0] at cp ⊢
          repeat (first | refine W_seq ?_ | refine W_reg ?_ | refine W_regd ?_ | refine W_block ?_ | refine And.intro (by omega) ?_ | simp (maxSteps := 1000000) (disch := omega) only [cA, cB, cC, frz_us, binE, unE, boundE, newsE, blkQ, Nat.reduceEqDiff, Nat.reduceLT, Nat.reduceAdd, ↓reduceIte, reduceCtorEq, Nat.reduceLeDiff, dl, e0, hg, eb, nbpParse])
          refine W_cond rfl (fun _ => ?_) (fun h => by cases h)
          cases d
          · repeat (first | refine W_seq ?_ | refine W_reg ?_ | refine W_regd ?_ | refine W_block ?_ | refine And.intro (by omega) ?_ | simp (maxSteps := 1000000) (disch := omega) only [cA, cB, cC, frz_us, binE, unE, boundE, newsE, blkQ, Nat.reduceEqDiff, Nat.reduceLT, Nat.reduceAdd, ↓reduceIte, reduceCtorEq, Nat.reduceLeDiff, d1, nbpParse])
            refine W_cond rfl (fun h => by cases h) (fun _ => W_skip ?_)
            repeat (first | refine W_seq ?_ | refine W_reg ?_ | refine W_regd ?_ | refine W_block ?_ | refine And.intro (by omega) ?_ | simp (maxSteps := 1000000) (disch := omega) only [cA, cB, cC, frz_us, binE, unE, boundE, newsE, blkQ, Nat.reduceEqDiff, Nat.reduceLT, Nat.reduceAdd, ↓reduceIte, reduceCtorEq, Nat.reduceLeDiff, e1, htl, Q, cS, cT, nbpParse] | refine callC_pure (cp) rfl ?_ | refine callC_pure (cn) rfl ?_ | exact W_ret (RetP_1 (.imm rfl)) | exact W_ret (RetP_c rfl rfl rfl (.imm rfl)))
            exact W_ret (RetP_ct rfl rfl rfl (.imm rfl) (.imm rfl))
          · have d3 := d3 rfl
            have d4 := d4 rfl
            repeat (first | refine W_seq ?_ | refine W_reg ?_ | refine W_regd ?_ | refine W_block ?_ | refine And.intro (by omega) ?_ | simp (maxSteps := 1000000) (disch := omega) only [cA, cB, cC, frz_us, binE, unE, boundE, newsE, blkQ, Nat.reduceEqDiff, Nat.reduceLT, Nat.reduceAdd, ↓reduceIte, reduceCtorEq, Nat.reduceLeDiff, d1, e1, hgg, eb1, d4, nbpParse])
            refine W_cond rfl (fun h => by cases h) (fun _ => W_skip ?_)
            repeat (first | refine W_seq ?_ | refine W_reg ?_ | refine W_regd ?_ | refine W_block ?_ | refine And.intro (by omega) ?_ | simp (maxSteps := 1000000) (disch := omega) only [cA, cB, cC, frz_us, binE, unE, boundE, newsE, blkQ, Nat.reduceEqDiff, Nat.reduceLT, Nat.reduceAdd, ↓reduceIte, reduceCtorEq, Nat.reduceLeDiff, e1, htl, Q, cS, cT, nbpParse] | refine callC_pure (cp) rfl ?_ | refine callC_pure (cn) rfl ?_ | exact W_ret (RetP_1 (.imm rfl)) | exact W_ret (RetP_c rfl rfl rfl (.imm rfl)))
            exact W_ret (RetP_ct rfl rfl rfl (.imm rfl) (.imm rfl))
        | some x =>
          rw [hu] at cp
          have cn := pNegL x (hRB hu)
          show W _ _ (RetP _ (.tup [Q (-x), .bool true])) _ _
          change PCalls _ _ _ (.tup [Q x, .bool true]) at cp
          clear hRB
          generalize -x = nx at *
          repeat (first | refine W_seq ?_ | refine W_reg ?_ | refine W_regd ?_ | refine W_block ?_ | refine And.intro (by omega) ?_ | simp (maxSteps := 1000000) (disch := omega) only [cA, cB, cC, frz_us, binE, unE, boundE, newsE, blkQ, Nat.reduceEqDiff, Nat.reduceLT, Nat.reduceAdd, ↓reduceIte, reduceCtorEq, Nat.reduceLeDiff, dl, e0, hg, eb, nbpParse])
          refine W_cond rfl (fun _ => ?_) (fun h => by cases h)
          cases d
          · repeat (first | refine W_seq ?_ | refine W_reg ?_ | refine W_regd ?_ | refine W_block ?_ | refine And.intro (by omega) ?_ | simp (maxSteps := 1000000) (disch := omega) only [cA, cB, cC, frz_us, binE, unE, boundE, newsE, blkQ, Nat.reduceEqDiff, Nat.reduceLT, Nat.reduceAdd, ↓reduceIte, reduceCtorEq, Nat.reduceLeDiff, d1, nbpParse])
            refine W_cond rfl (fun h => by cases h) (fun _ => W_skip ?_)
            repeat (first | refine W_seq ?_ | refine W_reg ?_ | refine W_regd ?_ | refine W_block ?_ | refine And.intro (by omega) ?_ | simp (maxSteps := 1000000) (disch := omega) only [cA, cB, cC, frz_us, binE, unE, boundE, newsE, blkQ, Nat.reduceEqDiff, Nat.reduceLT, Nat.reduceAdd, ↓reduceIte, reduceCtorEq, Nat.reduceLeDiff, e1, htl, Q, cS, cT, nbpParse] | refine callC_pure (cp) rfl ?_ | refine callC_pure (cn) rfl ?_ | exact W_ret (RetP_1 (.imm rfl)) | exact W_ret (RetP_c rfl rfl rfl (.imm rfl)))
            exact W_ret (RetP_ct rfl rfl rfl (.imm rfl) (.imm rfl))
          · have d3 := d3 rfl
            have d4 := d4 rfl
            repeat (first | refine W_seq ?_ | refine W_reg ?_ | refine W_regd ?_ | refine W_block ?_ | refine And.intro (by omega) ?_ | simp (maxSteps := 1000000) (disch := omega) only [cA, cB, cC, frz_us, binE, unE, boundE, newsE, blkQ, Nat.reduceEqDiff, Nat.reduceLT, Nat.reduceAdd, ↓reduceIte, reduceCtorEq, Nat.reduceLeDiff, d1, e1, hgg, eb1, d4, nbpParse])
            refine W_cond rfl (fun h => by cases h) (fun _ => W_skip ?_)
            repeat (first | refine W_seq ?_ | refine W_reg ?_ | refine W_regd ?_ | refine W_block ?_ | refine And.intro (by omega) ?_ | simp (maxSteps := 1000000) (disch := omega) only [cA, cB, cC, frz_us, binE, unE, boundE, newsE, blkQ, Nat.reduceEqDiff, Nat.reduceLT, Nat.reduceAdd, ↓reduceIte, reduceCtorEq, Nat.reduceLeDiff, e1, htl, Q, cS, cT, nbpParse] | refine callC_pure (cp) rfl ?_ | refine callC_pure (cn) rfl ?_ | exact W_ret (RetP_1 (.imm rfl)) | exact W_ret (RetP_c rfl rfl rfl (.imm rfl)))
            exact W_ret (RetP_ct rfl rfl rfl (.imm rfl) (.imm rfl))
  · rw [decide_eq_false h45, if_neg h45]
    exact pParse_uns l hl h45
end Go.Proofs.YteiagmmfapbaiaaGreatDoor
namespace Nat32
open Go Go.Dat
theorem mk_split (A D : Nat) (h : 0 < D) : mkRat (A : Int) D = mkRat ((A % D : Nat) : Int) D + (((A / D : Nat) : Int) : Rat) := by
  rw [show (((A / D : Nat) : Int) : Rat) = mkRat ((A / D : Nat) : Int) 1 from (Rat.mkRat_one _).symm, Rat.mkRat_add_mkRat _ _ (by omega) (by decide), Nat.mul_one]
  congr 1
  have := Nat.mod_add_div A D
  rw [Nat.mul_comm] at this
  have h2 : ((A % D + A / D * D : Nat) : Int) = (A : Int) := by rw [this]
  rw [← h2]
  simp
theorem mk_frac (A D : Nat) (h : 0 < D) : mkRat (A : Int) D - (((A / D : Nat) : Int) : Rat) = mkRat ((A % D : Nat) : Int) D := by
  rw [mk_split A D h, Rat.sub_eq_add_neg, Rat.add_assoc, Rat.add_neg_cancel, Rat.add_zero]
theorem mk_floor (A D : Nat) (h : 0 < D) : (mkRat (A : Int) D).floor = ((A / D : Nat) : Int) := by
  rw [Rat.floor_def, Rat.num_mkRat, Rat.den_mkRat, if_neg (by omega), if_neg (by omega), Int.natAbs_natCast]
  obtain ⟨a, ha⟩ := Nat.gcd_dvd_right D A
  obtain ⟨d, hd⟩ := Nat.gcd_dvd_left D A
  have hg : 0 < Nat.gcd D A := Nat.gcd_pos_of_pos_left _ h
  generalize Nat.gcd D A = g at *
  subst hd
  subst ha
  rw [Nat.mul_div_cancel_left _ hg, Nat.mul_div_mul_left _ _ hg]
  rw [show (((g * a : Nat) : Int) / ((g : Nat) : Int)) = ((g * a / g : Nat) : Int) from (Int.natCast_ediv _ _).symm, Nat.mul_div_cancel_left _ hg]
  exact (Int.natCast_ediv _ _).symm
theorem cmp1 (z D : Nat) (h : 0 < D) : cmpQ (mkRat (z : Int) D) ((1 : Int) : Rat) = cmpN z D := by
  rw [← sign_sub, Rat.sub_eq_add_neg, show -(((1 : Int)) : Rat) = mkRat (-1) 1 from by decide +kernel, Rat.mkRat_add_mkRat _ _ (by omega) (by decide), sign_mk _ _ (by omega)]
  unfold cmpN
  by_cases h1 : z < D
  · rw [if_pos h1]; exact Int.sign_eq_neg_one_of_neg (by omega)
  · rw [if_neg h1]
    by_cases h2 : D < z
    · rw [if_pos h2]; exact Int.sign_eq_one_of_pos (by omega)
    · rw [if_neg h2, show ((z : Int) * ((1 : Nat) : Int) + -1 * (D : Int)) = 0 by omega]; rfl
theorem cmp_half (A D : Nat) (h : 0 < D) : cmpQ ((mkRat (A : Int) D - (((A / D : Nat) : Int) : Rat)) * ((2 : Int) : Rat)) ((1 : Int) : Rat) = cmpN (A % D * 2) D := by
  rw [mk_frac A D h, show ((2 : Int) : Rat) = (((2 : Nat) : Int) : Rat) from rfl, mk_mul_nat]
  exact cmp1 (A % D * 2) D h
theorem abs_mul_ten (r : Rat) (T : Nat) : absQ r * (((T : Nat) : Int) : Rat) = mkRat ((r.num.natAbs * T : Nat) : Int) r.den := by
  have h := absQ_mk r.num r.den r.den_nz
  rw [Rat.mkRat_self] at h
  rw [h, mk_mul_nat, Int.natCast_mul]
end Nat32
namespace Go.Proofs.YteiagmmfapbaiaaGreatDoor
open Go Go.Dat Go.Proofs Nat32 Go.RowKit
open Go.Lib (decDigits repeatL)
def tailPD : DC := match codepDecimal with | .seq _ (.seq _ (.seq _ (.seq _ (.seq _ (.seq _ (.seq _ (.seq _ t))))))) => t | _ => .skip
theorem rep_succ (i : Nat) (l : List UInt8) : [(48 : UInt8)] ++ (List.replicate i 48 ++ l) = List.replicate (i + 1) 48 ++ l := by
  rw [List.replicate_succ]; rfl
set_option maxHeartbeats 1000000 in
theorem tailPD_W (neg : Bool) (a dd : List Nat) (q k : Nat) (C7 : List DV) (hq : (limbs q).length ≤ 800) (hk : k ≤ 100) (ha : a.length ≤ 900) (hd : dd.length ≤ 900) (la : lim a) (ld : lim dd) :
    W fnpDecimal tailPD (RetP respDecimal (.str (if decide ((rv neg a dd).num < 0) && decide (0 < q) then 45 :: pointed k (padz (k + 1) (decDigits q)) else pointed k (padz (k + 1) (decDigits q)))))
      [(1, .int .i64 k), (2, .ptr 2 0), (4, .str []), (8, .ptr 8 0)] [(2, [.bool neg, .sl 1 (us a), .sl 1 (us dd)]), (7, C7), (8, [.bool false, .sl 1 (us (limbs q))])] := by
  have c1 := sFormat_calls false (limbs q) (by omega) (lim_limbs _)
  rw [iv_nat] at c1
  have hf : fmtI ((q : Nat) : Int) = decDigits q := by unfold fmtI; rw [if_neg (by omega), Int.natAbs_natCast]
  rw [hf] at c1
  unfold X at c1
  have c2 := pSign_calls neg a dd ha hd la ld
  unfold XQ at c2
  have c3 := sSign_calls false (limbs q) (by omega) (lim_limbs _)
  rw [iv_nat] at c3
  unfold X at c3
  have hD := dd_le hq
  have hs1 : decide ((rv neg a dd).num.sign < 0) = decide ((rv neg a dd).num < 0) := by rw [decide_eq_decide]; exact Int.sign_neg_iff
  have hs2 : decide ((0 : Int) < ((q : Nat) : Int).sign) = decide (0 < q) := by
    rw [decide_eq_decide]
    rcases Nat.eq_zero_or_pos q with h | h
    · rw [h]; simp
    · rw [Int.sign_eq_one_of_pos (by omega)]; simp [h]
  generalize (rv neg a dd).num = RN at *
  unfold tailPD codepDecimal
  dsimp only
  generalize decDigits q = D at *
  repeat (first | refine W_seq ?_ | refine W_reg ?_ | refine W_regd ?_ | refine W_block ?_ | refine And.intro (by omega) ?_ | simp (maxSteps := 1000000) (disch := omega) only [cA, cB, cC, frz_us, binE, unE, boundE, newsE, blkQ, Nat.reduceEqDiff, Nat.reduceLT, Nat.reduceAdd, ↓reduceIte, reduceCtorEq, Nat.reduceLeDiff, cS, cT, nbpDecimal] | refine callC_pure (c1) rfl ?_ | exact W_ret (RetP_1 (.imm rfl)) | exact W_ret (RetP_c rfl rfl rfl (.imm rfl)))
  refine W_loop (σ := Nat) (fun i => [(1, .int .i64 k), (2, .ptr 2 0), (4, .str []), (8, .ptr 8 0), (10, .str (List.replicate i 48 ++ D))]) (fun _ => [(2, [.bool neg, .sl 1 (us a), .sl 1 (us dd)]), (7, C7), (8, [.bool false, .sl 1 (us (limbs q))])]) (fun i => i ≤ k + 1 - D.length) (fun i => k + 1 - D.length - i) 0 (Nat.zero_le _) ?_ rfl ?_
  · simp [subF, lk]
  · rintro i hi
    try simp only at hi ⊢
    have hlen : (List.replicate i (48 : UInt8) ++ D).length = i + D.length := by simp
    by_cases hlt : i < k + 1 - D.length
    · have d : decide (((List.replicate i (48 : UInt8) ++ D).length : Int) ≤ (k : Int)) = true := decide_eq_true (by rw [hlen]; omega)
      have e := rep_succ i D
      have hL1 : ([(48 : UInt8)] : List UInt8).length = 1 := rfl
      have hb : 1 + (List.replicate i (48 : UInt8) ++ D).length ≤ 9223372036854775807 := by rw [hlen]; omega
      generalize hG : List.replicate i (48 : UInt8) ++ D = G at *
      repeat (first | refine W_seq ?_ | refine W_reg ?_ | refine W_regd ?_ | refine W_block ?_ | refine And.intro (by omega) ?_ | simp (maxSteps := 1000000) (disch := omega) only [cA, cB, cC, frz_us, binE, unE, boundE, newsE, blkQ, Nat.reduceEqDiff, Nat.reduceLT, Nat.reduceAdd, ↓reduceIte, reduceCtorEq, Nat.reduceLeDiff, d])
      refine W_cond rfl (fun _ => W_skip ?_) (fun h => by cases h)
      repeat (first | refine W_seq ?_ | refine W_reg ?_ | refine W_regd ?_ | refine W_block ?_ | refine And.intro (by omega) ?_ | simp (maxSteps := 1000000) (disch := omega) only [cA, cB, cC, frz_us, binE, unE, boundE, newsE, blkQ, Nat.reduceEqDiff, Nat.reduceLT, Nat.reduceAdd, ↓reduceIte, reduceCtorEq, Nat.reduceLeDiff, e, hL1])
      exact ⟨i + 1, hlt, by omega, by simp [subF, lk]⟩
    · have d : decide (((List.replicate i (48 : UInt8) ++ D).length : Int) ≤ (k : Int)) = false := decide_eq_false (by rw [hlen]; omega)
      have ep : List.replicate i 48 ++ D = padz (k + 1) D := by unfold padz; rw [show k + 1 - D.length = i by omega]
      rw [ep] at d ⊢
      repeat (first | refine W_seq ?_ | refine W_reg ?_ | refine W_regd ?_ | refine W_block ?_ | refine And.intro (by omega) ?_ | simp (maxSteps := 1000000) (disch := omega) only [cA, cB, cC, frz_us, binE, unE, boundE, newsE, blkQ, Nat.reduceEqDiff, Nat.reduceLT, Nat.reduceAdd, ↓reduceIte, reduceCtorEq, Nat.reduceLeDiff, d])
      refine W_cond rfl (fun h => by cases h) (fun _ => W_exit ?_)
      have hp := padz_len (k + 1) D
      generalize padz (k + 1) D = L at *
      clear c1 hf ep d hlen hlt hi
      obtain ⟨dk, hdk⟩ : ∃ dk, decide ((0 : Int) < (k : Int)) = dk := ⟨_, rfl⟩
      have hPl : (pointed k L).length ≤ L.length + 1 := by
        unfold pointed; split
        · simp; omega
        · omega
      repeat (first | refine W_seq ?_ | refine W_reg ?_ | refine W_regd ?_ | refine W_block ?_ | refine And.intro (by omega) ?_ | simp (maxSteps := 1000000) (disch := omega) only [cA, cB, cC, frz_us, binE, unE, boundE, newsE, blkQ, Nat.reduceEqDiff, Nat.reduceLT, Nat.reduceAdd, ↓reduceIte, reduceCtorEq, Nat.reduceLeDiff, hdk])
      refine W_join (ι := Unit) (fun _ => True) (fun _ => [(1, .int .i64 k), (2, .ptr 2 0), (4, .str []), (8, .ptr 8 0), (10, .str (pointed k L))]) (fun _ => [(2, [.bool neg, .sl 1 (us a), .sl 1 (us dd)]), (7, C7), (8, [.bool false, .sl 1 (us (limbs q))])]) ?_ ?_
      · by_cases h : 0 < k
        · rw [decide_eq_true (by omega)] at hdk
          subst hdk
          have e : (((L.length : Int) - (k : Int))).toNat = L.length - k := by omega
          have e0 : (L.take (L.length - k)).drop 0 = L.take (L.length - k) := rfl
          have ep : (L.take (L.length - k) ++ [46]) ++ L.drop (L.length - k) = pointed k L := by unfold pointed; rw [if_pos h]; simp
          refine W_cond rfl (fun _ => ?_) (fun h => by cases h)
          repeat (first | refine W_seq ?_ | refine W_reg ?_ | refine W_regd ?_ | refine W_block ?_ | refine And.intro (by omega) ?_ | simp (maxSteps := 1000000) (disch := omega) only [cA, cB, cC, frz_us, binE, unE, boundE, newsE, blkQ, Nat.reduceEqDiff, Nat.reduceLT, Nat.reduceAdd, ↓reduceIte, reduceCtorEq, Nat.reduceLeDiff, e, e0, List.take_length, ep, List.length_append, List.length_take, List.length_drop, List.length_singleton])
          first | exact ⟨(), trivial, by simp [subF, lk], rfl⟩ | exact ⟨(), by simp [subF, lk], rfl⟩ | exact ⟨(), by simp [subF, lk]⟩ | exact ⟨(), trivial, by simp [subF, lk]⟩
        · rw [decide_eq_false (by omega)] at hdk
          subst hdk
          have ep : pointed k L = L := by unfold pointed; rw [if_neg h]
          refine W_cond rfl (fun h => by cases h) (fun _ => W_skip ?_)
          rw [ep]
          first | exact ⟨(), trivial, by simp [subF, lk], rfl⟩ | exact ⟨(), by simp [subF, lk], rfl⟩ | exact ⟨(), by simp [subF, lk]⟩ | exact ⟨(), trivial, by simp [subF, lk]⟩
      · rintro ⟨⟩ -
        generalize pointed k L = P at *
        have e : [(45 : UInt8)] ++ P = 45 :: P := rfl
        have hL1 : ([(45 : UInt8)] : List UInt8).length = 1 := rfl
        cases hb : decide (RN < 0)
        · rw [hb] at hs1
          repeat (first | refine W_seq ?_ | refine W_reg ?_ | refine W_regd ?_ | refine W_block ?_ | refine And.intro (by omega) ?_ | simp (maxSteps := 1000000) (disch := omega) only [cA, cB, cC, frz_us, binE, unE, boundE, newsE, blkQ, Nat.reduceEqDiff, Nat.reduceLT, Nat.reduceAdd, ↓reduceIte, reduceCtorEq, Nat.reduceLeDiff, cS, cT, nbpDecimal, hs1] | refine callC_pure (c2) rfl ?_ | exact W_ret (RetP_1 (.imm rfl)) | exact W_ret (RetP_c rfl rfl rfl (.imm rfl)))
          refine W_cond rfl (fun h => by cases h) (fun _ => W_skip ?_)
          repeat (first | refine W_seq ?_ | refine W_reg ?_ | refine W_regd ?_ | refine W_block ?_ | refine And.intro (by omega) ?_ | simp (maxSteps := 1000000) (disch := omega) only [cA, cB, cC, frz_us, binE, unE, boundE, newsE, blkQ, Nat.reduceEqDiff, Nat.reduceLT, Nat.reduceAdd, ↓reduceIte, reduceCtorEq, Nat.reduceLeDiff, cS])
          exact W_ret (RetP_1 (.imm rfl))
        · rw [hb] at hs1
          cases hq0 : decide (0 < q)
          · rw [hq0] at hs2
            repeat (first | refine W_seq ?_ | refine W_reg ?_ | refine W_regd ?_ | refine W_block ?_ | refine And.intro (by omega) ?_ | simp (maxSteps := 1000000) (disch := omega) only [cA, cB, cC, frz_us, binE, unE, boundE, newsE, blkQ, Nat.reduceEqDiff, Nat.reduceLT, Nat.reduceAdd, ↓reduceIte, reduceCtorEq, Nat.reduceLeDiff, cS, cT, nbpDecimal, hs1, hs2] | refine callC_pure (c2) rfl ?_ | refine callC_pure (c3) rfl ?_ | exact W_ret (RetP_1 (.imm rfl)) | exact W_ret (RetP_c rfl rfl rfl (.imm rfl)))
            refine W_cond rfl (fun h => by cases h) (fun _ => W_skip ?_)
            repeat (first | refine W_seq ?_ | refine W_reg ?_ | refine W_regd ?_ | refine W_block ?_ | refine And.intro (by omega) ?_ | simp (maxSteps := 1000000) (disch := omega) only [cA, cB, cC, frz_us, binE, unE, boundE, newsE, blkQ, Nat.reduceEqDiff, Nat.reduceLT, Nat.reduceAdd, ↓reduceIte, reduceCtorEq, Nat.reduceLeDiff, cS])
            exact W_ret (RetP_1 (.imm rfl))
          · rw [hq0] at hs2
            repeat (first | refine W_seq ?_ | refine W_reg ?_ | refine W_regd ?_ | refine W_block ?_ | refine And.intro (by omega) ?_ | simp (maxSteps := 1000000) (disch := omega) only [cA, cB, cC, frz_us, binE, unE, boundE, newsE, blkQ, Nat.reduceEqDiff, Nat.reduceLT, Nat.reduceAdd, ↓reduceIte, reduceCtorEq, Nat.reduceLeDiff, cS, cT, nbpDecimal, hs1, hs2] | refine callC_pure (c2) rfl ?_ | refine callC_pure (c3) rfl ?_ | exact W_ret (RetP_1 (.imm rfl)) | exact W_ret (RetP_c rfl rfl rfl (.imm rfl)))
            refine W_cond rfl (fun _ => ?_) (fun h => by cases h)
            repeat (first | refine W_seq ?_ | refine W_reg ?_ | refine W_regd ?_ | refine W_block ?_ | refine And.intro (by omega) ?_ | simp (maxSteps := 1000000) (disch := omega) only [cA, cB, cC, frz_us, binE, unE, boundE, newsE, blkQ, Nat.reduceEqDiff, Nat.reduceLT, Nat.reduceAdd, ↓reduceIte, reduceCtorEq, Nat.reduceLeDiff, cS, e, hL1])
            exact W_ret (RetP_1 (.imm rfl))
end Go.Proofs.YteiagmmfapbaiaaGreatDoor
namespace Go.Proofs.YteiagmmfapbaiaaGreatDoor
open Go Go.Dat Go.Proofs Nat32 Go.RowKit
open Go.Lib (decDigits repeatL)
set_option maxHeartbeats 2000000 in
theorem pDecimal_calls (neg : Bool) (a d : List Nat) (k : Int) (ha : a.length ≤ 100) (hd : d.length ≤ 100) (la : lim a) (ld : lim d) : PCalls Tryz.prog 23 [XQ neg a d, .int .i64 k] (.str (decR (rv neg a d) k)) := by
  have cab := pAbs_calls neg a d (by omega) (by omega) la ld
  have k1 : RB (rv neg a d) 100 := RB_rv la ld ha hd (by decide)
  refine PCalls_of ispDecimal (by simp [fnpDecimal]) ?_
  by_cases h0 : k < 0
  · unfold codepDecimal decR
    rw [if_pos (.inl h0)]
    have d0 : decide (k < 0) = true := decide_eq_true h0
    repeat (first | refine W_seq ?_ | refine W_reg ?_ | refine W_regd ?_ | refine W_block ?_ | refine And.intro (by omega) ?_ | simp (maxSteps := 1000000) (disch := omega) only [cA, cB, cC, frz_us, binE, unE, boundE, newsE, blkQ, Nat.reduceEqDiff, Nat.reduceLT, Nat.reduceAdd, ↓reduceIte, reduceCtorEq, Nat.reduceLeDiff, XQ, cS, nbpDecimal, d0])
    refine W_cond rfl (fun _ => ?_) (fun h => by cases h)
    repeat (first | refine W_seq ?_ | refine W_reg ?_ | refine W_regd ?_ | refine W_block ?_ | refine And.intro (by omega) ?_ | simp (maxSteps := 1000000) (disch := omega) only [cA, cB, cC, frz_us, binE, unE, boundE, newsE, blkQ, Nat.reduceEqDiff, Nat.reduceLT, Nat.reduceAdd, ↓reduceIte, reduceCtorEq, Nat.reduceLeDiff])
    exact W_ret (RetP_1 (.imm rfl))
  · have d0 : decide (k < 0) = false := decide_eq_false h0
    by_cases h1 : 100 < k
    · unfold codepDecimal decR
      rw [if_pos (.inr h1)]
      have d1 : decide (100 < k) = true := decide_eq_true h1
      repeat (first | refine W_seq ?_ | refine W_reg ?_ | refine W_regd ?_ | refine W_block ?_ | refine And.intro (by omega) ?_ | simp (maxSteps := 1000000) (disch := omega) only [cA, cB, cC, frz_us, binE, unE, boundE, newsE, blkQ, Nat.reduceEqDiff, Nat.reduceLT, Nat.reduceAdd, ↓reduceIte, reduceCtorEq, Nat.reduceLeDiff, XQ, cS, nbpDecimal, d0, d1])
      refine W_cond rfl (fun _ => ?_) (fun h => by cases h)
      repeat (first | refine W_seq ?_ | refine W_reg ?_ | refine W_regd ?_ | refine W_block ?_ | refine And.intro (by omega) ?_ | simp (maxSteps := 1000000) (disch := omega) only [cA, cB, cC, frz_us, binE, unE, boundE, newsE, blkQ, Nat.reduceEqDiff, Nat.reduceLT, Nat.reduceAdd, ↓reduceIte, reduceCtorEq, Nat.reduceLeDiff])
      exact W_ret (RetP_1 (.imm rfl))
    · unfold decR
      rw [if_neg (by omega)]
      have d1 : decide (100 < k) = false := decide_eq_false h1
      obtain ⟨n, rfl⟩ : ∃ n : Nat, k = n := ⟨k.toNat, by omega⟩
      rw [Int.toNat_natCast]
      have hn : n ≤ 100 := by omega
      have tl := ten_len n
      have rab : RB (absQ (rv neg a d)) 100 := by
        unfold absQ; split
        · exact RB_neg k1
        · exact k1
      have rT : RB (((10 ^ n : Nat) : Int) : Rat) 101 := RB_int (by rw [Int.natAbs_natCast]; omega) (by decide)
      have cmu := pMulL (absQ (rv neg a d)) (((10 ^ n : Nat) : Int) : Rat) (rab.mono (by decide)) (rT.mono (by decide))
      have rv2 := RB_mul rab rT
      have hD0 := (rv neg a d).den_pos
      have ev : absQ (rv neg a d) * (((10 ^ n : Nat) : Int) : Rat) = mkRat (((rv neg a d).num.natAbs * 10 ^ n : Nat) : Int) (rv neg a d).den := abs_mul_ten _ _
      rw [ev] at cmu rv2
      have hlD := k1.2
      have hlA := len_mul k1.1 tl
      have ht := tailPD_W neg a d (rnd ((rv neg a d).num.natAbs * 10 ^ n) (rv neg a d).den) n
      have hres : decS (rv neg a d) n = (if decide ((rv neg a d).num < 0) && decide (0 < rnd ((rv neg a d).num.natAbs * 10 ^ n) (rv neg a d).den) then 45 :: pointed n (padz (n + 1) (decDigits (rnd ((rv neg a d).num.natAbs * 10 ^ n) (rv neg a d).den))) else pointed n (padz (n + 1) (decDigits (rnd ((rv neg a d).num.natAbs * 10 ^ n) (rv neg a d).den)))) := by
        unfold decS
        rw [← Bool.decide_and]
        simp only [decide_eq_true_eq]
      rw [← hres] at ht
      have ht := fun C => ht C (Nat.le_trans (rnd_len (m := 201) (by omega)) (by decide)) hn (by omega) (by omega) la ld
      clear hres
      generalize decS (rv neg a d) n = RES at *
      generalize absQ (rv neg a d) = AB at *
      generalize (rv neg a d).num.natAbs * 10 ^ n = A at *
      generalize (rv neg a d).den = D at *
      clear ev rab k1 rT
      have cfl := pFloorL (mkRat ((A : Nat) : Int) D) (rv2.mono (by decide))
      rw [mk_floor A D hD0, I_nat] at cfl
      have lq := Nat.le_trans (len_mono (Nat.div_le_self A D)) hlA
      have lr := Nat.le_trans (len_mono (Nat.le_of_lt (Nat.mod_lt A hD0))) hlD
      have rq : RB ((((A / D : Nat) : Nat) : Int) : Rat) 300 := RB_int (by rw [Int.natAbs_natCast]; omega) (by decide)
      have csu := pSubL (mkRat ((A : Nat) : Int) D) ((((A / D : Nat) : Nat) : Int) : Rat) (rv2.mono (by decide)) rq
      rw [Q_nat'] at csu
      have c2 := pFromInt_calls 2 (by decide) (by decide)
      have c1 := pFromInt_calls 1 (by decide) (by decide)
      have r2 : RB ((2 : Int) : Rat) 1 := RB_int (show (limbs 2).length ≤ 1 from limbs_len.2 (by decide)) (by decide)
      have r1 : RB ((1 : Int) : Rat) 1 := RB_int (show (limbs 1).length ≤ 1 from limbs_len.2 (by decide)) (by decide)
      have rfr : RB (mkRat ((A : Nat) : Int) D - ((((A / D : Nat) : Nat) : Int) : Rat)) 100 := by
        rw [mk_frac A D hD0]
        exact RB_mk (by omega) (by rw [Int.natAbs_natCast]; omega) hlD
      have cm2 := pMulL _ _ (rfr.mono (by decide)) (r2.mono (n := 300) (by decide))
      have ccm := pCompareL _ ((1 : Int) : Rat) ((RB_mul rfr r2).mono (n := 300) (by decide)) (r1.mono (by decide))
      rw [cmp_half A D hD0] at ccm
      have e1 := cmp_gt (A % D * 2) D
      have e2 := cmp_e0 (A % D * 2) D
      have cs1 := sFromInt_calls 1 (by decide) (by decide)
      have csa := sAddL ((A / D : Nat) : Int) 1 (il_nat (by omega)) (by unfold il; exact limbs1_le (m := 900) (by decide))
      rw [show (((A / D : Nat) : Int) + 1) = ((A / D + 1 : Nat) : Int) by omega, I_nat, I_nat] at csa
      have hup := @rnd_up A D
      have hdn := @rnd_dn A D
      have hg0 := getD_limbs0 (A / D)
      have hlg := len_gt (A / D)
      generalize rnd A D = RN at *
      generalize cmpN (A % D * 2) D = C at *
      clear rfr rq lr hlD hlA rv2 r1 r2
      generalize mkRat ((A : Nat) : Int) D - ((((A / D : Nat) : Nat) : Int) : Rat) = Z1 at *
      generalize Z1 * ((2 : Int) : Rat) = Z2 at *
      generalize mkRat ((A : Nat) : Int) D = Z0 at *
      generalize A / D = q at *
      generalize A % D = R at *
      rw [Q_nat'] at cmu
      have l1 : limbs (10 ^ 0) = limbs 1 := rfl
      have htC := ht (XL Z0)
      clear ht
      generalize hT : tailPD = T at htC
      unfold tailPD codepDecimal at hT
      dsimp only at hT
      unfold codepDecimal
      rw [hT]
      clear hT
      repeat (first | refine W_seq ?_ | refine W_reg ?_ | refine W_regd ?_ | refine W_block ?_ | refine And.intro (by omega) ?_ | simp (maxSteps := 1000000) (disch := omega) only [cA, cB, cC, frz_us, binE, unE, boundE, newsE, blkQ, Nat.reduceEqDiff, Nat.reduceLT, Nat.reduceAdd, ↓reduceIte, reduceCtorEq, Nat.reduceLeDiff, XQ, cS, nbpDecimal, d0, d1])
      refine W_cond rfl (fun h => by cases h) (fun _ => W_skip ?_)
      repeat (first | refine W_seq ?_ | refine W_reg ?_ | refine W_regd ?_ | refine W_block ?_ | refine And.intro (by omega) ?_ | simp (maxSteps := 1000000) (disch := omega) only [cA, cB, cC, frz_us, binE, unE, boundE, newsE, blkQ, Nat.reduceEqDiff, Nat.reduceLT, Nat.reduceAdd, ↓reduceIte, reduceCtorEq, Nat.reduceLeDiff, us1L, us_rfd])
      refine W_loop (σ := Nat) (fun i => [(1, .int .i64 n), (2, .ptr 2 0), (4, .str []), (5, .sl 1 (us (limbs (10 ^ i)))), (6, .int .i64 i)]) (fun _ => [(2, [.bool neg, .sl 1 (us a), .sl 1 (us d)])]) (fun i => i ≤ n) (fun i => n - i) 0 (Nat.zero_le _) ?_ rfl ?_
      · simp [subF, lk, l1]
      · rintro i hi
        try simp only at hi ⊢
        by_cases hlt : i < n
        · have dl : decide ((i : Int) < n) = true := decide_eq_true (by omega)
          have e1 : ((i : Int) + 1) = ((i + 1 : Nat) : Int) := by omega
          have cm := rMul10 i (by omega)
          repeat (first | refine W_seq ?_ | refine W_reg ?_ | refine W_regd ?_ | refine W_block ?_ | refine And.intro (by omega) ?_ | simp (maxSteps := 1000000) (disch := omega) only [cA, cB, cC, frz_us, binE, unE, boundE, newsE, blkQ, Nat.reduceEqDiff, Nat.reduceLT, Nat.reduceAdd, ↓reduceIte, reduceCtorEq, Nat.reduceLeDiff, dl])
          refine W_cond rfl (fun _ => W_skip ?_) (fun h => by cases h)
          repeat (first | refine W_seq ?_ | refine W_reg ?_ | refine W_regd ?_ | refine W_block ?_ | refine And.intro (by omega) ?_ | simp (maxSteps := 1000000) (disch := omega) only [cA, cB, cC, frz_us, binE, unE, boundE, newsE, blkQ, Nat.reduceEqDiff, Nat.reduceLT, Nat.reduceAdd, ↓reduceIte, reduceCtorEq, Nat.reduceLeDiff, l10, us_rfd, e1] | refine callC_pure (cm) rfl ?_ | exact W_ret (RetP_1 (.imm rfl)) | exact W_ret (RetP_c rfl rfl rfl (.imm rfl)))
          exact ⟨i + 1, hlt, by omega, by simp [subF, lk]⟩
        · have dl : decide ((i : Int) < n) = false := decide_eq_false (by omega)
          have hin : i = n := by omega
          subst hin
          generalize 10 ^ i = TN at *
          have cab' := cab
          unfold XQ at cab'
          have e0 : (Int.toNat 0) = 0 := rfl
          repeat (first | refine W_seq ?_ | refine W_reg ?_ | refine W_regd ?_ | refine W_block ?_ | refine And.intro (by omega) ?_ | simp (maxSteps := 1000000) (disch := omega) only [cA, cB, cC, frz_us, binE, unE, boundE, newsE, blkQ, Nat.reduceEqDiff, Nat.reduceLT, Nat.reduceAdd, ↓reduceIte, reduceCtorEq, Nat.reduceLeDiff, dl])
          refine W_cond rfl (fun h => by cases h) (fun _ => W_exit ?_)
          by_cases hA : D < R * 2
          · rw [decide_eq_true hA] at e1
            rw [hup (.inl (by omega))] at htC
            clear hup hdn
            repeat (first | refine W_seq ?_ | refine W_reg ?_ | refine W_regd ?_ | refine W_block ?_ | refine And.intro (by omega) ?_ | simp (maxSteps := 1000000) (disch := omega) only [cA, cB, cC, frz_us, binE, unE, boundE, newsE, blkQ, Nat.reduceEqDiff, Nat.reduceLT, Nat.reduceAdd, ↓reduceIte, reduceCtorEq, Nat.reduceLeDiff, XL, Q, cS, cT, nbpDecimal, e1] | refine callC_pure (cab') rfl ?_ | refine callC_pure (PCalls_nz1 1 (cmu)) rfl ?_ | refine callC_pure (cfl) rfl ?_ | refine callC_pure (PCalls_nz1 1 (csu)) rfl ?_ | refine callC_pure (c2) rfl ?_ | refine callC_pure (cm2) rfl ?_ | refine callC_pure (c1) rfl ?_ | refine callC_pure (ccm) rfl ?_ | exact W_ret (RetP_1 (.imm rfl)) | exact W_ret (RetP_c rfl rfl rfl (.imm rfl)))
            refine W_cond rfl (fun _ => ?_) (fun h => by cases h)
            repeat (first | refine W_seq ?_ | refine W_reg ?_ | refine W_regd ?_ | refine W_block ?_ | refine And.intro (by omega) ?_ | simp (maxSteps := 1000000) (disch := omega) only [cA, cB, cC, frz_us, binE, unE, boundE, newsE, blkQ, Nat.reduceEqDiff, Nat.reduceLT, Nat.reduceAdd, ↓reduceIte, reduceCtorEq, Nat.reduceLeDiff, XL, Q, cS, cT, nbpDecimal] | refine callC_pure (cs1) rfl ?_ | refine callC_pure (csa) rfl ?_ | exact W_ret (RetP_1 (.imm rfl)) | exact W_ret (RetP_c rfl rfl rfl (.imm rfl)))
            refine W_sub ?_ htC
            simp [subF, lk]
          · rw [decide_eq_false hA] at e1
            by_cases hE : R * 2 = D
            · rw [decide_eq_true hE] at e2
              by_cases hq : 0 < q
              · rw [decide_eq_true hq] at hlg
                have hlq : 0 < (limbs q).length := limbs_len0.2 hq
                have tm2 : (((q % 4294967296 : Nat) : Int)).tmod 2 = ((q % 2 : Nat) : Int) := by
                  have := tmod_nat (q % 4294967296) 2
                  rw [Nat.mod_mod_of_dvd q (show 2 ∣ 4294967296 by decide)] at this
                  exact this
                have hug := us_getD hlq
                rw [hg0] at hug
                by_cases ho : q % 2 = 1
                · rw [hup (.inr ⟨by omega, ho⟩)] at htC
                  have d2 : decide (((q % 2 : Nat) : Int) = 1) = true := decide_eq_true (by omega)
                  clear hup hdn hg0
                  repeat (first | refine W_seq ?_ | refine W_reg ?_ | refine W_regd ?_ | refine W_block ?_ | refine And.intro (by omega) ?_ | simp (maxSteps := 1000000) (disch := omega) only [cA, cB, cC, frz_us, binE, unE, boundE, newsE, blkQ, Nat.reduceEqDiff, Nat.reduceLT, Nat.reduceAdd, ↓reduceIte, reduceCtorEq, Nat.reduceLeDiff, XL, Q, cS, cT, nbpDecimal, e1, e2, hlg, us_length, e0, hug, tm2, d2] | refine callC_pure (cab') rfl ?_ | refine callC_pure (PCalls_nz1 1 (cmu)) rfl ?_ | refine callC_pure (cfl) rfl ?_ | refine callC_pure (PCalls_nz1 1 (csu)) rfl ?_ | refine callC_pure (c2) rfl ?_ | refine callC_pure (cm2) rfl ?_ | refine callC_pure (c1) rfl ?_ | refine callC_pure (ccm) rfl ?_ | exact W_ret (RetP_1 (.imm rfl)) | exact W_ret (RetP_c rfl rfl rfl (.imm rfl)))
                  refine W_cond rfl (fun _ => ?_) (fun h => by cases h)
                  repeat (first | refine W_seq ?_ | refine W_reg ?_ | refine W_regd ?_ | refine W_block ?_ | refine And.intro (by omega) ?_ | simp (maxSteps := 1000000) (disch := omega) only [cA, cB, cC, frz_us, binE, unE, boundE, newsE, blkQ, Nat.reduceEqDiff, Nat.reduceLT, Nat.reduceAdd, ↓reduceIte, reduceCtorEq, Nat.reduceLeDiff, XL, Q, cS, cT, nbpDecimal] | refine callC_pure (cs1) rfl ?_ | refine callC_pure (csa) rfl ?_ | exact W_ret (RetP_1 (.imm rfl)) | exact W_ret (RetP_c rfl rfl rfl (.imm rfl)))
                  refine W_sub ?_ htC
                  simp [subF, lk]
                · rw [hdn (fun h => by omega)] at htC
                  have d2 : decide (((q % 2 : Nat) : Int) = 1) = false := decide_eq_false (by omega)
                  clear hup hdn hg0
                  repeat (first | refine W_seq ?_ | refine W_reg ?_ | refine W_regd ?_ | refine W_block ?_ | refine And.intro (by omega) ?_ | simp (maxSteps := 1000000) (disch := omega) only [cA, cB, cC, frz_us, binE, unE, boundE, newsE, blkQ, Nat.reduceEqDiff, Nat.reduceLT, Nat.reduceAdd, ↓reduceIte, reduceCtorEq, Nat.reduceLeDiff, XL, Q, cS, cT, nbpDecimal, e1, e2, hlg, us_length, e0, hug, tm2, d2] | refine callC_pure (cab') rfl ?_ | refine callC_pure (PCalls_nz1 1 (cmu)) rfl ?_ | refine callC_pure (cfl) rfl ?_ | refine callC_pure (PCalls_nz1 1 (csu)) rfl ?_ | refine callC_pure (c2) rfl ?_ | refine callC_pure (cm2) rfl ?_ | refine callC_pure (c1) rfl ?_ | refine callC_pure (ccm) rfl ?_ | exact W_ret (RetP_1 (.imm rfl)) | exact W_ret (RetP_c rfl rfl rfl (.imm rfl)))
                  refine W_cond rfl (fun h => by cases h) (fun _ => W_skip ?_)
                  refine W_sub ?_ htC
                  simp [subF, lk]
              · rw [decide_eq_false hq] at hlg
                rw [hdn (fun h => by have h0 : q = 0 := by omega
                                     rw [h0] at h; omega)] at htC
                clear hup hdn
                repeat (first | refine W_seq ?_ | refine W_reg ?_ | refine W_regd ?_ | refine W_block ?_ | refine And.intro (by omega) ?_ | simp (maxSteps := 1000000) (disch := omega) only [cA, cB, cC, frz_us, binE, unE, boundE, newsE, blkQ, Nat.reduceEqDiff, Nat.reduceLT, Nat.reduceAdd, ↓reduceIte, reduceCtorEq, Nat.reduceLeDiff, XL, Q, cS, cT, nbpDecimal, e1, e2, hlg, us_length] | refine callC_pure (cab') rfl ?_ | refine callC_pure (PCalls_nz1 1 (cmu)) rfl ?_ | refine callC_pure (cfl) rfl ?_ | refine callC_pure (PCalls_nz1 1 (csu)) rfl ?_ | refine callC_pure (c2) rfl ?_ | refine callC_pure (cm2) rfl ?_ | refine callC_pure (c1) rfl ?_ | refine callC_pure (ccm) rfl ?_ | exact W_ret (RetP_1 (.imm rfl)) | exact W_ret (RetP_c rfl rfl rfl (.imm rfl)))
                refine W_cond rfl (fun h => by cases h) (fun _ => W_skip ?_)
                refine W_sub ?_ htC
                simp [subF, lk]
            · rw [decide_eq_false hE] at e2
              rw [hdn (fun h => by omega)] at htC
              clear hup hdn
              repeat (first | refine W_seq ?_ | refine W_reg ?_ | refine W_regd ?_ | refine W_block ?_ | refine And.intro (by omega) ?_ | simp (maxSteps := 1000000) (disch := omega) only [cA, cB, cC, frz_us, binE, unE, boundE, newsE, blkQ, Nat.reduceEqDiff, Nat.reduceLT, Nat.reduceAdd, ↓reduceIte, reduceCtorEq, Nat.reduceLeDiff, XL, Q, cS, cT, nbpDecimal, e1, e2] | refine callC_pure (cab') rfl ?_ | refine callC_pure (PCalls_nz1 1 (cmu)) rfl ?_ | refine callC_pure (cfl) rfl ?_ | refine callC_pure (PCalls_nz1 1 (csu)) rfl ?_ | refine callC_pure (c2) rfl ?_ | refine callC_pure (cm2) rfl ?_ | refine callC_pure (c1) rfl ?_ | refine callC_pure (ccm) rfl ?_ | exact W_ret (RetP_1 (.imm rfl)) | exact W_ret (RetP_c rfl rfl rfl (.imm rfl)))
              refine W_cond rfl (fun h => by cases h) (fun _ => W_skip ?_)
              refine W_sub ?_ htC
              simp [subF, lk]
end Go.Proofs.YteiagmmfapbaiaaGreatDoor
namespace Go.Proofs
open Go.Shelf Go.RowKit Go.Lib
variable {P : Program} {ρ : Ren}
def eE : ByteArray := ⟨[101, 69].toArray⟩
set_option maxHeartbeats 8000000 in
set_option maxRecDepth 1000000 in
theorem IR_err (L : Lays.n152 P ρ) (w : World) :
    Calls P (ρ.f 152) #[.string eE, .int .i32 65533] w fun e w' => e = .returned (.int .i64 (-1)) ∧ Below w.heap.size w w' := by
  have mixed := L.mixed
  have t3 := L.t3; have a3 := L.a3; have z3 := L.z3; have v3 := L.v3
  have t4 := L.t4; have a4 := L.a4; have z4 := L.z4; have v4 := L.v4
  have t5 := L.t5; have a5 := L.a5; have z5 := L.z5; have v5 := L.v5
  have t9 := L.t9; have a9 := L.a9; have z9 := L.z9; have v9 := L.v9
  have t21 := L.t21; have a21 := L.a21; have z21 := L.z21; have v21 := L.v21
  have hsz : eE.size = 2 := rfl
  go_enter L.f152, Body.n152_ntmps ρ
  go_wp2
  go_loopg [5, 6] 2 (fun g _ _ wx => ∃ i : Nat, i + g = 2 ∧ wx = w.iter eE i)
  case atStart => exact ⟨0, by omega, rfl⟩
  case round =>
    obtain ⟨i, hig, rfl⟩ := hrel
    cases gk with
    | zero =>
      obtain rfl : i = 2 := by omega
      have hnx := run_next_end (P := P) w eE 2
      go_wp2
      go_ret
      exact ⟨rfl, (Below.refl _ _).alloc (Nat.le_refl _) _⟩
    | succ g =>
      have hi : i < eE.size := by rw [hsz]; omega
      obtain ⟨x, hx⟩ : ∃ x : UInt8, eE[i]'hi = x := ⟨_, rfl⟩
      have hx128 : x.toNat < 128 := by
        rw [← hx]
        have : i = 0 ∨ i = 1 := by omega
        rcases this with rfl | rfl
        · show (101 : UInt8).toNat < 128; decide
        · show (69 : UInt8).toNat < 128; decide
      have hnx := fun ty => run_next_ascii (P := P) w eE i ty hi (by rw [hx]; exact hx128)
      rw [hx] at hnx
      have hne : ((x.toNat : Int) == 65533) = false := beq_eq_false_iff_ne.2 (by omega)
      clear hx
      go_wp2
      go_roundg g
      case measure => omega
      case rel => exact ⟨i + 1, by omega, rfl⟩
set_option maxHeartbeats 8000000 in
set_option maxRecDepth 1000000 in
theorem IR_hi (L : Lays.n152 P ρ) (r : Int) (w : World) (h0 : 128 ≤ r) (h1 : r ≠ 65533) :
    Calls P (ρ.f 152) #[.string eE, .int .i32 r] w fun e w' => e = .returned (.int .i64 (-1)) ∧ Below w.heap.size w w' := by
  have mixed := L.mixed
  have t3 := L.t3; have a3 := L.a3; have z3 := L.z3; have v3 := L.v3
  have t4 := L.t4; have a4 := L.a4; have z4 := L.z4; have v4 := L.v4
  have t5 := L.t5; have a5 := L.a5; have z5 := L.z5; have v5 := L.v5
  have t9 := L.t9; have a9 := L.a9; have z9 := L.z9; have v9 := L.v9
  have t21 := L.t21; have a21 := L.a21; have z21 := L.z21; have v21 := L.v21
  have e119 : ∀ args w, (callFunc (ρ.f 119) args).run P w = .ok (.enter (ρ.f 119) args) w := enters_of L.f119 (by kernel_rfl) rfl
  have e137 : ∀ args w, (callFunc (ρ.f 137) args).run P w = .ok (.enter (ρ.f 137) args) w := enters_of L.f137 (by kernel_rfl) rfl
  have hsz : eE.size = 2 := rfl
  have d0 : decide ((0 : Int) ≤ r) = true := decide_eq_true (by omega)
  have d1 : decide (r < 128) = false := decide_eq_false (by omega)
  have hne : (r == 65533) = false := beq_eq_false_iff_ne.2 h1
  have hcv : ∀ w, (convert (ρ.t 21) (ρ.t 9) (.int .i32 r)).run P w = .ok (.string (Utf8.encode r)) w := fun w => run_convert_int_string w _ _ .i32 r (by rw [L.t21]; rfl) L.t9
  have hfacts : Lib.validRune r = true → 2 ≤ (Utf8.encode r).size ∧ (Utf8.encode r).size ≤ 4 ∧ ∀ h : (Utf8.encode r).size - 1 < (Utf8.encode r).size, 128 ≤ ((Utf8.encode r)[(Utf8.encode r).size - 1]'h).toNat := fun h => by
    have h2 : Utf8.valid r = true := by
      simp only [Lib.validRune, decide_eq_true_eq] at h
      simp only [Utf8.valid, Bool.or_eq_true, Bool.and_eq_true, decide_eq_true_eq]
      omega
    exact encode_facts r h2 h0
  go_enter L.f152, Body.n152_ntmps ρ
  cases hv : Lib.validRune r
  · go_wp2_with (go_at_fn (ρ.f 119); refine (Any.utf8_ValidRune { L with } _ _).mono ?_; rintro e w' ⟨rfl, hw⟩; rw [hw, hv])
    go_ret
    exact ⟨rfl, Below.refl _ _⟩
  · go_wp2_with (go_at_fn (ρ.f 119); refine (Any.utf8_ValidRune { L with } _ _).mono ?_; rintro e w' ⟨rfl, hw⟩; rw [hw, hv])
    apply wp_scope_straight
    obtain ⟨y2, y4, yb⟩ := hfacts hv
    clear hfacts
    by_cases h3 : (Utf8.encode r).size = 2
    · have hw : wrap64 (((Utf8.encode r).size : Int) - 1) = 1 := by rw [h3]; unfold wrap64; omega
      obtain ⟨y, hy⟩ : ∃ y : UInt8, (Utf8.encode r)[1]'(by omega) = y := ⟨_, rfl⟩
      have hyb : 128 ≤ y.toNat := by
        have := yb (by omega)
        simp only [h3] at this
        rw [← hy]; exact this
      have he1 : eE[1]'(by decide) = 69 := rfl
      have hne2 : ((69 : UInt8) == y) = false := beq_eq_false_iff_ne.2 (fun e => by rw [← e] at hyb; revert hyb; decide)
      clear yb hcv
      go_wp2
      go_loopg [9] 1 (fun g s9 wx => g = 1 ∧ s9 = .int .i64 1 ∧ wx = w)
      case atStart => exact ⟨rfl, rfl, rfl⟩
      case round =>
        obtain ⟨rfl, rfl, rfl⟩ := hrel
        have hlt : decide ((1 : Int) < (eE.size : Int)) = true := decide_eq_true (by rw [hsz]; omega)
        have hi1 : 1 < eE.size := by rw [hsz]; omega
        have hi2 : 1 < (Utf8.encode r).size := by omega
        have hw2 : IntKind.i64.wrap 2 = 2 := by decide
        have hb2 : (2 : Int) ≤ (eE.size : Int) := by rw [hsz]; omega
        have hsl : ∀ w, (Instr.slice (ρ.t 9) (.string eE) (some (.int .i64 2)) none none).run P w = .ok (.string ⟨#[]⟩) w := fun w => by
          rw [run_slice_string_from_if w _ _ _ _ L.t9, if_pos ⟨by decide, hb2⟩]; rfl
        go_wp2
        apply wp_scope_straight
        go_wp2_with fail
        go_quiet_o (fail)
        go_wp2_with fail
        go_quiet_o (first | (refine (Any.strings_IndexByte { L with } _ _ _).mono ?_; rintro e w'' ⟨rfl, rfl⟩; exact ⟨rfl, _, rfl⟩))
        have hib : Lib.indexByte ([] : List UInt8) y = -1 := rfl
        go_wp2_with fail
        simp (config := {zetaDelta := true}) only [Exit.noGoto_ret, Exit.inBlock, Exit.then]
        go_ret
        exact ⟨rfl, ⟨rfl, rfl, rfl, Nat.le_refl _, fun _ _ => rfl⟩⟩
    · have hw : wrap64 (((Utf8.encode r).size : Int) - 1) = ((Utf8.encode r).size : Int) - 1 := by unfold wrap64; omega
      go_wp2
      go_loopg [9] 1 (fun g s9 wx => g = 1 ∧ s9 = .int .i64 (((Utf8.encode r).size : Int) - 1) ∧ wx = w)
      case atStart => exact ⟨rfl, rfl, rfl⟩
      case round =>
        obtain ⟨rfl, rfl, rfl⟩ := hrel
        have hlt : decide (((Utf8.encode r).size : Int) - 1 < (eE.size : Int)) = false := decide_eq_false (by rw [hsz]; omega)
        go_wp2
        simp (config := {zetaDelta := true}) only [Exit.noGoto_ret, Exit.inBlock, Exit.then]
        go_ret
        exact ⟨rfl, Below.refl _ _⟩
end Go.Proofs
namespace Go.Proofs
open Go.Shelf Go.RowKit Go.Lib
variable {P : Program} {ρ : Ren}
theorem get!_at (s : ByteArray) (i : Nat) (h : i < s.size) : s.get! i = s[i]'h := by
  cases s with
  | mk d =>
    show d[i]! = d[i]
    exact getElem!_pos d i h
set_option maxRecDepth 100000 in
set_option maxHeartbeats 2000000 in
theorem decodeN_hi (n b0 b1 b2 b3 : Nat) (hn : 1 ≤ n) (h0 : 128 ≤ b0) : 128 ≤ (decodeN n b0 b1 b2 b3).1 ∧ 1 ≤ (decodeN n b0 b1 b2 b3).2 ∧ (decodeN n b0 b1 b2 b3).2 ≤ n ∧ (decodeN n b0 b1 b2 b3).2 ≤ 4 ∧
    (1 < (decodeN n b0 b1 b2 b3).2 → 128 ≤ b1) ∧ (2 < (decodeN n b0 b1 b2 b3).2 → 128 ≤ b2) ∧ (3 < (decodeN n b0 b1 b2 b3).2 → 128 ≤ b3) := by
  unfold decodeN
  repeat' split
  all_goals (try simp only)
  all_goals omega
theorem dec_hi (s : ByteArray) (i : Nat) (h : i < s.size) (h0 : 128 ≤ (s[i]'h).toNat) : 128 ≤ (Utf8.decode s i).1 ∧ 1 ≤ (Utf8.decode s i).2 ∧ i + (Utf8.decode s i).2 ≤ s.size ∧
    ∀ j (hj : j < s.size), i ≤ j → j < i + (Utf8.decode s i).2 → 128 ≤ (s[j]'hj).toNat := by
  have e := decode_at s i
  rw [← get!_at s i h] at h0
  obtain ⟨a1, a2, a3, a4, a5, a6, a7⟩ := decodeN_hi (s.size - i) (s.get! i).toNat (s.get! (i + 1)).toNat (s.get! (i + 2)).toNat (s.get! (i + 3)).toNat (by omega) h0
  rw [← e] at a1 a2 a3 a4 a5 a6 a7
  refine ⟨a1, a2, by omega, fun j hj h1 h2 => ?_⟩
  rw [← get!_at s j hj]
  have : j = i ∨ j = i + 1 ∨ j = i + 2 ∨ j = i + 3 := by omega
  rcases this with rfl | rfl | rfl | rfl
  · exact h0
  · exact a5 (by omega)
  · exact a6 (by omega)
  · exact a7 (by omega)
theorem eE_list : eE.data.toList = [101, 69] := rfl
theorem noany_hi {s : ByteArray} {i k : Nat} (h : NoAny s.data.toList eE.data.toList i) (hi : ∀ j (hj : j < s.size), i ≤ j → j < i + k → 128 ≤ (s[j]'hj).toNat) : NoAny s.data.toList eE.data.toList (i + k) := fun j b hj hb => by
  rcases Nat.lt_or_ge j i with h1 | h1
  · exact h j b h1 hb
  · have hlt : j < s.size := by have := (List.getElem?_eq_some_iff.1 hb).1; rwa [← Lib.size_eq] at this
    have h2 := hi j hlt h1 hj
    rw [Lib.data_getElem? s j hlt, Option.some.injEq] at hb
    rw [hb] at h2
    rw [eE_list]
    cases h3 : ([101, 69] : List UInt8).contains b with
    | false => rfl
    | true =>
      rw [List.contains_iff_mem] at h3
      simp at h3
      rcases h3 with rfl | rfl
      · revert h2; decide
      · revert h2; decide
theorem Below_iterAt {w W : World} {s : ByteArray} {p q : Nat} (hb : Below w.heap.size w W) (hk : W.heap[w.heap.size]? = some (.stringIter s p)) : Below w.heap.size w (W.iterAt w.heap.size s q) := by
  refine ⟨hb.os, hb.tape, hb.output, ?_, fun k hk => ?_⟩
  · show w.heap.size ≤ (W.heap.setIfInBounds _ _).size
    rw [Array.size_setIfInBounds]; exact hb.size
  · show (W.heap.setIfInBounds _ _)[k]? = _
    rw [Array.getElem?_setIfInBounds, if_neg (by omega)]
    exact hb.block k hk
set_option maxHeartbeats 8000000 in
set_option maxRecDepth 1000000 in
theorem IA_short (L : Lays.n153 P ρ) (s : ByteArray) (w : World) (h8 : s.size ≤ 8) :
    Calls P (ρ.f 153) #[.string s, .string eE] w fun e w' => e = .returned (.int .i64 (Lib.indexAny s.data.toList eE.data.toList)) ∧ Below w.heap.size w w' := by
  have hemp : eE.toList.isEmpty = false := by
    rw [Lib.toList_data]; rfl
  have hsz : eE.size = 2 := rfl
  have hn1 : ((eE.size : Int) == 1) = false := beq_eq_false_iff_ne.2 (by rw [hsz]; omega)
  have h8z : decide ((8 : Int) < (s.size : Int)) = false := decide_eq_false (by omega)
  have t3 := L.t3; have a3 := L.a3; have z3 := L.z3; have v3 := L.v3
  have t4 := L.t4; have a4 := L.a4; have z4 := L.z4; have v4 := L.v4
  have t5 := L.t5; have a5 := L.a5; have z5 := L.z5; have v5 := L.v5
  have t9 := L.t9; have a9 := L.a9; have z9 := L.z9; have v9 := L.v9
  have t21 := L.t21; have a21 := L.a21; have z21 := L.z21; have v21 := L.v21
  have e152 : ∀ args w, (callFunc (ρ.f 152) args).run P w = .ok (.enter (ρ.f 152) args) w := enters_of L.f152 (by kernel_rfl) rfl
  have e226 : ∀ args w, (callFunc (ρ.f 226) args).run P w = .ok (.enter (ρ.f 226) args) w := enters_of L.f226 (by kernel_rfl) rfl
  go_enter L.f153, Body.n153_ntmps ρ
  go_wp2_with (go_at_fn (ρ.f 226); refine (Any.strings_shouldUseASCIISet { L with } _ _).mono ?_; rintro e w' ⟨rfl, hw⟩; rw [hw, h8z])
  go_loopg [9, 10] s.size (fun g _ _ wx => ∃ i : Nat, i + g = s.size ∧ wx.heap[w.heap.size]? = some (.stringIter s i) ∧ Below w.heap.size w wx ∧ Lib.NoAny s.data.toList eE.data.toList i)
  case atStart => exact ⟨0, by omega, World.iter_heap _ _ _, (Below.refl _ _).alloc (Nat.le_refl _) _, Lib.NoAny.zero _ _⟩
  case round =>
    obtain ⟨i, hig, hit, hbel, hno⟩ := hrel
    have HN : Aside (NoAny s.data.toList eE.data.toList i) := hno
    have HB : Aside (Below w.heap.size w wr) := hbel
    have hsw : w.heap.size < wr.heap.size := (Array.getElem?_eq_some_iff.1 hit).1
    clear hno hbel
    cases gk with
    | zero =>
      obtain rfl : i = s.size := by omega
      have hnx := fun ty => run_next_end_at (P := P) wr w.heap.size s s.size ty hit (Nat.lt_irrefl _)
      go_wp2
      go_ret
      exact ⟨by rw [Lib.indexAny_none (by rw [← Lib.size_eq]; exact HN.out)]; rfl, HB.out⟩
    | succ g =>
      have hi : i < s.size := by omega
      by_cases hx128 : (s[i]'hi).toNat < 128
      · have HB2 : Aside (Below w.heap.size w (wr.iterAt w.heap.size s (i + 1))) := Below_iterAt HB.out hit
        have HI2 := iterAt_heap wr w.heap.size s i (i + 1) hit
        have hnx := fun ty => run_next_ascii_at (P := P) wr w.heap.size s i ty hit hi hx128
        obtain ⟨x, hx⟩ : ∃ x : UInt8, s[i]'hi = x := ⟨_, rfl⟩
        have hxl : s.data.toList[i]? = some x := by rw [← hx]; exact Lib.data_getElem? s i hi
        rw [hx] at hnx hx128
        have Hx : Aside (s.data.toList[i]? = some x) := hxl
        clear hxl hx
        have hcon := Lib.contains_iff_indexByte eE.data.toList x
        have hback : ((x.toNat : Int)).toNat.toUInt8 = x := by simp
        cases hin : eE.data.toList.contains x
        · rw [hin] at hcon
          have hlt : ¬ ((0 : Int) ≤ Lib.indexByte eE.data.toList x) := of_decide_eq_false hcon.symm
          clear hcon
          go_wp2_with (go_at_fn (ρ.f 152); refine (Any.strings_IndexRune_ascii { L with } _ _ _ (by omega) (by omega)).mono ?_; rintro e w' ⟨rfl, hw⟩; rw [hw, hback])
          go_roundg g
          case measure => omega
          case rel => exact ⟨i + 1, by omega, HI2, HB2.out, HN.out.succ Hx.out hin⟩
        · rw [hin] at hcon
          have hge : (0 : Int) ≤ Lib.indexByte eE.data.toList x := of_decide_eq_true hcon.symm
          clear hcon
          go_wp2_with (go_at_fn (ρ.f 152); refine (Any.strings_IndexRune_ascii { L with } _ _ _ (by omega) (by omega)).mono ?_; rintro e w' ⟨rfl, hw⟩; rw [hw, hback])
          go_ret
          exact ⟨by rw [Lib.indexAny_hit HN.out Hx.out hin]; rfl, HB2.out⟩
      · obtain ⟨c1, c2, c3, c4⟩ := dec_hi s i hi (by omega)
        have hnx := fun ty => run_next_any_at (P := P) wr w.heap.size s i ty hit hi
        have hno2 := noany_hi HN.out c4
        clear c4
        generalize (Utf8.decode s i).2 = k at *
        generalize (Utf8.decode s i).1 = c at *
        have HN2 : Aside (NoAny s.data.toList eE.data.toList (i + k)) := hno2
        clear hno2
        have HB2 : Aside (Below w.heap.size w (wr.iterAt w.heap.size s (i + k))) := Below_iterAt HB.out hit
        have HI2 := iterAt_heap wr w.heap.size s i (i + k) hit
        have hsw2 : w.heap.size < (wr.iterAt w.heap.size s (i + k)).heap.size := (Array.getElem?_eq_some_iff.1 HI2).1
        generalize wr.iterAt w.heap.size s (i + k) = W2 at *
        have hm1 : ¬ ((0 : Int) ≤ -1) := by omega
        by_cases hc : c = 65533
        · subst hc
          go_wp2_with (go_at_fn (ρ.f 152); refine (IR_err { L with } _).mono ?_; rintro e w' ⟨rfl, hw⟩)
          go_roundg (g + 1 - k)
          case measure => omega
          case rel => exact ⟨i + k, by omega, (hw.block _ hsw2).trans HI2, HB2.out.trans ⟨hw.os, hw.tape, hw.output, hw.size, fun j hj => hw.block j (by omega)⟩, HN2.out⟩
        · have hcz : (c : Int) ≠ 65533 := by omega
          go_wp2_with (go_at_fn (ρ.f 152); refine (IR_hi { L with } _ _ (by omega) hcz).mono ?_; rintro e w' ⟨rfl, hw⟩)
          go_roundg (g + 1 - k)
          case measure => omega
          case rel => exact ⟨i + k, by omega, (hw.block _ hsw2).trans HI2, HB2.out.trans ⟨hw.os, hw.tape, hw.output, hw.size, fun j hj => hw.block j (by omega)⟩, HN2.out⟩
end Go.Proofs
namespace Go.Proofs.YteiagmmfapbaiaaGreatDoor
open Go Go.Dat Go.Proofs Nat32 Go.RowKit
open Go.Lib (decDigits)
theorem indexAnyAll (l : List UInt8) (hl : l.length ≤ 100000) : PCalls Tryz.prog 109 [.str l, .str [101, 69]] (.int .i64 (idx isE l)) := by
  have hz : (⟨l.toArray⟩ : ByteArray).size = l.length := by simp [ByteArray.size]
  by_cases h8 : 8 < l.length
  · exact indexAnyD l (.inr h8) hl
  · exact PCalls_str2 (fun _ _ => .int _ _) fun w => (IA_short Tryz.lays153 ⟨l.toArray⟩ w (by omega)).mono fun e w' h => ⟨by rw [h.1, eE_list]; show _ = Ending.returned (.int .i64 (idx isE l)); rw [← indexAny_idx], h.2⟩
set_option maxHeartbeats 2000000 in
theorem q_unsigned_all (s : List UInt8) (hs : s.length ≤ 900) : PCalls Tryz.prog 61 [.str s] (unsR s) := by
  have cs := strCut_calls s 47 (by omega)
  rw [isC47] at cs
  unfold cutR at cs
  have hi := fi_le is47 s
  have hj := fi_le isE s
  refine PCalls_of isq_unsigned (by simp [fnq_unsigned]) ?_
  unfold unsR
  by_cases h1 : fi is47 s < s.length
  · rw [if_pos h1] at cs ⊢
    generalize s.take (fi is47 s) = A at *
    generalize s.drop (fi is47 s + 1) = B at *
    have c1 := nParse_pn A
    have c2 := nParse_pn B
    unfold codeq_unsigned
    cases hA : okD A
    · rw [hA] at c1
      simp only [Bool.false_and]
      repeat (first | refine W_seq ?_ | refine W_reg ?_ | refine W_regd ?_ | refine W_block ?_ | refine And.intro (by omega) ?_ | simp (maxSteps := 1000000) (disch := omega) only [cA, cB, cC, frz_us, binE, unE, boundE, newsE, blkQ, Nat.reduceEqDiff, Nat.reduceLT, Nat.reduceAdd, ↓reduceIte, reduceCtorEq, Nat.reduceLeDiff] | refine callC_pure (cs) rfl ?_ | exact W_ret (RetP_1 (.imm rfl)) | exact W_ret (RetP_c rfl rfl rfl (.imm rfl)))
      refine W_cond rfl (fun _ => ?_) (fun h => by cases h)
      repeat (first | refine W_seq ?_ | refine W_reg ?_ | refine W_regd ?_ | refine W_block ?_ | refine And.intro (by omega) ?_ | simp (maxSteps := 1000000) (disch := omega) only [cA, cB, cC, frz_us, binE, unE, boundE, newsE, blkQ, Nat.reduceEqDiff, Nat.reduceLT, Nat.reduceAdd, ↓reduceIte, reduceCtorEq, Nat.reduceLeDiff] | refine callC_pure (c1) rfl ?_ | refine callC_pure (c2) rfl ?_ | exact W_ret (RetP_1 (.imm rfl)) | exact W_ret (RetP_c rfl rfl rfl (.imm rfl)))
      exact W_ret (RetP_3 (.imm rfl) (.imm rfl) (.imm rfl))
    · rw [hA] at c1
      cases hB : okD B
      · rw [hB] at c2
        simp only [Bool.false_and, Bool.true_and]
        repeat (first | refine W_seq ?_ | refine W_reg ?_ | refine W_regd ?_ | refine W_block ?_ | refine And.intro (by omega) ?_ | simp (maxSteps := 1000000) (disch := omega) only [cA, cB, cC, frz_us, binE, unE, boundE, newsE, blkQ, Nat.reduceEqDiff, Nat.reduceLT, Nat.reduceAdd, ↓reduceIte, reduceCtorEq, Nat.reduceLeDiff] | refine callC_pure (cs) rfl ?_ | exact W_ret (RetP_1 (.imm rfl)) | exact W_ret (RetP_c rfl rfl rfl (.imm rfl)))
        refine W_cond rfl (fun _ => ?_) (fun h => by cases h)
        repeat (first | refine W_seq ?_ | refine W_reg ?_ | refine W_regd ?_ | refine W_block ?_ | refine And.intro (by omega) ?_ | simp (maxSteps := 1000000) (disch := omega) only [cA, cB, cC, frz_us, binE, unE, boundE, newsE, blkQ, Nat.reduceEqDiff, Nat.reduceLT, Nat.reduceAdd, ↓reduceIte, reduceCtorEq, Nat.reduceLeDiff] | refine callC_pure (c1) rfl ?_ | refine callC_pure (c2) rfl ?_ | exact W_ret (RetP_1 (.imm rfl)) | exact W_ret (RetP_c rfl rfl rfl (.imm rfl)))
        exact W_ret (RetP_3 (.imm rfl) (.imm rfl) (.imm rfl))
      · rw [hB] at c2
        simp only [Bool.true_and]
        repeat (first | refine W_seq ?_ | refine W_reg ?_ | refine W_regd ?_ | refine W_block ?_ | refine And.intro (by omega) ?_ | simp (maxSteps := 1000000) (disch := omega) only [cA, cB, cC, frz_us, binE, unE, boundE, newsE, blkQ, Nat.reduceEqDiff, Nat.reduceLT, Nat.reduceAdd, ↓reduceIte, reduceCtorEq, Nat.reduceLeDiff] | refine callC_pure (cs) rfl ?_ | exact W_ret (RetP_1 (.imm rfl)) | exact W_ret (RetP_c rfl rfl rfl (.imm rfl)))
        refine W_cond rfl (fun _ => ?_) (fun h => by cases h)
        repeat (first | refine W_seq ?_ | refine W_reg ?_ | refine W_regd ?_ | refine W_block ?_ | refine And.intro (by omega) ?_ | simp (maxSteps := 1000000) (disch := omega) only [cA, cB, cC, frz_us, binE, unE, boundE, newsE, blkQ, Nat.reduceEqDiff, Nat.reduceLT, Nat.reduceAdd, ↓reduceIte, reduceCtorEq, Nat.reduceLeDiff, us_length, len_gt] | refine callC_pure (c1) rfl ?_ | refine callC_pure (c2) rfl ?_ | exact W_ret (RetP_1 (.imm rfl)) | exact W_ret (RetP_c rfl rfl rfl (.imm rfl)))
        exact W_ret (RetP_3 (.imm rfl) (.imm rfl) (.imm rfl))
  · rw [if_neg h1] at cs ⊢
    have ci := indexAnyAll s (by omega)
    have hge := idx_ge isE s
    unfold unsP
    rw [if_neg h1]
    have htail := tail_W
    unfold tailU at htail
    unfold codeq_unsigned at htail ⊢
    dsimp only at htail
    by_cases h2 : fi isE s < s.length
    · rw [decide_eq_true h2] at hge
      rw [if_pos h2]
      rw [idx_of h2] at ci hge
      have c3 := q_exponent_calls (s.drop (fi isE s + 1)) (by rw [List.length_drop]; omega)
      have e1 : ((fi isE s : Int) + 1).toNat = fi isE s + 1 := by omega
      have e2 : (s.take s.length).drop (fi isE s + 1) = s.drop (fi isE s + 1) := by rw [List.take_length]
      have e3 : (s.take (fi isE s)).drop 0 = s.take (fi isE s) := rfl
      have ht := htail (s.take (fi isE s)) (expV (s.drop (fi isE s + 1))) true (by rw [List.length_take]; omega)
      unfold expR at c3
      have hex := @expOk_le (s.drop (fi isE s + 1))
      clear htail
      generalize expV (s.drop (fi isE s + 1)) = V at *
      cases h3 : expOk (s.drop (fi isE s + 1))
      · rw [h3, if_neg (by decide)] at c3
        rw [if_neg (by decide)]
        clear ht hex
        repeat (first | refine W_seq ?_ | refine W_reg ?_ | refine W_regd ?_ | refine W_block ?_ | refine And.intro (by omega) ?_ | simp (maxSteps := 1000000) (disch := omega) only [cA, cB, cC, frz_us, binE, unE, boundE, newsE, blkQ, Nat.reduceEqDiff, Nat.reduceLT, Nat.reduceAdd, ↓reduceIte, reduceCtorEq, Nat.reduceLeDiff] | refine callC_pure (cs) rfl ?_ | exact W_ret (RetP_1 (.imm rfl)) | exact W_ret (RetP_c rfl rfl rfl (.imm rfl)))
        refine W_cond rfl (fun h => by cases h) (fun _ => W_skip ?_)
        repeat (first | refine W_seq ?_ | refine W_reg ?_ | refine W_regd ?_ | refine W_block ?_ | refine And.intro (by omega) ?_ | simp (maxSteps := 1000000) (disch := omega) only [cA, cB, cC, frz_us, binE, unE, boundE, newsE, blkQ, Nat.reduceEqDiff, Nat.reduceLT, Nat.reduceAdd, ↓reduceIte, reduceCtorEq, Nat.reduceLeDiff, hge] | refine callC_pure (ci) rfl ?_ | exact W_ret (RetP_1 (.imm rfl)) | exact W_ret (RetP_c rfl rfl rfl (.imm rfl)))
        refine W_cond rfl (fun _ => ?_) (fun h => by cases h)
        repeat (first | refine W_seq ?_ | refine W_reg ?_ | refine W_regd ?_ | refine W_block ?_ | refine And.intro (by omega) ?_ | simp (maxSteps := 1000000) (disch := omega) only [cA, cB, cC, frz_us, binE, unE, boundE, newsE, blkQ, Nat.reduceEqDiff, Nat.reduceLT, Nat.reduceAdd, ↓reduceIte, reduceCtorEq, Nat.reduceLeDiff, e1, e2, List.take_length] | refine callC_pure (c3) rfl ?_ | exact W_ret (RetP_1 (.imm rfl)) | exact W_ret (RetP_c rfl rfl rfl (.imm rfl)))
        refine W_cond rfl (fun _ => ?_) (fun h => by cases h)
        repeat (first | refine W_seq ?_ | refine W_reg ?_ | refine W_regd ?_ | refine W_block ?_ | refine And.intro (by omega) ?_ | simp (maxSteps := 1000000) (disch := omega) only [cA, cB, cC, frz_us, binE, unE, boundE, newsE, blkQ, Nat.reduceEqDiff, Nat.reduceLT, Nat.reduceAdd, ↓reduceIte, reduceCtorEq, Nat.reduceLeDiff])
        exact W_ret (RetP_3 (.nils _) (.nils _) (.imm rfl))
      · rw [h3, if_pos rfl] at c3
        rw [if_pos rfl]
        have ht := ht (hex h3)
        clear hex
        repeat (first | refine W_seq ?_ | refine W_reg ?_ | refine W_regd ?_ | refine W_block ?_ | refine And.intro (by omega) ?_ | simp (maxSteps := 1000000) (disch := omega) only [cA, cB, cC, frz_us, binE, unE, boundE, newsE, blkQ, Nat.reduceEqDiff, Nat.reduceLT, Nat.reduceAdd, ↓reduceIte, reduceCtorEq, Nat.reduceLeDiff] | refine callC_pure (cs) rfl ?_ | exact W_ret (RetP_1 (.imm rfl)) | exact W_ret (RetP_c rfl rfl rfl (.imm rfl)))
        refine W_cond rfl (fun h => by cases h) (fun _ => W_skip ?_)
        repeat (first | refine W_seq ?_ | refine W_reg ?_ | refine W_regd ?_ | refine W_block ?_ | refine And.intro (by omega) ?_ | simp (maxSteps := 1000000) (disch := omega) only [cA, cB, cC, frz_us, binE, unE, boundE, newsE, blkQ, Nat.reduceEqDiff, Nat.reduceLT, Nat.reduceAdd, ↓reduceIte, reduceCtorEq, Nat.reduceLeDiff, hge] | refine callC_pure (ci) rfl ?_ | exact W_ret (RetP_1 (.imm rfl)) | exact W_ret (RetP_c rfl rfl rfl (.imm rfl)))
        refine W_cond rfl (fun _ => ?_) (fun h => by cases h)
        repeat (first | refine W_seq ?_ | refine W_reg ?_ | refine W_regd ?_ | refine W_block ?_ | refine And.intro (by omega) ?_ | simp (maxSteps := 1000000) (disch := omega) only [cA, cB, cC, frz_us, binE, unE, boundE, newsE, blkQ, Nat.reduceEqDiff, Nat.reduceLT, Nat.reduceAdd, ↓reduceIte, reduceCtorEq, Nat.reduceLeDiff, e1, e2, List.take_length] | refine callC_pure (c3) rfl ?_ | exact W_ret (RetP_1 (.imm rfl)) | exact W_ret (RetP_c rfl rfl rfl (.imm rfl)))
        refine W_cond rfl (fun h => by cases h) (fun _ => W_skip ?_)
        refine W_reg ?_
        simp (maxSteps := 1000000) (disch := omega) only [cA, cB, cC, frz_us, binE, unE, boundE, newsE, blkQ, Nat.reduceEqDiff, Nat.reduceLT, Nat.reduceAdd, ↓reduceIte, reduceCtorEq, Nat.reduceLeDiff, e3]
        repeat refine And.intro (by omega) ?_
        refine W_sub ?_ ht
        simp [subF, lk]
    · rw [decide_eq_false h2] at hge
      rw [if_neg h2]
      have ht := htail s 0 false hs (by decide)
      clear htail
      repeat (first | refine W_seq ?_ | refine W_reg ?_ | refine W_regd ?_ | refine W_block ?_ | refine And.intro (by omega) ?_ | simp (maxSteps := 1000000) (disch := omega) only [cA, cB, cC, frz_us, binE, unE, boundE, newsE, blkQ, Nat.reduceEqDiff, Nat.reduceLT, Nat.reduceAdd, ↓reduceIte, reduceCtorEq, Nat.reduceLeDiff] | refine callC_pure (cs) rfl ?_ | exact W_ret (RetP_1 (.imm rfl)) | exact W_ret (RetP_c rfl rfl rfl (.imm rfl)))
      refine W_cond rfl (fun h => by cases h) (fun _ => W_skip ?_)
      repeat (first | refine W_seq ?_ | refine W_reg ?_ | refine W_regd ?_ | refine W_block ?_ | refine And.intro (by omega) ?_ | simp (maxSteps := 1000000) (disch := omega) only [cA, cB, cC, frz_us, binE, unE, boundE, newsE, blkQ, Nat.reduceEqDiff, Nat.reduceLT, Nat.reduceAdd, ↓reduceIte, reduceCtorEq, Nat.reduceLeDiff, hge] | refine callC_pure (ci) rfl ?_ | exact W_ret (RetP_1 (.imm rfl)) | exact W_ret (RetP_c rfl rfl rfl (.imm rfl)))
      refine W_cond rfl (fun h => by cases h) (fun _ => W_skip ?_)
      refine W_sub ?_ ht
      simp [subF, lk]
theorem qParse_all (l : List UInt8) (hl : l.length ≤ 900) : PCalls Tryz.prog 18 [.str l] (resQ (parseQ l)) := by
  have c1 := cutPrefixD l
  have hel : (expD l).length ≤ 900 := by
    unfold expD; split
    · rw [List.length_tail]; omega
    · exact hl
  have c2 := q_unsigned_all (expD l) hel
  rw [parseQ_P]
  refine PCalls_of isqParse (by simp [fnqParse]) ?_
  unfold codeqParse
  cases h : unsP (expD l) with
  | none =>
    obtain ⟨x, y, e⟩ := unsR_none h
    rw [e] at c2
    rw [Option.map_none]
    unfold resQ
    dsimp only
    rw [Q0]
    repeat (first | refine W_seq ?_ | refine W_reg ?_ | refine W_regd ?_ | refine W_block ?_ | refine And.intro (by omega) ?_ | simp (maxSteps := 1000000) (disch := omega) only [cA, cB, cC, frz_us, binE, unE, boundE, newsE, blkQ, Nat.reduceEqDiff, Nat.reduceLT, Nat.reduceAdd, ↓reduceIte, reduceCtorEq, Nat.reduceLeDiff, cS, cT, nbqParse] | refine callC_pure (c1) rfl ?_ | refine callC_pure (c2) rfl ?_ | exact W_ret (RetP_1 (.imm rfl)) | exact W_ret (RetP_c rfl rfl rfl (.imm rfl)))
    refine W_cond rfl (fun _ => ?_) (fun h => by cases h)
    repeat (first | refine W_seq ?_ | refine W_reg ?_ | refine W_regd ?_ | refine W_block ?_ | refine And.intro (by omega) ?_ | simp (maxSteps := 1000000) (disch := omega) only [cA, cB, cC, frz_us, binE, unE, boundE, newsE, blkQ, Nat.reduceEqDiff, Nat.reduceLT, Nat.reduceAdd, ↓reduceIte, reduceCtorEq, Nat.reduceLeDiff, cS, cT, nbqParse])
    exact W_ret (RetP_ct rfl rfl rfl (Exp_bnn _ _ _) (.imm rfl))
  | some p =>
    obtain ⟨n, d⟩ := p
    rw [unsR_some h] at c2
    unfold pairR at c2
    dsimp only at c2
    have hd := unsP_pos h
    obtain ⟨b1, b2⟩ := unsP_len h hel
    rw [Option.map_some]
    unfold resQ
    dsimp only
    have cl := q_lowest_calls (sgn (decide (l.head? = some 45)) n) d (by omega) (by unfold il; rw [sgn_abs]; omega) (by omega)
    rw [I_sgn] at cl
    clear h b1 b2 hel
    by_cases hn : l.head? = some 45
    · rw [decide_eq_true hn] at c1 cl ⊢
      rw [Bool.true_and] at cl
      repeat (first | refine W_seq ?_ | refine W_reg ?_ | refine W_regd ?_ | refine W_block ?_ | refine And.intro (by omega) ?_ | simp (maxSteps := 1000000) (disch := omega) only [cA, cB, cC, frz_us, binE, unE, boundE, newsE, blkQ, Nat.reduceEqDiff, Nat.reduceLT, Nat.reduceAdd, ↓reduceIte, reduceCtorEq, Nat.reduceLeDiff, cS, cT, nbqParse] | refine callC_pure (c1) rfl ?_ | refine callC_pure (c2) rfl ?_ | exact W_ret (RetP_1 (.imm rfl)) | exact W_ret (RetP_c rfl rfl rfl (.imm rfl)))
      refine W_cond rfl (fun h => by cases h) (fun _ => W_skip ?_)
      repeat (first | refine W_seq ?_ | refine W_reg ?_ | refine W_regd ?_ | refine W_block ?_ | refine And.intro (by omega) ?_ | simp (maxSteps := 1000000) (disch := omega) only [cA, cB, cC, frz_us, binE, unE, boundE, newsE, blkQ, Nat.reduceEqDiff, Nat.reduceLT, Nat.reduceAdd, ↓reduceIte, reduceCtorEq, Nat.reduceLeDiff, Q, cS, cT, nbqParse, us_length, len_gt] | refine callC_pure (cl) rfl ?_ | exact W_ret (RetP_1 (.imm rfl)) | exact W_ret (RetP_c rfl rfl rfl (.imm rfl)))
      exact W_ret (RetP_ct rfl rfl rfl (.imm rfl) (.imm rfl))
    · rw [decide_eq_false hn] at c1 cl ⊢
      rw [Bool.false_and] at cl
      repeat (first | refine W_seq ?_ | refine W_reg ?_ | refine W_regd ?_ | refine W_block ?_ | refine And.intro (by omega) ?_ | simp (maxSteps := 1000000) (disch := omega) only [cA, cB, cC, frz_us, binE, unE, boundE, newsE, blkQ, Nat.reduceEqDiff, Nat.reduceLT, Nat.reduceAdd, ↓reduceIte, reduceCtorEq, Nat.reduceLeDiff, cS, cT, nbqParse] | refine callC_pure (c1) rfl ?_ | refine callC_pure (c2) rfl ?_ | exact W_ret (RetP_1 (.imm rfl)) | exact W_ret (RetP_c rfl rfl rfl (.imm rfl)))
      refine W_cond rfl (fun h => by cases h) (fun _ => W_skip ?_)
      repeat (first | refine W_seq ?_ | refine W_reg ?_ | refine W_regd ?_ | refine W_block ?_ | refine And.intro (by omega) ?_ | simp (maxSteps := 1000000) (disch := omega) only [cA, cB, cC, frz_us, binE, unE, boundE, newsE, blkQ, Nat.reduceEqDiff, Nat.reduceLT, Nat.reduceAdd, ↓reduceIte, reduceCtorEq, Nat.reduceLeDiff, Q, cS, cT, nbqParse, us_length, len_gt] | refine callC_pure (cl) rfl ?_ | exact W_ret (RetP_1 (.imm rfl)) | exact W_ret (RetP_c rfl rfl rfl (.imm rfl)))
      exact W_ret (RetP_ct rfl rfl rfl (.imm rfl) (.imm rfl))
end Go.Proofs.YteiagmmfapbaiaaGreatDoor
namespace Go.Proofs.YteiagmmfapbaiaaGreatDoor
open Go Go.Dat Go.Proofs Nat32 Go.RowKit
open Go.Lib (decDigits repeatL)
theorem parseQ_RB {l : List UInt8} (hl : l.length ≤ 200) {x : Rat} (h : parseQ l = some x) : RB x 900 := by
  unfold parseQ at h
  by_cases h45 : l.head? = some 45
  · rw [decide_eq_true h45, if_pos h45] at h
    unfold negQ at h
    rw [if_pos rfl, Option.map_eq_some_iff] at h
    obtain ⟨y, hy, rfl⟩ := h
    exact RB_neg (unsQ_RB (by rw [List.length_tail]; omega) hy)
  · rw [decide_eq_false h45, if_neg h45] at h
    exact unsQ_RB hl h
set_option maxHeartbeats 2000000 in
theorem lqWrites_calls (neg : Bool) (a d : List Nat) (s : List UInt8) (k : Int) (la : lim a) (ld : lim d) : PCalls Tryz.prog 4 [XQ neg a d, .str s, .int .i64 k] (.bool true) := by
  have aw := lq_awake_calls
  have g1 := mdLight_calls neg a d
  refine PCalls_of islqRationalWrites (by simp [fnlqRationalWrites]) ?_
  unfold codelqRationalWrites
  cases h1 : lightB a d
  · rw [h1] at g1
    repeat (first | refine W_seq ?_ | refine W_reg ?_ | refine W_regd ?_ | refine W_block ?_ | refine And.intro (by omega) ?_ | simp (maxSteps := 1000000) (disch := omega) only [cA, cB, cC, frz_us, binE, unE, boundE, newsE, blkQ, Nat.reduceEqDiff, Nat.reduceLT, Nat.reduceAdd, ↓reduceIte, reduceCtorEq, Nat.reduceLeDiff, XQ, cS, nblqRationalWrites] | refine callC_pure (g1) rfl ?_ | exact W_ret (RetP_1 (.imm rfl)) | exact W_ret (RetP_c rfl rfl rfl (.imm rfl)))
    refine W_cond rfl (fun _ => ?_) (fun h => by cases h)
    repeat (first | refine W_seq ?_ | refine W_reg ?_ | refine W_regd ?_ | refine W_block ?_ | refine And.intro (by omega) ?_ | simp (maxSteps := 1000000) (disch := omega) only [cA, cB, cC, frz_us, binE, unE, boundE, newsE, blkQ, Nat.reduceEqDiff, Nat.reduceLT, Nat.reduceAdd, ↓reduceIte, reduceCtorEq, Nat.reduceLeDiff, cS] | refine callC_pure (aw) rfl ?_ | exact W_ret (RetP_1 (.imm rfl)) | exact W_ret (RetP_c rfl rfl rfl (.imm rfl)))
  · rw [h1] at g1
    obtain ⟨k1, k2⟩ := lightB_spec h1
    by_cases hs : 100 < s.length
    · have ds : decide ((100 : Int) < (s.length : Int)) = true := decide_eq_true (by omega)
      repeat (first | refine W_seq ?_ | refine W_reg ?_ | refine W_regd ?_ | refine W_block ?_ | refine And.intro (by omega) ?_ | simp (maxSteps := 1000000) (disch := omega) only [cA, cB, cC, frz_us, binE, unE, boundE, newsE, blkQ, Nat.reduceEqDiff, Nat.reduceLT, Nat.reduceAdd, ↓reduceIte, reduceCtorEq, Nat.reduceLeDiff, XQ, cS, nblqRationalWrites, ds] | refine callC_pure (g1) rfl ?_ | exact W_ret (RetP_1 (.imm rfl)) | exact W_ret (RetP_c rfl rfl rfl (.imm rfl)))
      refine W_cond rfl (fun _ => ?_) (fun h => by cases h)
      repeat (first | refine W_seq ?_ | refine W_reg ?_ | refine W_regd ?_ | refine W_block ?_ | refine And.intro (by omega) ?_ | simp (maxSteps := 1000000) (disch := omega) only [cA, cB, cC, frz_us, binE, unE, boundE, newsE, blkQ, Nat.reduceEqDiff, Nat.reduceLT, Nat.reduceAdd, ↓reduceIte, reduceCtorEq, Nat.reduceLeDiff, cS] | refine callC_pure (aw) rfl ?_ | exact W_ret (RetP_1 (.imm rfl)) | exact W_ret (RetP_c rfl rfl rfl (.imm rfl)))
    · have ds : decide ((100 : Int) < (s.length : Int)) = false := decide_eq_false (by omega)
      have f1 := qFormat_calls neg a d (by omega) (by omega) la ld
      have f2 := pFormat_calls neg a d (by omega) (by omega) la ld
      have e1 := qDecimal_calls neg a d k (by omega) (by omega) la ld
      have e2 := pDecimal_calls neg a d k (by omega) (by omega) la ld
      have p1 := qParse_all s (by omega)
      have p2 := pParse_calls s (by omega)
      have hrb := @parseQ_RB s (by omega)
      generalize decR (rv neg a d) k = DD at *
      generalize fmtQ (rv neg a d) = FF at *
      cases hp : parseQ s with
      | none =>
        rw [hp] at p1 p2
        unfold resQ at p1 p2
        dsimp only at p1 p2
        have s1 := pSameT 0 (RB_int (z := 0) (m := 900) (by simp [limbs_zero]) (by decide))
        rw [Q0] at p1 p2 s1
        clear hrb
        repeat (first | refine W_seq ?_ | refine W_reg ?_ | refine W_regd ?_ | refine W_block ?_ | refine And.intro (by omega) ?_ | simp (maxSteps := 1000000) (disch := omega) only [cA, cB, cC, frz_us, binE, unE, boundE, newsE, blkQ, Nat.reduceEqDiff, Nat.reduceLT, Nat.reduceAdd, ↓reduceIte, reduceCtorEq, Nat.reduceLeDiff, XQ, cS, nblqRationalWrites, ds] | refine callC_pure (g1) rfl ?_ | exact W_ret (RetP_1 (.imm rfl)) | exact W_ret (RetP_c rfl rfl rfl (.imm rfl)))
        refine W_cond rfl (fun h => by cases h) (fun _ => W_skip ?_)
        repeat (first | refine W_seq ?_ | refine W_reg ?_ | refine W_regd ?_ | refine W_block ?_ | refine And.intro (by omega) ?_ | simp (maxSteps := 1000000) (disch := omega) only [cA, cB, cC, frz_us, binE, unE, boundE, newsE, blkQ, Nat.reduceEqDiff, Nat.reduceLT, Nat.reduceAdd, ↓reduceIte, reduceCtorEq, Nat.reduceLeDiff, XQ, cS, cT, nblqRationalWrites, decide_true, show (false == false) = true from rfl, show (true == true) = true from rfl] | refine callC_pure (p1) rfl ?_ | refine callC_pure (p2) rfl ?_ | refine callC_pure (aw) rfl ?_ | refine callC_pure (f1) rfl ?_ | refine callC_pure (f2) rfl ?_ | refine callC_pure (s1) rfl ?_ | refine callC_pure (e1) rfl ?_ | refine callC_pure (e2) rfl ?_ | exact W_ret (RetP_1 (.imm rfl)) | exact W_ret (RetP_c rfl rfl rfl (.imm rfl)))
      | some x =>
        rw [hp] at p1 p2
        unfold resQ at p1 p2
        dsimp only at p1 p2
        have s1 := pSameT x (hrb hp)
        clear hrb
        repeat (first | refine W_seq ?_ | refine W_reg ?_ | refine W_regd ?_ | refine W_block ?_ | refine And.intro (by omega) ?_ | simp (maxSteps := 1000000) (disch := omega) only [cA, cB, cC, frz_us, binE, unE, boundE, newsE, blkQ, Nat.reduceEqDiff, Nat.reduceLT, Nat.reduceAdd, ↓reduceIte, reduceCtorEq, Nat.reduceLeDiff, XQ, cS, nblqRationalWrites, ds] | refine callC_pure (g1) rfl ?_ | exact W_ret (RetP_1 (.imm rfl)) | exact W_ret (RetP_c rfl rfl rfl (.imm rfl)))
        refine W_cond rfl (fun h => by cases h) (fun _ => W_skip ?_)
        repeat (first | refine W_seq ?_ | refine W_reg ?_ | refine W_regd ?_ | refine W_block ?_ | refine And.intro (by omega) ?_ | simp (maxSteps := 1000000) (disch := omega) only [cA, cB, cC, frz_us, binE, unE, boundE, newsE, blkQ, Nat.reduceEqDiff, Nat.reduceLT, Nat.reduceAdd, ↓reduceIte, reduceCtorEq, Nat.reduceLeDiff, XQ, Q, cS, cT, nblqRationalWrites, decide_true, show (false == false) = true from rfl, show (true == true) = true from rfl] | refine callC_pure (p1) rfl ?_ | refine callC_pure (p2) rfl ?_ | refine callC_pure (aw) rfl ?_ | refine callC_pure (f1) rfl ?_ | refine callC_pure (f2) rfl ?_ | refine callC_pure (s1) rfl ?_ | refine callC_pure (e1) rfl ?_ | refine callC_pure (e2) rfl ?_ | exact W_ret (RetP_1 (.imm rfl)) | exact W_ret (RetP_c rfl rfl rfl (.imm rfl)))
end Go.Proofs.YteiagmmfapbaiaaGreatDoor
