/- Lemmas of the walk; no conditions beyond those that each states. -/
import Derived.Test.YtakchfljhihdmaaDoorProg
import Derived.KernelRfl
import Derived.Test.YtakchfljhihdmaaDoorD2
set_option linter.unusedSimpArgs false
set_option linter.unusedVariables false
set_option linter.unnecessarySimpa false
namespace Go.Proofs.YtakchfljhihdmaaDoor
open Go Go.Dat Go.Proofs

/-- robuststats/robuststatslaw02.IntegerIsARing -/
noncomputable def fnliIntegerIsARing : FnD := ⟨Tryd.prog, [0, 1, 2, 3, 4, 5, 6, 11], [], 91, 0, false⟩
def codeliIntegerIsARing : DC :=
 (.seq
  (.reg [⟨(.x 3), .box (.x 0), none⟩,
    ⟨(.x 4), .box (.x 1), none⟩,
    ⟨(.x 5), .box (.x 2), none⟩,
    ⟨(.x 6), .mv (.c (.bool false)), none⟩])
  (.seq
   (.seq
    (.reg [⟨(.t 7), .ldn 2 (.x 3), none⟩,
      ⟨(.t 8), .ldn 2 (.x 4), none⟩,
      ⟨(.t 9), .ldn 2 (.x 5), none⟩,
      ⟨(.t 10), .call 10 [(.t 7), (.t 8), (.t 9)], none⟩,
      ⟨(.x 11), .un .not (.t 10), none⟩])
    (.cond (.x 11)
     (.seq
      (.reg [⟨(.t 12), .call 11 [], none⟩,
        ⟨(.x 6), .mv (.t 12), none⟩])
      .ret)
     .skip))
   (.seq
    (.regd [⟨(.t 13), .call 11 [], none⟩,
      ⟨(.t 14), .mv (.t 13), none⟩,
      ⟨(.t 15), .ldn 2 (.x 3), (some ((.t 14), true))⟩,
      ⟨(.t 16), .ldn 2 (.x 4), (some ((.t 14), true))⟩,
      ⟨(.t 17), .call 13 [(.t 15), (.t 16)], (some ((.t 14), true))⟩,
      ⟨(.t 18), .ldn 2 (.x 4), (some ((.t 14), true))⟩,
      ⟨(.t 19), .ldn 2 (.x 3), (some ((.t 14), true))⟩,
      ⟨(.t 20), .call 13 [(.t 18), (.t 19)], (some ((.t 14), true))⟩,
      ⟨(.t 21), .call 12 [(.t 17), (.t 20)], (some ((.t 14), true))⟩,
      ⟨(.t 22), .pick (.t 14) (.t 21) (.c (.bool false)), none⟩,
      ⟨(.t 23), .mv (.t 22), none⟩,
      ⟨(.t 24), .ldn 2 (.x 3), (some ((.t 23), true))⟩,
      ⟨(.t 25), .ldn 2 (.x 4), (some ((.t 23), true))⟩,
      ⟨(.t 26), .call 14 [(.t 24), (.t 25)], (some ((.t 23), true))⟩,
      ⟨(.t 27), .ldn 2 (.x 4), (some ((.t 23), true))⟩,
      ⟨(.t 28), .ldn 2 (.x 3), (some ((.t 23), true))⟩,
      ⟨(.t 29), .call 14 [(.t 27), (.t 28)], (some ((.t 23), true))⟩,
      ⟨(.t 30), .call 12 [(.t 26), (.t 29)], (some ((.t 23), true))⟩,
      ⟨(.t 31), .pick (.t 23) (.t 30) (.c (.bool false)), none⟩,
      ⟨(.t 32), .mv (.t 31), none⟩,
      ⟨(.t 33), .ldn 2 (.x 3), (some ((.t 32), true))⟩,
      ⟨(.t 34), .ldn 2 (.x 4), (some ((.t 32), true))⟩,
      ⟨(.t 35), .call 13 [(.t 33), (.t 34)], (some ((.t 32), true))⟩,
      ⟨(.t 36), .ldn 2 (.x 5), (some ((.t 32), true))⟩,
      ⟨(.t 37), .call 13 [(.t 35), (.t 36)], (some ((.t 32), true))⟩,
      ⟨(.t 38), .ldn 2 (.x 3), (some ((.t 32), true))⟩,
      ⟨(.t 39), .ldn 2 (.x 4), (some ((.t 32), true))⟩,
      ⟨(.t 40), .ldn 2 (.x 5), (some ((.t 32), true))⟩,
      ⟨(.t 41), .call 13 [(.t 39), (.t 40)], (some ((.t 32), true))⟩,
      ⟨(.t 42), .call 13 [(.t 38), (.t 41)], (some ((.t 32), true))⟩,
      ⟨(.t 43), .call 12 [(.t 37), (.t 42)], (some ((.t 32), true))⟩,
      ⟨(.t 44), .pick (.t 32) (.t 43) (.c (.bool false)), none⟩,
      ⟨(.t 45), .mv (.t 44), none⟩,
      ⟨(.t 46), .ldn 2 (.x 3), (some ((.t 45), true))⟩,
      ⟨(.t 47), .ldn 2 (.x 4), (some ((.t 45), true))⟩,
      ⟨(.t 48), .call 14 [(.t 46), (.t 47)], (some ((.t 45), true))⟩,
      ⟨(.t 49), .ldn 2 (.x 5), (some ((.t 45), true))⟩,
      ⟨(.t 50), .call 14 [(.t 48), (.t 49)], (some ((.t 45), true))⟩,
      ⟨(.t 51), .ldn 2 (.x 3), (some ((.t 45), true))⟩,
      ⟨(.t 52), .ldn 2 (.x 4), (some ((.t 45), true))⟩,
      ⟨(.t 53), .ldn 2 (.x 5), (some ((.t 45), true))⟩,
      ⟨(.t 54), .call 14 [(.t 52), (.t 53)], (some ((.t 45), true))⟩,
      ⟨(.t 55), .call 14 [(.t 51), (.t 54)], (some ((.t 45), true))⟩,
      ⟨(.t 56), .call 12 [(.t 50), (.t 55)], (some ((.t 45), true))⟩,
      ⟨(.t 57), .pick (.t 45) (.t 56) (.c (.bool false)), none⟩,
      ⟨(.t 58), .mv (.t 57), none⟩,
      ⟨(.t 59), .ldn 2 (.x 3), (some ((.t 58), true))⟩,
      ⟨(.t 60), .ldn 2 (.x 4), (some ((.t 58), true))⟩,
      ⟨(.t 61), .ldn 2 (.x 5), (some ((.t 58), true))⟩,
      ⟨(.t 62), .call 13 [(.t 60), (.t 61)], (some ((.t 58), true))⟩,
      ⟨(.t 63), .call 14 [(.t 59), (.t 62)], (some ((.t 58), true))⟩,
      ⟨(.t 64), .ldn 2 (.x 3), (some ((.t 58), true))⟩,
      ⟨(.t 65), .ldn 2 (.x 4), (some ((.t 58), true))⟩,
      ⟨(.t 66), .call 14 [(.t 64), (.t 65)], (some ((.t 58), true))⟩,
      ⟨(.t 67), .ldn 2 (.x 3), (some ((.t 58), true))⟩,
      ⟨(.t 68), .ldn 2 (.x 5), (some ((.t 58), true))⟩,
      ⟨(.t 69), .call 14 [(.t 67), (.t 68)], (some ((.t 58), true))⟩,
      ⟨(.t 70), .call 13 [(.t 66), (.t 69)], (some ((.t 58), true))⟩,
      ⟨(.t 71), .call 12 [(.t 63), (.t 70)], (some ((.t 58), true))⟩,
      ⟨(.t 72), .pick (.t 58) (.t 71) (.c (.bool false)), none⟩,
      ⟨(.t 73), .mv (.t 72), none⟩,
      ⟨(.t 74), .ldn 2 (.x 3), (some ((.t 73), true))⟩,
      ⟨(.t 75), .ldn 2 (.x 3), (some ((.t 73), true))⟩,
      ⟨(.t 76), .call 16 [(.t 75)], (some ((.t 73), true))⟩,
      ⟨(.t 77), .call 13 [(.t 74), (.t 76)], (some ((.t 73), true))⟩,
      ⟨(.t 78), .call 15 [(.t 77)], (some ((.t 73), true))⟩,
      ⟨(.t 79), .bin .eql (.t 78) (.c (.int .i64 0)), (some ((.t 73), true))⟩,
      ⟨(.t 80), .pick (.t 73) (.t 79) (.c (.bool false)), none⟩,
      ⟨(.t 81), .mv (.t 80), none⟩,
      ⟨(.t 82), .ldn 2 (.x 3), (some ((.t 81), true))⟩,
      ⟨(.t 83), .ldn 2 (.x 4), (some ((.t 81), true))⟩,
      ⟨(.t 84), .call 17 [(.t 82), (.t 83)], (some ((.t 81), true))⟩,
      ⟨(.t 85), .ldn 2 (.x 3), (some ((.t 81), true))⟩,
      ⟨(.t 86), .ldn 2 (.x 4), (some ((.t 81), true))⟩,
      ⟨(.t 87), .call 16 [(.t 86)], (some ((.t 81), true))⟩,
      ⟨(.t 88), .call 13 [(.t 85), (.t 87)], (some ((.t 81), true))⟩,
      ⟨(.t 89), .call 12 [(.t 84), (.t 88)], (some ((.t 81), true))⟩,
      ⟨(.t 90), .pick (.t 81) (.t 89) (.c (.bool false)), none⟩,
      ⟨(.x 6), .mv (.t 90), none⟩])
    .ret)))
def resliIntegerIsARing : List RV := [.t 6]
theorem nbliIntegerIsARing : fnliIntegerIsARing.nb = 0 := rfl
theorem isliIntegerIsARing : IsFn fnliIntegerIsARing 3 codeliIntegerIsARing resliIntegerIsARing := ⟨⟨Tryd.f3, _, Tryd.func3, rfl, rfl, by kernel_rfl, by kernel_rfl, by kernel_rfl⟩⟩

/-- robuststats/robuststatslaw02.IntegerValues -/
noncomputable def fnliIntegerValues : FnD := ⟨Tryd.prog, [0, 1, 2, 3, 4, 6, 7, 8, 9, 10, 18], [], 78, 0, false⟩
def codeliIntegerValues : DC :=
 (.seq
  (.reg [⟨(.x 3), .box (.x 0), none⟩,
    ⟨(.x 4), .box (.x 1), none⟩,
    ⟨(.x 6), .mv (.c (.bool false)), none⟩])
  (.seq
   (.seq
    (.reg [⟨(.t 11), .ldn 2 (.x 3), none⟩,
      ⟨(.t 12), .call 18 [(.t 11)], none⟩,
      ⟨(.t 13), .un .not (.t 12), none⟩,
      ⟨(.t 14), .mv (.t 13), none⟩,
      ⟨(.t 15), .ldn 2 (.x 4), (some ((.t 14), false))⟩,
      ⟨(.t 16), .call 18 [(.t 15)], (some ((.t 14), false))⟩,
      ⟨(.t 17), .un .not (.t 16), (some ((.t 14), false))⟩,
      ⟨(.x 18), .pick (.t 14) (.c (.bool true)) (.t 17), none⟩])
    (.cond (.x 18)
     (.seq
      (.reg [⟨(.t 19), .call 11 [], none⟩,
        ⟨(.x 6), .mv (.t 19), none⟩])
      .ret)
     .skip))
   (.seq
    (.reg [⟨(.t 21), .ldn 2 (.x 3), none⟩,
      ⟨(.t 22), .call 19 [(.t 21)], none⟩,
      ⟨(.t 20), .mv (.t 22), none⟩,
      ⟨(.t 23), .ext (.t 20) 0, none⟩,
      ⟨(.t 24), .ext (.t 20) 1, none⟩,
      ⟨(.x 7), .mv (.t 23), none⟩,
      ⟨(.x 8), .mv (.t 24), none⟩])
    (.seq
     (.reg [⟨(.t 26), .ldn 2 (.x 3), none⟩,
       ⟨(.t 27), .call 20 [(.t 26)], none⟩,
       ⟨(.t 25), .mv (.t 27), none⟩,
       ⟨(.t 28), .ext (.t 25) 0, none⟩,
       ⟨(.t 29), .ext (.t 25) 1, none⟩,
       ⟨(.x 9), .mv (.t 28), none⟩,
       ⟨(.x 10), .mv (.t 29), none⟩])
     (.seq
      (.regd [⟨(.t 30), .call 11 [], none⟩,
        ⟨(.t 31), .mv (.t 30), none⟩,
        ⟨(.t 32), .ldn 2 (.x 3), (some ((.t 31), true))⟩,
        ⟨(.t 33), .call 21 [(.t 32)], (some ((.t 31), true))⟩,
        ⟨(.t 34), .ldn 2 (.x 3), (some ((.t 31), true))⟩,
        ⟨(.t 35), .call 22 [(.t 34)], (some ((.t 31), true))⟩,
        ⟨(.t 36), .beq false (.t 33) (.t 35), (some ((.t 31), true))⟩,
        ⟨(.t 37), .pick (.t 31) (.t 36) (.c (.bool false)), none⟩,
        ⟨(.t 38), .mv (.t 37), none⟩,
        ⟨(.t 39), .mv (.x 2), (some ((.t 38), true))⟩,
        ⟨(.t 40), .call 23 [(.t 39)], (some ((.t 38), true))⟩,
        ⟨(.t 41), .mv (.x 2), (some ((.t 38), true))⟩,
        ⟨(.t 42), .call 24 [(.t 41)], (some ((.t 38), true))⟩,
        ⟨(.t 43), .call 12 [(.t 40), (.t 42)], (some ((.t 38), true))⟩,
        ⟨(.t 44), .pick (.t 38) (.t 43) (.c (.bool false)), none⟩,
        ⟨(.t 45), .mv (.t 44), none⟩,
        ⟨(.t 46), .mv (.x 7), (some ((.t 45), true))⟩,
        ⟨(.t 47), .mv (.x 9), (some ((.t 45), true))⟩,
        ⟨(.t 48), .bin .eql (.t 46) (.t 47), (some ((.t 45), true))⟩,
        ⟨(.t 49), .pick (.t 45) (.t 48) (.c (.bool false)), none⟩,
        ⟨(.t 50), .mv (.t 49), none⟩,
        ⟨(.t 51), .mv (.x 8), (some ((.t 50), true))⟩,
        ⟨(.t 52), .mv (.x 10), (some ((.t 50), true))⟩,
        ⟨(.t 53), .beq false (.t 51) (.t 52), (some ((.t 50), true))⟩,
        ⟨(.t 54), .pick (.t 50) (.t 53) (.c (.bool false)), none⟩,
        ⟨(.t 55), .mv (.t 54), none⟩,
        ⟨(.t 56), .ldn 2 (.x 3), (some ((.t 55), true))⟩,
        ⟨(.t 57), .call 15 [(.t 56)], (some ((.t 55), true))⟩,
        ⟨(.t 58), .ldn 2 (.x 3), (some ((.t 55), true))⟩,
        ⟨(.t 59), .call 25 [(.t 58)], (some ((.t 55), true))⟩,
        ⟨(.t 60), .bin .eql (.t 57) (.t 59), (some ((.t 55), true))⟩,
        ⟨(.t 61), .pick (.t 55) (.t 60) (.c (.bool false)), none⟩,
        ⟨(.t 62), .mv (.t 61), none⟩,
        ⟨(.t 63), .ldn 2 (.x 3), (some ((.t 62), true))⟩,
        ⟨(.t 64), .call 16 [(.t 63)], (some ((.t 62), true))⟩,
        ⟨(.t 65), .ldn 2 (.x 3), (some ((.t 62), true))⟩,
        ⟨(.t 66), .call 26 [(.t 65)], (some ((.t 62), true))⟩,
        ⟨(.t 67), .call 12 [(.t 64), (.t 66)], (some ((.t 62), true))⟩,
        ⟨(.t 68), .pick (.t 62) (.t 67) (.c (.bool false)), none⟩,
        ⟨(.t 69), .mv (.t 68), none⟩,
        ⟨(.t 70), .ldn 2 (.x 3), (some ((.t 69), true))⟩,
        ⟨(.t 71), .ldn 2 (.x 4), (some ((.t 69), true))⟩,
        ⟨(.t 72), .call 27 [(.t 70), (.t 71)], (some ((.t 69), true))⟩,
        ⟨(.t 73), .ldn 2 (.x 3), (some ((.t 69), true))⟩,
        ⟨(.t 74), .ldn 2 (.x 4), (some ((.t 69), true))⟩,
        ⟨(.t 75), .call 28 [(.t 73), (.t 74)], (some ((.t 69), true))⟩,
        ⟨(.t 76), .bin .eql (.t 72) (.t 75), (some ((.t 69), true))⟩,
        ⟨(.t 77), .pick (.t 69) (.t 76) (.c (.bool false)), none⟩,
        ⟨(.x 6), .mv (.t 77), none⟩])
      .ret)))))
def resliIntegerValues : List RV := [.t 6]
theorem nbliIntegerValues : fnliIntegerValues.nb = 0 := rfl
theorem isliIntegerValues : IsFn fnliIntegerValues 4 codeliIntegerValues resliIntegerValues := ⟨⟨Tryd.f4, _, Tryd.func4, rfl, rfl, by kernel_rfl, by kernel_rfl, by kernel_rfl⟩⟩

/-- robuststats/robuststatslaw02.IntegerDividesBack -/
noncomputable def fnliIntegerDividesBack : FnD := ⟨Tryd.prog, [0, 1, 2, 3, 4, 5, 6, 7, 8, 19], [], 55, 0, false⟩
def codeliIntegerDividesBack : DC :=
 (.seq
  (.reg [⟨(.x 2), .box (.x 0), none⟩,
    ⟨(.x 3), .box (.x 1), none⟩,
    ⟨(.x 4), .mv (.c (.bool false)), none⟩])
  (.seq
   (.seq
    (.reg [⟨(.t 9), .ldn 2 (.x 2), none⟩,
      ⟨(.t 10), .ldn 2 (.x 3), none⟩,
      ⟨(.t 11), .ldn 2 (.x 2), none⟩,
      ⟨(.t 12), .call 10 [(.t 9), (.t 10), (.t 11)], none⟩,
      ⟨(.t 13), .un .not (.t 12), none⟩,
      ⟨(.t 14), .mv (.t 13), none⟩,
      ⟨(.t 15), .fad 1 (.x 3), (some ((.t 14), false))⟩,
      ⟨(.t 16), .ld (.t 15), (some ((.t 14), false))⟩,
      ⟨(.t 17), .len 1 (.t 16), (some ((.t 14), false))⟩,
      ⟨(.t 18), .bin .eql (.t 17) (.c (.int .i64 0)), (some ((.t 14), false))⟩,
      ⟨(.x 19), .pick (.t 14) (.c (.bool true)) (.t 18), none⟩])
    (.cond (.x 19)
     (.seq
      (.reg [⟨(.t 20), .call 11 [], none⟩,
        ⟨(.x 4), .mv (.t 20), none⟩])
      .ret)
     .skip))
   (.seq
    (.reg [⟨(.t 22), .ldn 2 (.x 2), none⟩,
      ⟨(.t 23), .ldn 2 (.x 3), none⟩,
      ⟨(.t 24), .call 29 [(.t 22), (.t 23)], none⟩,
      ⟨(.t 21), .mv (.t 24), none⟩,
      ⟨(.t 25), .ext (.t 21) 0, none⟩,
      ⟨(.t 26), .ext (.t 21) 1, none⟩,
      ⟨(.t 27), .ext (.t 21) 2, none⟩,
      ⟨(.x 5), .alloc [(.bool false), .nils], none⟩,
      ⟨(.x 6), .alloc [(.bool false), .nils], none⟩,
      ⟨.no, .stn 2 (.x 5) (.t 25), none⟩,
      ⟨.no, .stn 2 (.x 6) (.t 26), none⟩,
      ⟨(.x 7), .mv (.t 27), none⟩])
    (.seq
     (.reg [⟨(.t 28), .fad 1 (.x 3), none⟩,
       ⟨(.t 29), .ld (.t 28), none⟩,
       ⟨(.t 30), .build [(.bool false), .nils] [(1, 1, (.t 29))], none⟩,
       ⟨(.x 8), .alloc [(.bool false), .nils], none⟩,
       ⟨.no, .stn 2 (.x 8) (.t 30), none⟩])
     (.seq
      (.regd [⟨(.t 31), .call 11 [], none⟩,
        ⟨(.t 32), .mv (.t 31), none⟩,
        ⟨(.t 33), .mv (.x 7), (some ((.t 32), true))⟩,
        ⟨(.t 34), .pick (.t 32) (.t 33) (.c (.bool false)), none⟩,
        ⟨(.t 35), .mv (.t 34), none⟩,
        ⟨(.t 36), .ldn 2 (.x 5), (some ((.t 35), true))⟩,
        ⟨(.t 37), .ldn 2 (.x 3), (some ((.t 35), true))⟩,
        ⟨(.t 38), .call 14 [(.t 36), (.t 37)], (some ((.t 35), true))⟩,
        ⟨(.t 39), .ldn 2 (.x 6), (some ((.t 35), true))⟩,
        ⟨(.t 40), .call 13 [(.t 38), (.t 39)], (some ((.t 35), true))⟩,
        ⟨(.t 41), .ldn 2 (.x 2), (some ((.t 35), true))⟩,
        ⟨(.t 42), .call 12 [(.t 40), (.t 41)], (some ((.t 35), true))⟩,
        ⟨(.t 43), .pick (.t 35) (.t 42) (.c (.bool false)), none⟩,
        ⟨(.t 44), .mv (.t 43), none⟩,
        ⟨(.t 45), .ldn 2 (.x 6), (some ((.t 44), true))⟩,
        ⟨(.t 46), .call 15 [(.t 45)], (some ((.t 44), true))⟩,
        ⟨(.t 47), .bin .geq (.t 46) (.c (.int .i64 0)), (some ((.t 44), true))⟩,
        ⟨(.t 48), .pick (.t 44) (.t 47) (.c (.bool false)), none⟩,
        ⟨(.t 49), .mv (.t 48), none⟩,
        ⟨(.t 50), .ldn 2 (.x 6), (some ((.t 49), true))⟩,
        ⟨(.t 51), .ldn 2 (.x 8), (some ((.t 49), true))⟩,
        ⟨(.t 52), .call 27 [(.t 50), (.t 51)], (some ((.t 49), true))⟩,
        ⟨(.t 53), .bin .lss (.t 52) (.c (.int .i64 0)), (some ((.t 49), true))⟩,
        ⟨(.t 54), .pick (.t 49) (.t 53) (.c (.bool false)), none⟩,
        ⟨(.x 4), .mv (.t 54), none⟩])
      .ret)))))
def resliIntegerDividesBack : List RV := [.t 4]
theorem nbliIntegerDividesBack : fnliIntegerDividesBack.nb = 0 := rfl
theorem isliIntegerDividesBack : IsFn fnliIntegerDividesBack 5 codeliIntegerDividesBack resliIntegerDividesBack := ⟨⟨Tryd.f5, _, Tryd.func5, rfl, rfl, by kernel_rfl, by kernel_rfl, by kernel_rfl⟩⟩

/-- robuststats/robuststatslaw02.IntegerKnowsSigns -/
noncomputable def fnliIntegerKnowsSigns : FnD := ⟨Tryd.prog, [0, 1, 2, 3, 4, 5, 6, 11], [], 60, 0, false⟩
def codeliIntegerKnowsSigns : DC :=
 (.seq
  (.reg [⟨(.x 3), .box (.x 0), none⟩,
    ⟨(.x 4), .box (.x 1), none⟩,
    ⟨(.x 5), .box (.x 2), none⟩,
    ⟨(.x 6), .mv (.c (.bool false)), none⟩])
  (.seq
   (.seq
    (.reg [⟨(.t 7), .ldn 2 (.x 3), none⟩,
      ⟨(.t 8), .ldn 2 (.x 4), none⟩,
      ⟨(.t 9), .ldn 2 (.x 5), none⟩,
      ⟨(.t 10), .call 10 [(.t 7), (.t 8), (.t 9)], none⟩,
      ⟨(.x 11), .un .not (.t 10), none⟩])
    (.cond (.x 11)
     (.seq
      (.reg [⟨(.t 12), .call 11 [], none⟩,
        ⟨(.x 6), .mv (.t 12), none⟩])
      .ret)
     .skip))
   (.seq
    (.regd [⟨(.t 13), .call 11 [], none⟩,
      ⟨(.t 14), .mv (.t 13), none⟩,
      ⟨(.t 15), .ldn 2 (.x 3), (some ((.t 14), true))⟩,
      ⟨(.t 16), .ldn 2 (.x 4), (some ((.t 14), true))⟩,
      ⟨(.t 17), .call 14 [(.t 15), (.t 16)], (some ((.t 14), true))⟩,
      ⟨(.t 18), .call 15 [(.t 17)], (some ((.t 14), true))⟩,
      ⟨(.t 19), .ldn 2 (.x 3), (some ((.t 14), true))⟩,
      ⟨(.t 20), .call 15 [(.t 19)], (some ((.t 14), true))⟩,
      ⟨(.t 21), .ldn 2 (.x 4), (some ((.t 14), true))⟩,
      ⟨(.t 22), .call 15 [(.t 21)], (some ((.t 14), true))⟩,
      ⟨(.t 23), .bin .mul (.t 20) (.t 22), (some ((.t 14), true))⟩,
      ⟨(.t 24), .bin .eql (.t 18) (.t 23), (some ((.t 14), true))⟩,
      ⟨(.t 25), .pick (.t 14) (.t 24) (.c (.bool false)), none⟩,
      ⟨(.t 26), .mv (.t 25), none⟩,
      ⟨(.t 27), .ldn 2 (.x 3), (some ((.t 26), true))⟩,
      ⟨(.t 28), .ldn 2 (.x 4), (some ((.t 26), true))⟩,
      ⟨(.t 29), .call 27 [(.t 27), (.t 28)], (some ((.t 26), true))⟩,
      ⟨(.t 30), .ldn 2 (.x 3), (some ((.t 26), true))⟩,
      ⟨(.t 31), .ldn 2 (.x 4), (some ((.t 26), true))⟩,
      ⟨(.t 32), .call 17 [(.t 30), (.t 31)], (some ((.t 26), true))⟩,
      ⟨(.t 33), .call 15 [(.t 32)], (some ((.t 26), true))⟩,
      ⟨(.t 34), .bin .eql (.t 29) (.t 33), (some ((.t 26), true))⟩,
      ⟨(.t 35), .pick (.t 26) (.t 34) (.c (.bool false)), none⟩,
      ⟨(.t 36), .mv (.t 35), none⟩,
      ⟨(.t 37), .ldn 2 (.x 3), (some ((.t 36), true))⟩,
      ⟨(.t 38), .call 16 [(.t 37)], (some ((.t 36), true))⟩,
      ⟨(.t 39), .ldn 2 (.x 4), (some ((.t 36), true))⟩,
      ⟨(.t 40), .call 16 [(.t 39)], (some ((.t 36), true))⟩,
      ⟨(.t 41), .call 27 [(.t 38), (.t 40)], (some ((.t 36), true))⟩,
      ⟨(.t 42), .ldn 2 (.x 4), (some ((.t 36), true))⟩,
      ⟨(.t 43), .ldn 2 (.x 3), (some ((.t 36), true))⟩,
      ⟨(.t 44), .call 27 [(.t 42), (.t 43)], (some ((.t 36), true))⟩,
      ⟨(.t 45), .bin .eql (.t 41) (.t 44), (some ((.t 36), true))⟩,
      ⟨(.t 46), .pick (.t 36) (.t 45) (.c (.bool false)), none⟩,
      ⟨(.t 47), .mv (.t 46), none⟩,
      ⟨(.t 48), .ldn 2 (.x 3), (some ((.t 47), true))⟩,
      ⟨(.t 49), .ldn 2 (.x 5), (some ((.t 47), true))⟩,
      ⟨(.t 50), .call 13 [(.t 48), (.t 49)], (some ((.t 47), true))⟩,
      ⟨(.t 51), .ldn 2 (.x 4), (some ((.t 47), true))⟩,
      ⟨(.t 52), .ldn 2 (.x 5), (some ((.t 47), true))⟩,
      ⟨(.t 53), .call 13 [(.t 51), (.t 52)], (some ((.t 47), true))⟩,
      ⟨(.t 54), .call 27 [(.t 50), (.t 53)], (some ((.t 47), true))⟩,
      ⟨(.t 55), .ldn 2 (.x 3), (some ((.t 47), true))⟩,
      ⟨(.t 56), .ldn 2 (.x 4), (some ((.t 47), true))⟩,
      ⟨(.t 57), .call 27 [(.t 55), (.t 56)], (some ((.t 47), true))⟩,
      ⟨(.t 58), .bin .eql (.t 54) (.t 57), (some ((.t 47), true))⟩,
      ⟨(.t 59), .pick (.t 47) (.t 58) (.c (.bool false)), none⟩,
      ⟨(.x 6), .mv (.t 59), none⟩])
    .ret)))
def resliIntegerKnowsSigns : List RV := [.t 6]
theorem nbliIntegerKnowsSigns : fnliIntegerKnowsSigns.nb = 0 := rfl
theorem isliIntegerKnowsSigns : IsFn fnliIntegerKnowsSigns 6 codeliIntegerKnowsSigns resliIntegerKnowsSigns := ⟨⟨Tryd.f6, _, Tryd.func6, rfl, rfl, by kernel_rfl, by kernel_rfl, by kernel_rfl⟩⟩

/-- robuststats/robuststatslaw02.IntegerCalculates -/
noncomputable def fnliIntegerCalculates : FnD := ⟨Tryd.prog, [0, 1, 2, 3, 4, 5, 6, 7, 8, 9, 10, 18], [], 86, 0, false⟩
def codeliIntegerCalculates : DC :=
 (.seq
  (.reg [⟨(.x 2), .box (.x 0), none⟩,
    ⟨(.x 3), .box (.x 1), none⟩,
    ⟨(.x 4), .mv (.c (.bool false)), none⟩])
  (.seq
   (.seq
    (.reg [⟨(.t 11), .ldn 2 (.x 2), none⟩,
      ⟨(.t 12), .call 18 [(.t 11)], none⟩,
      ⟨(.t 13), .un .not (.t 12), none⟩,
      ⟨(.t 14), .mv (.t 13), none⟩,
      ⟨(.t 15), .ldn 2 (.x 3), (some ((.t 14), false))⟩,
      ⟨(.t 16), .call 18 [(.t 15)], (some ((.t 14), false))⟩,
      ⟨(.t 17), .un .not (.t 16), (some ((.t 14), false))⟩,
      ⟨(.x 18), .pick (.t 14) (.c (.bool true)) (.t 17), none⟩])
    (.cond (.x 18)
     (.seq
      (.reg [⟨(.t 19), .call 11 [], none⟩,
        ⟨(.x 4), .mv (.t 19), none⟩])
      .ret)
     .skip))
   (.seq
    (.reg [⟨(.t 21), .ldn 2 (.x 2), none⟩,
      ⟨(.t 22), .ldn 2 (.x 3), none⟩,
      ⟨(.t 23), .call 29 [(.t 21), (.t 22)], none⟩,
      ⟨(.t 20), .mv (.t 23), none⟩,
      ⟨(.t 24), .ext (.t 20) 0, none⟩,
      ⟨(.t 25), .ext (.t 20) 1, none⟩,
      ⟨(.t 26), .ext (.t 20) 2, none⟩,
      ⟨(.x 5), .alloc [(.bool false), .nils], none⟩,
      ⟨(.x 6), .alloc [(.bool false), .nils], none⟩,
      ⟨.no, .stn 2 (.x 5) (.t 24), none⟩,
      ⟨.no, .stn 2 (.x 6) (.t 25), none⟩,
      ⟨(.x 7), .mv (.t 26), none⟩])
    (.seq
     (.reg [⟨(.t 28), .ldn 2 (.x 2), none⟩,
       ⟨(.t 29), .ldn 2 (.x 3), none⟩,
       ⟨(.t 30), .call 34 [(.t 28), (.t 29)], none⟩,
       ⟨(.t 27), .mv (.t 30), none⟩,
       ⟨(.t 31), .ext (.t 27) 0, none⟩,
       ⟨(.t 32), .ext (.t 27) 1, none⟩,
       ⟨(.t 33), .ext (.t 27) 2, none⟩,
       ⟨(.x 8), .alloc [(.bool false), .nils], none⟩,
       ⟨(.x 9), .alloc [(.bool false), .nils], none⟩,
       ⟨.no, .stn 2 (.x 8) (.t 31), none⟩,
       ⟨.no, .stn 2 (.x 9) (.t 32), none⟩,
       ⟨(.x 10), .mv (.t 33), none⟩])
     (.seq
      (.regd [⟨(.t 34), .call 11 [], none⟩,
        ⟨(.t 35), .mv (.t 34), none⟩,
        ⟨(.t 36), .ldn 2 (.x 2), (some ((.t 35), true))⟩,
        ⟨(.t 37), .ldn 2 (.x 3), (some ((.t 35), true))⟩,
        ⟨(.t 38), .call 13 [(.t 36), (.t 37)], (some ((.t 35), true))⟩,
        ⟨(.t 39), .ldn 2 (.x 2), (some ((.t 35), true))⟩,
        ⟨(.t 40), .ldn 2 (.x 3), (some ((.t 35), true))⟩,
        ⟨(.t 41), .call 35 [(.t 39), (.t 40)], (some ((.t 35), true))⟩,
        ⟨(.t 42), .call 12 [(.t 38), (.t 41)], (some ((.t 35), true))⟩,
        ⟨(.t 43), .pick (.t 35) (.t 42) (.c (.bool false)), none⟩,
        ⟨(.t 44), .mv (.t 43), none⟩,
        ⟨(.t 45), .ldn 2 (.x 2), (some ((.t 44), true))⟩,
        ⟨(.t 46), .ldn 2 (.x 3), (some ((.t 44), true))⟩,
        ⟨(.t 47), .call 17 [(.t 45), (.t 46)], (some ((.t 44), true))⟩,
        ⟨(.t 48), .ldn 2 (.x 2), (some ((.t 44), true))⟩,
        ⟨(.t 49), .ldn 2 (.x 3), (some ((.t 44), true))⟩,
        ⟨(.t 50), .call 36 [(.t 48), (.t 49)], (some ((.t 44), true))⟩,
        ⟨(.t 51), .call 12 [(.t 47), (.t 50)], (some ((.t 44), true))⟩,
        ⟨(.t 52), .pick (.t 44) (.t 51) (.c (.bool false)), none⟩,
        ⟨(.t 53), .mv (.t 52), none⟩,
        ⟨(.t 54), .ldn 2 (.x 2), (some ((.t 53), true))⟩,
        ⟨(.t 55), .ldn 2 (.x 3), (some ((.t 53), true))⟩,
        ⟨(.t 56), .call 14 [(.t 54), (.t 55)], (some ((.t 53), true))⟩,
        ⟨(.t 57), .ldn 2 (.x 2), (some ((.t 53), true))⟩,
        ⟨(.t 58), .ldn 2 (.x 3), (some ((.t 53), true))⟩,
        ⟨(.t 59), .call 37 [(.t 57), (.t 58)], (some ((.t 53), true))⟩,
        ⟨(.t 60), .call 12 [(.t 56), (.t 59)], (some ((.t 53), true))⟩,
        ⟨(.t 61), .pick (.t 53) (.t 60) (.c (.bool false)), none⟩,
        ⟨(.t 62), .mv (.t 61), none⟩,
        ⟨(.t 63), .ldn 2 (.x 5), (some ((.t 62), true))⟩,
        ⟨(.t 64), .ldn 2 (.x 8), (some ((.t 62), true))⟩,
        ⟨(.t 65), .call 12 [(.t 63), (.t 64)], (some ((.t 62), true))⟩,
        ⟨(.t 66), .pick (.t 62) (.t 65) (.c (.bool false)), none⟩,
        ⟨(.t 67), .mv (.t 66), none⟩,
        ⟨(.t 68), .ldn 2 (.x 6), (some ((.t 67), true))⟩,
        ⟨(.t 69), .ldn 2 (.x 9), (some ((.t 67), true))⟩,
        ⟨(.t 70), .call 12 [(.t 68), (.t 69)], (some ((.t 67), true))⟩,
        ⟨(.t 71), .pick (.t 67) (.t 70) (.c (.bool false)), none⟩,
        ⟨(.t 72), .mv (.t 71), none⟩,
        ⟨(.t 73), .mv (.x 7), (some ((.t 72), true))⟩,
        ⟨(.t 74), .mv (.x 10), (some ((.t 72), true))⟩,
        ⟨(.t 75), .beq false (.t 73) (.t 74), (some ((.t 72), true))⟩,
        ⟨(.t 76), .pick (.t 72) (.t 75) (.c (.bool false)), none⟩,
        ⟨(.t 77), .mv (.t 76), none⟩,
        ⟨(.t 78), .ldn 2 (.x 2), (some ((.t 77), true))⟩,
        ⟨(.t 79), .ldn 2 (.x 3), (some ((.t 77), true))⟩,
        ⟨(.t 80), .call 39 [(.t 78), (.t 79)], (some ((.t 77), true))⟩,
        ⟨(.t 81), .ldn 2 (.x 2), (some ((.t 77), true))⟩,
        ⟨(.t 82), .ldn 2 (.x 3), (some ((.t 77), true))⟩,
        ⟨(.t 83), .call 40 [(.t 81), (.t 82)], (some ((.t 77), true))⟩,
        ⟨(.t 84), .call 38 [(.t 80), (.t 83)], (some ((.t 77), true))⟩,
        ⟨(.t 85), .pick (.t 77) (.t 84) (.c (.bool false)), none⟩,
        ⟨(.x 4), .mv (.t 85), none⟩])
      .ret)))))
def resliIntegerCalculates : List RV := [.t 4]
theorem nbliIntegerCalculates : fnliIntegerCalculates.nb = 0 := rfl
theorem isliIntegerCalculates : IsFn fnliIntegerCalculates 8 codeliIntegerCalculates resliIntegerCalculates := ⟨⟨Tryd.f8, _, Tryd.func8, rfl, rfl, by kernel_rfl, by kernel_rfl, by kernel_rfl⟩⟩

/-- robuststats/robuststatslaw02.fair -/
noncomputable def fnli_fair : FnD := ⟨Tryd.prog, [0, 1, 2, 3, 4, 5, 6], [], 29, 0, false⟩
def codeli_fair : DC :=
 (.seq
  (.reg [⟨(.x 3), .box (.x 0), none⟩,
    ⟨(.x 4), .box (.x 1), none⟩,
    ⟨(.x 5), .box (.x 2), none⟩,
    ⟨(.x 6), .mv (.c (.bool false)), none⟩])
  (.seq
   (.reg [⟨(.t 7), .ldn 2 (.x 3), none⟩,
     ⟨(.t 8), .call 18 [(.t 7)], none⟩,
     ⟨(.t 9), .mv (.t 8), none⟩,
     ⟨(.t 10), .ldn 2 (.x 4), (some ((.t 9), true))⟩,
     ⟨(.t 11), .call 18 [(.t 10)], (some ((.t 9), true))⟩,
     ⟨(.t 12), .pick (.t 9) (.t 11) (.c (.bool false)), none⟩,
     ⟨(.t 13), .mv (.t 12), none⟩,
     ⟨(.t 14), .ldn 2 (.x 5), (some ((.t 13), true))⟩,
     ⟨(.t 15), .call 18 [(.t 14)], (some ((.t 13), true))⟩,
     ⟨(.t 16), .pick (.t 13) (.t 15) (.c (.bool false)), none⟩,
     ⟨(.t 17), .mv (.t 16), none⟩,
     ⟨(.t 18), .ldn 2 (.x 3), (some ((.t 17), true))⟩,
     ⟨(.t 19), .call 22 [(.t 18)], (some ((.t 17), true))⟩,
     ⟨(.t 20), .pick (.t 17) (.t 19) (.c (.bool false)), none⟩,
     ⟨(.t 21), .mv (.t 20), none⟩,
     ⟨(.t 22), .ldn 2 (.x 4), (some ((.t 21), true))⟩,
     ⟨(.t 23), .call 22 [(.t 22)], (some ((.t 21), true))⟩,
     ⟨(.t 24), .pick (.t 21) (.t 23) (.c (.bool false)), none⟩,
     ⟨(.t 25), .mv (.t 24), none⟩,
     ⟨(.t 26), .ldn 2 (.x 5), (some ((.t 25), true))⟩,
     ⟨(.t 27), .call 22 [(.t 26)], (some ((.t 25), true))⟩,
     ⟨(.t 28), .pick (.t 25) (.t 27) (.c (.bool false)), none⟩,
     ⟨(.x 6), .mv (.t 28), none⟩])
   .ret))
def resli_fair : List RV := [.t 6]
theorem nbli_fair : fnli_fair.nb = 0 := rfl
theorem isli_fair : IsFn fnli_fair 10 codeli_fair resli_fair := ⟨⟨Tryd.f10, _, Tryd.func10, rfl, rfl, by kernel_rfl, by kernel_rfl, by kernel_rfl⟩⟩

/-- robuststats/robuststatslaw02.awake -/
noncomputable def fnli_awake : FnD := ⟨Tryd.prog, [0, 1, 2, 3], [], 28, 0, false⟩
def codeli_awake : DC :=
 (.seq
  (.reg [⟨(.x 0), .mv (.c (.bool false)), none⟩])
  (.seq
   (.reg [⟨(.t 5), .call 23 [(.c (.int .i64 (-7)))], none⟩,
     ⟨(.t 6), .call 23 [(.c (.int .i64 2))], none⟩,
     ⟨(.t 7), .call 29 [(.t 5), (.t 6)], none⟩,
     ⟨(.t 4), .mv (.t 7), none⟩,
     ⟨(.t 8), .ext (.t 4) 0, none⟩,
     ⟨(.t 9), .ext (.t 4) 1, none⟩,
     ⟨(.t 10), .ext (.t 4) 2, none⟩,
     ⟨(.x 1), .alloc [(.bool false), .nils], none⟩,
     ⟨(.x 2), .alloc [(.bool false), .nils], none⟩,
     ⟨.no, .stn 2 (.x 1) (.t 8), none⟩,
     ⟨.no, .stn 2 (.x 2) (.t 9), none⟩,
     ⟨(.x 3), .mv (.t 10), none⟩])
   (.seq
    (.reg [⟨(.t 11), .mv (.x 3), none⟩,
      ⟨(.t 12), .mv (.t 11), none⟩,
      ⟨(.t 13), .ldn 2 (.x 1), (some ((.t 12), true))⟩,
      ⟨(.t 14), .call 32 [(.t 13)], (some ((.t 12), true))⟩,
      ⟨(.t 15), .bin .eql (.t 14) (.c (.str [45, 52])), (some ((.t 12), true))⟩,
      ⟨(.t 16), .pick (.t 12) (.t 15) (.c (.bool false)), none⟩,
      ⟨(.t 17), .mv (.t 16), none⟩,
      ⟨(.t 18), .ldn 2 (.x 2), (some ((.t 17), true))⟩,
      ⟨(.t 19), .call 32 [(.t 18)], (some ((.t 17), true))⟩,
      ⟨(.t 20), .bin .eql (.t 19) (.c (.str [49])), (some ((.t 17), true))⟩,
      ⟨(.t 21), .pick (.t 17) (.t 20) (.c (.bool false)), none⟩,
      ⟨(.t 22), .mv (.t 21), none⟩,
      ⟨(.t 23), .call 23 [(.c (.int .i64 (-9223372036854775808)))], (some ((.t 22), true))⟩,
      ⟨(.t 24), .bsl 1 [(.int .u32 0), (.int .u32 0)] [(0, 1, (.c (.int .u32 0))), (1, 1, (.c (.int .u32 2147483648)))], (some ((.t 22), true))⟩,
      ⟨(.t 25), .build [(.bool false), .nils] [(0, 1, (.c (.bool true))), (1, 1, (.t 24))], (some ((.t 22), true))⟩,
      ⟨(.t 26), .call 12 [(.t 23), (.t 25)], (some ((.t 22), true))⟩,
      ⟨(.t 27), .pick (.t 22) (.t 26) (.c (.bool false)), none⟩,
      ⟨(.x 0), .mv (.t 27), none⟩])
    .ret)))
def resli_awake : List RV := [.t 0]
theorem nbli_awake : fnli_awake.nb = 0 := rfl
theorem isli_awake : IsFn fnli_awake 11 codeli_awake resli_awake := ⟨⟨Tryd.f11, _, Tryd.func11, rfl, rfl, by kernel_rfl, by kernel_rfl, by kernel_rfl⟩⟩

/-- robuststats/robuststatsref02.Same -/
noncomputable def fnsSame : FnD := ⟨Tryd.prog, [0, 1, 2, 3, 4], [], 17, 0, false⟩
def codesSame : DC :=
 (.seq
  (.reg [⟨(.x 2), .box (.x 0), none⟩,
    ⟨(.x 3), .box (.x 1), none⟩,
    ⟨(.x 4), .mv (.c (.bool false)), none⟩])
  (.seq
   (.reg [⟨(.t 5), .fad 0 (.x 2), none⟩,
     ⟨(.t 6), .ld (.t 5), none⟩,
     ⟨(.t 7), .fad 0 (.x 3), none⟩,
     ⟨(.t 8), .ld (.t 7), none⟩,
     ⟨(.t 9), .beq false (.t 6) (.t 8), none⟩,
     ⟨(.t 10), .mv (.t 9), none⟩,
     ⟨(.t 11), .fad 1 (.x 2), (some ((.t 10), true))⟩,
     ⟨(.t 12), .ld (.t 11), (some ((.t 10), true))⟩,
     ⟨(.t 13), .fad 1 (.x 3), (some ((.t 10), true))⟩,
     ⟨(.t 14), .ld (.t 13), (some ((.t 10), true))⟩,
     ⟨(.t 15), .call 38 [(.t 12), (.t 14)], (some ((.t 10), true))⟩,
     ⟨(.t 16), .pick (.t 10) (.t 15) (.c (.bool false)), none⟩,
     ⟨(.x 4), .mv (.t 16), none⟩])
   .ret))
def ressSame : List RV := [.t 4]
theorem nbsSame : fnsSame.nb = 0 := rfl
theorem issSame : IsFn fnsSame 12 codesSame ressSame := ⟨⟨Tryd.f12, _, Tryd.func12, rfl, rfl, by kernel_rfl, by kernel_rfl, by kernel_rfl⟩⟩

/-- robuststats/integer.Add -/
noncomputable def fniAdd : FnD := ⟨Tryd.prog, [0, 1, 2, 3, 4, 5, 6, 7, 17, 34], [], 51, 0, false⟩
def codeiAdd : DC :=
 (.seq
  (.reg [⟨(.x 2), .box (.x 0), none⟩,
    ⟨(.x 3), .box (.x 1), none⟩,
    ⟨(.x 4), .alloc [(.bool false), .nils], none⟩])
  (.seq
   (.regd [⟨(.t 9), .ldn 2 (.x 2), none⟩,
     ⟨(.t 10), .call 41 [(.t 9)], none⟩,
     ⟨(.t 11), .ldn 2 (.x 3), none⟩,
     ⟨(.t 12), .call 41 [(.t 11)], none⟩,
     ⟨.no, .stn 2 (.x 2) (.t 10), none⟩,
     ⟨.no, .stn 2 (.x 3) (.t 12), none⟩])
   (.seq
    (.seq
     (.reg [⟨(.t 13), .fad 0 (.x 2), none⟩,
       ⟨(.t 14), .ld (.t 13), none⟩,
       ⟨(.t 15), .fad 0 (.x 3), none⟩,
       ⟨(.t 16), .ld (.t 15), none⟩,
       ⟨(.x 17), .beq false (.t 14) (.t 16), none⟩])
     (.cond (.x 17)
      (.seq
       (.regd [⟨(.t 18), .fad 0 (.x 2), none⟩,
         ⟨(.t 19), .ld (.t 18), none⟩,
         ⟨(.t 20), .fad 1 (.x 2), none⟩,
         ⟨(.t 21), .ld (.t 20), none⟩,
         ⟨(.t 22), .fad 1 (.x 3), none⟩,
         ⟨(.t 23), .ld (.t 22), none⟩,
         ⟨(.t 24), .call 43 [(.t 21), (.t 23)], none⟩,
         ⟨(.t 25), .call 42 [(.t 19), (.t 24)], none⟩,
         ⟨.no, .stn 2 (.x 4) (.t 25), none⟩])
       .ret)
      .skip))
    (.seq
     (.seq
      (.reg [⟨(.t 27), .fad 1 (.x 2), none⟩,
        ⟨(.t 28), .ld (.t 27), none⟩,
        ⟨(.t 29), .fad 1 (.x 3), none⟩,
        ⟨(.t 30), .ld (.t 29), none⟩,
        ⟨(.t 31), .call 44 [(.t 28), (.t 30)], none⟩,
        ⟨(.t 26), .mv (.t 31), none⟩,
        ⟨(.t 32), .ext (.t 26) 0, none⟩,
        ⟨(.t 33), .ext (.t 26) 1, none⟩,
        ⟨(.x 5), .mv (.t 32), none⟩,
        ⟨(.x 6), .mv (.t 33), none⟩])
      (.seq
       (.reg [⟨(.x 34), .mv (.x 6), none⟩])
       (.cond (.x 34)
        (.seq
         (.reg [⟨(.t 35), .fad 0 (.x 2), none⟩,
           ⟨(.t 36), .ld (.t 35), none⟩,
           ⟨(.t 37), .mv (.x 5), none⟩,
           ⟨(.t 38), .call 42 [(.t 36), (.t 37)], none⟩,
           ⟨.no, .stn 2 (.x 4) (.t 38), none⟩])
         .ret)
        .skip)))
     (.seq
      (.reg [⟨(.t 40), .fad 1 (.x 3), none⟩,
        ⟨(.t 41), .ld (.t 40), none⟩,
        ⟨(.t 42), .fad 1 (.x 2), none⟩,
        ⟨(.t 43), .ld (.t 42), none⟩,
        ⟨(.t 44), .call 44 [(.t 41), (.t 43)], none⟩,
        ⟨(.t 39), .mv (.t 44), none⟩,
        ⟨(.t 45), .ext (.t 39) 0, none⟩,
        ⟨(.t 46), .ext (.t 39) 1, none⟩,
        ⟨(.x 7), .mv (.t 45), none⟩,
        ⟨(.t 8), .mv (.t 46), none⟩])
      (.seq
       (.reg [⟨(.t 47), .fad 0 (.x 3), none⟩,
         ⟨(.t 48), .ld (.t 47), none⟩,
         ⟨(.t 49), .mv (.x 7), none⟩,
         ⟨(.t 50), .call 42 [(.t 48), (.t 49)], none⟩,
         ⟨.no, .stn 2 (.x 4) (.t 50), none⟩])
       .ret))))))
def resiAdd : List RV := [.cn 2 4]
theorem nbiAdd : fniAdd.nb = 0 := rfl
theorem isiAdd : IsFn fniAdd 13 codeiAdd resiAdd := ⟨⟨Tryd.f13, _, Tryd.func13, rfl, rfl, by kernel_rfl, by kernel_rfl, by kernel_rfl⟩⟩

/-- robuststats/integer.Mul -/
noncomputable def fniMul : FnD := ⟨Tryd.prog, [0, 1, 2, 3, 4], [], 20, 0, false⟩
def codeiMul : DC :=
 (.seq
  (.reg [⟨(.x 2), .box (.x 0), none⟩,
    ⟨(.x 3), .box (.x 1), none⟩,
    ⟨(.x 4), .alloc [(.bool false), .nils], none⟩])
  (.seq
   (.regd [⟨(.t 5), .ldn 2 (.x 2), none⟩,
     ⟨(.t 6), .call 41 [(.t 5)], none⟩,
     ⟨(.t 7), .ldn 2 (.x 3), none⟩,
     ⟨(.t 8), .call 41 [(.t 7)], none⟩,
     ⟨.no, .stn 2 (.x 2) (.t 6), none⟩,
     ⟨.no, .stn 2 (.x 3) (.t 8), none⟩])
   (.seq
    (.regd [⟨(.t 9), .fad 0 (.x 2), none⟩,
      ⟨(.t 10), .ld (.t 9), none⟩,
      ⟨(.t 11), .fad 0 (.x 3), none⟩,
      ⟨(.t 12), .ld (.t 11), none⟩,
      ⟨(.t 13), .beq true (.t 10) (.t 12), none⟩,
      ⟨(.t 14), .fad 1 (.x 2), none⟩,
      ⟨(.t 15), .ld (.t 14), none⟩,
      ⟨(.t 16), .fad 1 (.x 3), none⟩,
      ⟨(.t 17), .ld (.t 16), none⟩,
      ⟨(.t 18), .call 45 [(.t 15), (.t 17)], none⟩,
      ⟨(.t 19), .call 42 [(.t 13), (.t 18)], none⟩,
      ⟨.no, .stn 2 (.x 4) (.t 19), none⟩])
    .ret)))
def resiMul : List RV := [.cn 2 4]
theorem nbiMul : fniMul.nb = 0 := rfl
theorem isiMul : IsFn fniMul 14 codeiMul resiMul := ⟨⟨Tryd.f14, _, Tryd.func14, rfl, rfl, by kernel_rfl, by kernel_rfl, by kernel_rfl⟩⟩

/-- robuststats/integer.Sign -/
noncomputable def fniSign : FnD := ⟨Tryd.prog, [0, 1, 2, 5, 10], [], 13, 0, false⟩
def codeiSign : DC :=
 (.seq
  (.reg [⟨(.x 1), .box (.x 0), none⟩,
    ⟨(.x 2), .mv (.c (.int .i64 0)), none⟩])
  (.seq
   (.seq
    (.reg [⟨(.t 3), .ldn 2 (.x 1), none⟩,
      ⟨(.t 4), .call 41 [(.t 3)], none⟩,
      ⟨.no, .stn 2 (.x 1) (.t 4), none⟩])
    (.block 0
     (.seq
      (.reg [⟨(.t 6), .fad 1 (.x 1), none⟩,
        ⟨(.t 7), .ld (.t 6), none⟩,
        ⟨(.t 8), .len 1 (.t 7), none⟩,
        ⟨(.t 9), .bin .eql (.t 8) (.c (.int .i64 0)), none⟩,
        ⟨(.x 5), .mv (.t 9), none⟩])
      (.cond (.x 5)
       (.seq
        (.reg [⟨(.x 2), .mv (.c (.int .i64 0)), none⟩])
        .ret)
       (.seq
        (.reg [⟨(.t 11), .fad 0 (.x 1), none⟩,
          ⟨(.t 12), .ld (.t 11), none⟩,
          ⟨(.x 10), .mv (.t 12), none⟩])
        (.cond (.x 10)
         (.seq
          (.reg [⟨(.x 2), .mv (.c (.int .i64 (-1))), none⟩])
          .ret)
         .skip))))))
   (.seq
    (.reg [⟨(.x 2), .mv (.c (.int .i64 1)), none⟩])
    .ret)))
def resiSign : List RV := [.t 2]
theorem nbiSign : fniSign.nb = 0 := rfl
theorem isiSign : IsFn fniSign 15 codeiSign resiSign := ⟨⟨Tryd.f15, _, Tryd.func15, rfl, rfl, by kernel_rfl, by kernel_rfl, by kernel_rfl⟩⟩

/-- robuststats/integer.Neg -/
noncomputable def fniNeg : FnD := ⟨Tryd.prog, [0, 1, 2], [], 12, 0, false⟩
def codeiNeg : DC :=
 (.seq
  (.reg [⟨(.x 1), .box (.x 0), none⟩,
    ⟨(.x 2), .alloc [(.bool false), .nils], none⟩])
  (.seq
   (.reg [⟨(.t 3), .ldn 2 (.x 1), none⟩,
     ⟨(.t 4), .call 41 [(.t 3)], none⟩,
     ⟨(.t 5), .call 46 [(.t 4)], none⟩,
     ⟨.no, .stn 2 (.x 1) (.t 5), none⟩])
   (.seq
    (.reg [⟨(.t 6), .fad 0 (.x 1), none⟩,
      ⟨(.t 7), .ld (.t 6), none⟩,
      ⟨(.t 8), .un .not (.t 7), none⟩,
      ⟨(.t 9), .fad 1 (.x 1), none⟩,
      ⟨(.t 10), .ld (.t 9), none⟩,
      ⟨(.t 11), .call 42 [(.t 8), (.t 10)], none⟩,
      ⟨.no, .stn 2 (.x 2) (.t 11), none⟩])
    .ret)))
def resiNeg : List RV := [.cn 2 2]
theorem nbiNeg : fniNeg.nb = 0 := rfl
theorem isiNeg : IsFn fniNeg 16 codeiNeg resiNeg := ⟨⟨Tryd.f16, _, Tryd.func16, rfl, rfl, by kernel_rfl, by kernel_rfl, by kernel_rfl⟩⟩

/-- robuststats/integer.Sub -/
noncomputable def fniSub : FnD := ⟨Tryd.prog, [0, 1, 2, 3, 4], [], 9, 0, false⟩
def codeiSub : DC :=
 (.seq
  (.reg [⟨(.x 2), .box (.x 0), none⟩,
    ⟨(.x 3), .box (.x 1), none⟩,
    ⟨(.x 4), .alloc [(.bool false), .nils], none⟩])
  (.seq
   (.regd [⟨(.t 5), .ldn 2 (.x 2), none⟩,
     ⟨(.t 6), .ldn 2 (.x 3), none⟩,
     ⟨(.t 7), .call 16 [(.t 6)], none⟩,
     ⟨(.t 8), .call 13 [(.t 5), (.t 7)], none⟩,
     ⟨.no, .stn 2 (.x 4) (.t 8), none⟩])
   .ret))
def resiSub : List RV := [.cn 2 4]
theorem nbiSub : fniSub.nb = 0 := rfl
theorem isiSub : IsFn fniSub 17 codeiSub resiSub := ⟨⟨Tryd.f17, _, Tryd.func17, rfl, rfl, by kernel_rfl, by kernel_rfl, by kernel_rfl⟩⟩

/-- robuststats/robuststatslaw02.light -/
noncomputable def fnli_light : FnD := ⟨Tryd.prog, [0, 1, 2], [], 7, 0, false⟩
def codeli_light : DC :=
 (.seq
  (.reg [⟨(.x 1), .box (.x 0), none⟩,
    ⟨(.x 2), .mv (.c (.bool false)), none⟩])
  (.seq
   (.reg [⟨(.t 3), .fad 1 (.x 1), none⟩,
     ⟨(.t 4), .ld (.t 3), none⟩,
     ⟨(.t 5), .len 1 (.t 4), none⟩,
     ⟨(.t 6), .bin .leq (.t 5) (.c (.int .i64 10)), none⟩,
     ⟨(.x 2), .mv (.t 6), none⟩])
   .ret))
def resli_light : List RV := [.t 2]
theorem nbli_light : fnli_light.nb = 0 := rfl
theorem isli_light : IsFn fnli_light 18 codeli_light resli_light := ⟨⟨Tryd.f18, _, Tryd.func18, rfl, rfl, by kernel_rfl, by kernel_rfl, by kernel_rfl⟩⟩

/-- robuststats/integer.ToInt -/
noncomputable def fniToInt : FnD := ⟨Tryd.prog, [0, 1, 2, 3, 4, 13, 16, 26], [], 36, 0, false⟩
def codeiToInt : DC :=
 (.seq
  (.reg [⟨(.x 1), .box (.x 0), none⟩,
    ⟨(.x 2), .mv (.c (.int .i64 0)), none⟩,
    ⟨(.x 3), .mv (.c (.bool false)), none⟩])
  (.seq
   (.reg [⟨(.t 5), .ldn 2 (.x 1), none⟩,
     ⟨(.t 6), .call 41 [(.t 5)], none⟩,
     ⟨.no, .stn 2 (.x 1) (.t 6), none⟩])
   (.seq
    (.reg [⟨(.t 8), .fad 1 (.x 1), none⟩,
      ⟨(.t 9), .ld (.t 8), none⟩,
      ⟨(.t 10), .call 47 [(.t 9)], none⟩,
      ⟨(.t 7), .mv (.t 10), none⟩,
      ⟨(.t 11), .ext (.t 7) 0, none⟩,
      ⟨(.t 12), .ext (.t 7) 1, none⟩,
      ⟨(.x 4), .mv (.t 11), none⟩,
      ⟨(.x 3), .mv (.t 12), none⟩])
    (.seq
     (.block 0
      (.seq
       (.reg [⟨(.t 14), .mv (.x 3), none⟩,
         ⟨(.t 15), .un .not (.t 14), none⟩,
         ⟨(.x 13), .mv (.t 15), none⟩])
       (.cond (.x 13)
        (.seq
         (.reg [⟨(.x 2), .mv (.c (.int .i64 0)), none⟩,
           ⟨(.x 3), .mv (.c (.bool false)), none⟩])
         .ret)
        (.seq
         (.reg [⟨(.t 17), .fad 0 (.x 1), none⟩,
           ⟨(.t 18), .ld (.t 17), none⟩,
           ⟨(.t 19), .mv (.t 18), none⟩,
           ⟨(.t 20), .mv (.x 4), (some ((.t 19), true))⟩,
           ⟨(.t 21), .bin .leq (.t 20) (.c (.int .u64 9223372036854775808)), (some ((.t 19), true))⟩,
           ⟨(.t 22), .pick (.t 19) (.t 21) (.c (.bool false)), none⟩,
           ⟨(.x 16), .mv (.t 22), none⟩])
         (.cond (.x 16)
          (.seq
           (.reg [⟨(.t 23), .mv (.x 4), none⟩,
             ⟨(.t 24), .un .neg (.t 23), none⟩,
             ⟨(.t 25), .conv .i64 (.t 24), none⟩,
             ⟨(.x 2), .mv (.t 25), none⟩,
             ⟨(.x 3), .mv (.c (.bool true)), none⟩])
           .ret)
          (.seq
           (.reg [⟨(.t 27), .fad 0 (.x 1), none⟩,
             ⟨(.t 28), .ld (.t 27), none⟩,
             ⟨(.t 29), .un .not (.t 28), none⟩,
             ⟨(.t 30), .mv (.t 29), none⟩,
             ⟨(.t 31), .mv (.x 4), (some ((.t 30), true))⟩,
             ⟨(.t 32), .bin .lss (.t 31) (.c (.int .u64 9223372036854775808)), (some ((.t 30), true))⟩,
             ⟨(.t 33), .pick (.t 30) (.t 32) (.c (.bool false)), none⟩,
             ⟨(.x 26), .mv (.t 33), none⟩])
           (.cond (.x 26)
            (.seq
             (.reg [⟨(.t 34), .mv (.x 4), none⟩,
               ⟨(.t 35), .conv .i64 (.t 34), none⟩,
               ⟨(.x 2), .mv (.t 35), none⟩,
               ⟨(.x 3), .mv (.c (.bool true)), none⟩])
             .ret)
            .skip)))))))
     (.seq
      (.reg [⟨(.x 2), .mv (.c (.int .i64 0)), none⟩,
        ⟨(.x 3), .mv (.c (.bool false)), none⟩])
      .ret)))))
def resiToInt : List RV := [.t 2, .t 3]
theorem nbiToInt : fniToInt.nb = 0 := rfl
theorem isiToInt : IsFn fniToInt 19 codeiToInt resiToInt := ⟨⟨Tryd.f19, _, Tryd.func19, rfl, rfl, by kernel_rfl, by kernel_rfl, by kernel_rfl⟩⟩

/-- robuststats/robuststatsref02.ToInt -/
noncomputable def fnsToInt : FnD := ⟨Tryd.prog, [0, 1, 2, 3, 4, 5, 14, 30, 33], [], 41, 0, false⟩
def codesToInt : DC :=
 (.seq
  (.reg [⟨(.x 1), .box (.x 0), none⟩,
    ⟨(.x 2), .mv (.c (.int .i64 0)), none⟩,
    ⟨(.x 3), .mv (.c (.bool false)), none⟩])
  (.seq
   (.reg [⟨(.t 6), .ldn 2 (.x 1), none⟩,
     ⟨(.t 7), .call 48 [(.t 6)], none⟩,
     ⟨.no, .stn 2 (.x 1) (.t 7), none⟩])
   (.seq
    (.reg [⟨(.t 9), .fad 1 (.x 1), none⟩,
      ⟨(.t 10), .ld (.t 9), none⟩,
      ⟨(.t 11), .call 49 [(.t 10)], none⟩,
      ⟨(.t 8), .mv (.t 11), none⟩,
      ⟨(.t 12), .ext (.t 8) 0, none⟩,
      ⟨(.t 13), .ext (.t 8) 1, none⟩,
      ⟨(.x 4), .mv (.t 12), none⟩,
      ⟨(.x 5), .mv (.t 13), none⟩])
    (.seq
     (.block 0
      (.seq
       (.reg [⟨(.t 15), .mv (.x 5), none⟩,
         ⟨(.t 16), .un .not (.t 15), none⟩,
         ⟨(.t 17), .mv (.t 16), none⟩,
         ⟨(.t 18), .mv (.x 4), (some ((.t 17), false))⟩,
         ⟨(.t 19), .bin .gtr (.t 18) (.c (.int .u64 9223372036854775808)), (some ((.t 17), false))⟩,
         ⟨(.t 20), .pick (.t 17) (.c (.bool true)) (.t 19), none⟩,
         ⟨(.t 21), .mv (.t 20), none⟩,
         ⟨(.t 22), .mv (.x 4), (some ((.t 21), false))⟩,
         ⟨(.t 23), .bin .eql (.t 22) (.c (.int .u64 9223372036854775808)), (some ((.t 21), false))⟩,
         ⟨(.t 24), .mv (.t 23), (some ((.t 21), false))⟩,
         ⟨(.t 25), .fad 0 (.x 1), (some ((.t 24), true))⟩,
         ⟨(.t 26), .ld (.t 25), (some ((.t 24), true))⟩,
         ⟨(.t 27), .un .not (.t 26), (some ((.t 24), true))⟩,
         ⟨(.t 28), .pick (.t 24) (.t 27) (.c (.bool false)), (some ((.t 21), false))⟩,
         ⟨(.t 29), .pick (.t 21) (.c (.bool true)) (.t 28), none⟩,
         ⟨(.x 14), .mv (.t 29), none⟩])
       (.cond (.x 14)
        (.seq
         (.reg [⟨(.x 2), .mv (.c (.int .i64 0)), none⟩,
           ⟨(.x 3), .mv (.c (.bool false)), none⟩])
         .ret)
        (.seq
         (.reg [⟨(.t 31), .mv (.x 4), none⟩,
           ⟨(.t 32), .bin .eql (.t 31) (.c (.int .u64 9223372036854775808)), none⟩,
           ⟨(.x 30), .mv (.t 32), none⟩])
         (.cond (.x 30)
          (.seq
           (.reg [⟨(.x 2), .mv (.c (.int .i64 (-9223372036854775808))), none⟩,
             ⟨(.x 3), .mv (.c (.bool true)), none⟩])
           .ret)
          (.seq
           (.reg [⟨(.t 34), .fad 0 (.x 1), none⟩,
             ⟨(.t 35), .ld (.t 34), none⟩,
             ⟨(.x 33), .mv (.t 35), none⟩])
           (.cond (.x 33)
            (.seq
             (.reg [⟨(.t 36), .mv (.x 4), none⟩,
               ⟨(.t 37), .conv .i64 (.t 36), none⟩,
               ⟨(.t 38), .un .neg (.t 37), none⟩,
               ⟨(.x 2), .mv (.t 38), none⟩,
               ⟨(.x 3), .mv (.c (.bool true)), none⟩])
             .ret)
            .skip)))))))
     (.seq
      (.reg [⟨(.t 39), .mv (.x 4), none⟩,
        ⟨(.t 40), .conv .i64 (.t 39), none⟩,
        ⟨(.x 2), .mv (.t 40), none⟩,
        ⟨(.x 3), .mv (.c (.bool true)), none⟩])
      .ret)))))
def ressToInt : List RV := [.t 2, .t 3]
theorem nbsToInt : fnsToInt.nb = 0 := rfl
theorem issToInt : IsFn fnsToInt 20 codesToInt ressToInt := ⟨⟨Tryd.f20, _, Tryd.func20, rfl, rfl, by kernel_rfl, by kernel_rfl, by kernel_rfl⟩⟩

/-- robuststats/integer.Valid -/
noncomputable def fniValid : FnD := ⟨Tryd.prog, [0, 1, 2], [], 17, 0, false⟩
def codeiValid : DC :=
 (.seq
  (.reg [⟨(.x 1), .box (.x 0), none⟩,
    ⟨(.x 2), .mv (.c (.bool false)), none⟩])
  (.seq
   (.reg [⟨(.t 3), .fad 1 (.x 1), none⟩,
     ⟨(.t 4), .ld (.t 3), none⟩,
     ⟨(.t 5), .call 50 [(.t 4)], none⟩,
     ⟨(.t 6), .mv (.t 5), none⟩,
     ⟨(.t 7), .fad 1 (.x 1), (some ((.t 6), true))⟩,
     ⟨(.t 8), .ld (.t 7), (some ((.t 6), true))⟩,
     ⟨(.t 9), .len 1 (.t 8), (some ((.t 6), true))⟩,
     ⟨(.t 10), .bin .gtr (.t 9) (.c (.int .i64 0)), (some ((.t 6), true))⟩,
     ⟨(.t 11), .mv (.t 10), (some ((.t 6), true))⟩,
     ⟨(.t 12), .fad 0 (.x 1), (some ((.t 11), false))⟩,
     ⟨(.t 13), .ld (.t 12), (some ((.t 11), false))⟩,
     ⟨(.t 14), .un .not (.t 13), (some ((.t 11), false))⟩,
     ⟨(.t 15), .pick (.t 11) (.c (.bool true)) (.t 14), (some ((.t 6), true))⟩,
     ⟨(.t 16), .pick (.t 6) (.t 15) (.c (.bool false)), none⟩,
     ⟨(.x 2), .mv (.t 16), none⟩])
   .ret))
def resiValid : List RV := [.t 2]
theorem nbiValid : fniValid.nb = 0 := rfl
theorem isiValid : IsFn fniValid 21 codeiValid resiValid := ⟨⟨Tryd.f21, _, Tryd.func21, rfl, rfl, by kernel_rfl, by kernel_rfl, by kernel_rfl⟩⟩

/-- robuststats/robuststatsref02.Valid -/
noncomputable def fnsValid : FnD := ⟨Tryd.prog, [0, 1, 2], [], 17, 0, false⟩
def codesValid : DC :=
 (.seq
  (.reg [⟨(.x 1), .box (.x 0), none⟩,
    ⟨(.x 2), .mv (.c (.bool false)), none⟩])
  (.seq
   (.reg [⟨(.t 3), .fad 1 (.x 1), none⟩,
     ⟨(.t 4), .ld (.t 3), none⟩,
     ⟨(.t 5), .call 51 [(.t 4)], none⟩,
     ⟨(.t 6), .mv (.t 5), none⟩,
     ⟨(.t 7), .fad 0 (.x 1), (some ((.t 6), true))⟩,
     ⟨(.t 8), .ld (.t 7), (some ((.t 6), true))⟩,
     ⟨(.t 9), .mv (.t 8), (some ((.t 6), true))⟩,
     ⟨(.t 10), .fad 1 (.x 1), (some ((.t 9), true))⟩,
     ⟨(.t 11), .ld (.t 10), (some ((.t 9), true))⟩,
     ⟨(.t 12), .len 1 (.t 11), (some ((.t 9), true))⟩,
     ⟨(.t 13), .bin .eql (.t 12) (.c (.int .i64 0)), (some ((.t 9), true))⟩,
     ⟨(.t 14), .pick (.t 9) (.t 13) (.c (.bool false)), (some ((.t 6), true))⟩,
     ⟨(.t 15), .un .not (.t 14), (some ((.t 6), true))⟩,
     ⟨(.t 16), .pick (.t 6) (.t 15) (.c (.bool false)), none⟩,
     ⟨(.x 2), .mv (.t 16), none⟩])
   .ret))
def ressValid : List RV := [.t 2]
theorem nbsValid : fnsValid.nb = 0 := rfl
theorem issValid : IsFn fnsValid 22 codesValid ressValid := ⟨⟨Tryd.f22, _, Tryd.func22, rfl, rfl, by kernel_rfl, by kernel_rfl, by kernel_rfl⟩⟩

/-- robuststats/integer.FromInt -/
noncomputable def fniFromInt : FnD := ⟨Tryd.prog, [0, 2, 4], [], 14, 0, false⟩
def codeiFromInt : DC :=
 (.seq
  (.reg [⟨(.x 2), .alloc [(.bool false), .nils], none⟩])
  (.seq
   (.seq
    (.reg [⟨(.t 3), .mv (.x 0), none⟩,
      ⟨(.x 4), .bin .lss (.t 3) (.c (.int .i64 0)), none⟩])
    (.cond (.x 4)
     (.seq
      (.reg [⟨(.t 5), .mv (.x 0), none⟩,
        ⟨(.t 6), .conv .u64 (.t 5), none⟩,
        ⟨(.t 7), .un .neg (.t 6), none⟩,
        ⟨(.t 8), .call 52 [(.t 7)], none⟩,
        ⟨(.t 9), .call 42 [(.c (.bool true)), (.t 8)], none⟩,
        ⟨.no, .stn 2 (.x 2) (.t 9), none⟩])
      .ret)
     .skip))
   (.seq
    (.reg [⟨(.t 10), .mv (.x 0), none⟩,
      ⟨(.t 11), .conv .u64 (.t 10), none⟩,
      ⟨(.t 12), .call 52 [(.t 11)], none⟩,
      ⟨(.t 13), .call 42 [(.c (.bool false)), (.t 12)], none⟩,
      ⟨.no, .stn 2 (.x 2) (.t 13), none⟩])
    .ret)))
def resiFromInt : List RV := [.cn 2 2]
theorem nbiFromInt : fniFromInt.nb = 0 := rfl
theorem isiFromInt : IsFn fniFromInt 23 codeiFromInt resiFromInt := ⟨⟨Tryd.f23, _, Tryd.func23, rfl, rfl, by kernel_rfl, by kernel_rfl, by kernel_rfl⟩⟩

/-- robuststats/robuststatsref02.FromInt -/
noncomputable def fnsFromInt : FnD := ⟨Tryd.prog, [0, 2, 4], [], 17, 0, false⟩
def codesFromInt : DC :=
 (.seq
  (.reg [⟨(.x 2), .alloc [(.bool false), .nils], none⟩])
  (.seq
   (.seq
    (.reg [⟨(.t 3), .mv (.x 0), none⟩,
      ⟨(.x 4), .bin .lss (.t 3) (.c (.int .i64 0)), none⟩])
    (.cond (.x 4)
     (.seq
      (.reg [⟨(.t 5), .mv (.x 0), none⟩,
        ⟨(.t 6), .bin .add (.t 5) (.c (.int .i64 1)), none⟩,
        ⟨(.t 7), .un .neg (.t 6), none⟩,
        ⟨(.t 8), .conv .u64 (.t 7), none⟩,
        ⟨(.t 9), .call 55 [(.t 8)], none⟩,
        ⟨(.t 10), .bsl 1 [(.int .u32 0)] [(0, 1, (.c (.int .u32 1)))], none⟩,
        ⟨(.t 11), .call 54 [(.t 9), (.t 10)], none⟩,
        ⟨(.t 12), .call 53 [(.c (.bool true)), (.t 11)], none⟩,
        ⟨.no, .stn 2 (.x 2) (.t 12), none⟩])
      .ret)
     .skip))
   (.seq
    (.reg [⟨(.t 13), .mv (.x 0), none⟩,
      ⟨(.t 14), .conv .u64 (.t 13), none⟩,
      ⟨(.t 15), .call 55 [(.t 14)], none⟩,
      ⟨(.t 16), .call 53 [(.c (.bool false)), (.t 15)], none⟩,
      ⟨.no, .stn 2 (.x 2) (.t 16), none⟩])
    .ret)))
def ressFromInt : List RV := [.cn 2 2]
theorem nbsFromInt : fnsFromInt.nb = 0 := rfl
theorem issFromInt : IsFn fnsFromInt 24 codesFromInt ressFromInt := ⟨⟨Tryd.f24, _, Tryd.func24, rfl, rfl, by kernel_rfl, by kernel_rfl, by kernel_rfl⟩⟩

/-- robuststats/robuststatsref02.Sign -/
noncomputable def fnsSign : FnD := ⟨Tryd.prog, [0, 1, 2, 5, 8], [], 13, 0, false⟩
def codesSign : DC :=
 (.seq
  (.reg [⟨(.x 1), .box (.x 0), none⟩,
    ⟨(.x 2), .mv (.c (.int .i64 0)), none⟩])
  (.seq
   (.reg [⟨(.t 3), .ldn 2 (.x 1), none⟩,
     ⟨(.t 4), .call 48 [(.t 3)], none⟩,
     ⟨.no, .stn 2 (.x 1) (.t 4), none⟩])
   (.seq
    (.block 0
     (.seq
      (.reg [⟨(.t 6), .fad 0 (.x 1), none⟩,
        ⟨(.t 7), .ld (.t 6), none⟩,
        ⟨(.x 5), .mv (.t 7), none⟩])
      (.cond (.x 5)
       (.seq
        (.reg [⟨(.x 2), .mv (.c (.int .i64 (-1))), none⟩])
        .ret)
       (.seq
        (.reg [⟨(.t 9), .fad 1 (.x 1), none⟩,
          ⟨(.t 10), .ld (.t 9), none⟩,
          ⟨(.t 11), .len 1 (.t 10), none⟩,
          ⟨(.t 12), .bin .gtr (.t 11) (.c (.int .i64 0)), none⟩,
          ⟨(.x 8), .mv (.t 12), none⟩])
        (.cond (.x 8)
         (.seq
          (.reg [⟨(.x 2), .mv (.c (.int .i64 1)), none⟩])
          .ret)
         .skip)))))
    (.seq
     (.reg [⟨(.x 2), .mv (.c (.int .i64 0)), none⟩])
     .ret))))
def ressSign : List RV := [.t 2]
theorem nbsSign : fnsSign.nb = 0 := rfl
theorem issSign : IsFn fnsSign 25 codesSign ressSign := ⟨⟨Tryd.f25, _, Tryd.func25, rfl, rfl, by kernel_rfl, by kernel_rfl, by kernel_rfl⟩⟩

/-- robuststats/robuststatsref02.Neg -/
noncomputable def fnsNeg : FnD := ⟨Tryd.prog, [0, 1, 2], [], 11, 0, false⟩
def codesNeg : DC :=
 (.seq
  (.reg [⟨(.x 1), .box (.x 0), none⟩,
    ⟨(.x 2), .alloc [(.bool false), .nils], none⟩])
  (.seq
   (.reg [⟨(.t 3), .ldn 2 (.x 1), none⟩,
     ⟨(.t 4), .call 48 [(.t 3)], none⟩,
     ⟨.no, .stn 2 (.x 1) (.t 4), none⟩])
   (.seq
    (.reg [⟨(.t 5), .fad 0 (.x 1), none⟩,
      ⟨(.t 6), .ld (.t 5), none⟩,
      ⟨(.t 7), .un .not (.t 6), none⟩,
      ⟨(.t 8), .fad 1 (.x 1), none⟩,
      ⟨(.t 9), .ld (.t 8), none⟩,
      ⟨(.t 10), .call 53 [(.t 7), (.t 9)], none⟩,
      ⟨.no, .stn 2 (.x 2) (.t 10), none⟩])
    .ret)))
def ressNeg : List RV := [.cn 2 2]
theorem nbsNeg : fnsNeg.nb = 0 := rfl
theorem issNeg : IsFn fnsNeg 26 codesNeg ressNeg := ⟨⟨Tryd.f26, _, Tryd.func26, rfl, rfl, by kernel_rfl, by kernel_rfl, by kernel_rfl⟩⟩

/-- robuststats/integer.Compare -/
noncomputable def fniCompare : FnD := ⟨Tryd.prog, [0, 1, 2, 3, 4, 5, 6, 15, 19], [], 30, 0, false⟩
def codeiCompare : DC :=
 (.seq
  (.reg [⟨(.x 2), .box (.x 0), none⟩,
    ⟨(.x 3), .box (.x 1), none⟩,
    ⟨(.x 4), .mv (.c (.int .i64 0)), none⟩])
  (.seq
   (.regd [⟨(.t 7), .ldn 2 (.x 2), none⟩,
     ⟨(.t 8), .call 41 [(.t 7)], none⟩,
     ⟨(.t 9), .ldn 2 (.x 3), none⟩,
     ⟨(.t 10), .call 41 [(.t 9)], none⟩,
     ⟨.no, .stn 2 (.x 2) (.t 8), none⟩,
     ⟨.no, .stn 2 (.x 3) (.t 10), none⟩])
   (.seq
    (.regd [⟨(.t 11), .ldn 2 (.x 2), none⟩,
      ⟨(.t 12), .call 15 [(.t 11)], none⟩,
      ⟨(.t 13), .ldn 2 (.x 3), none⟩,
      ⟨(.t 14), .call 15 [(.t 13)], none⟩,
      ⟨(.x 5), .mv (.t 12), none⟩,
      ⟨(.x 6), .mv (.t 14), none⟩])
    (.seq
     (.block 0
      (.seq
       (.reg [⟨(.t 16), .mv (.x 5), none⟩,
         ⟨(.t 17), .mv (.x 6), none⟩,
         ⟨(.t 18), .bin .lss (.t 16) (.t 17), none⟩,
         ⟨(.x 15), .mv (.t 18), none⟩])
       (.cond (.x 15)
        (.seq
         (.reg [⟨(.x 4), .mv (.c (.int .i64 (-1))), none⟩])
         .ret)
        (.seq
         (.reg [⟨(.t 20), .mv (.x 5), none⟩,
           ⟨(.t 21), .mv (.x 6), none⟩,
           ⟨(.t 22), .bin .gtr (.t 20) (.t 21), none⟩,
           ⟨(.x 19), .mv (.t 22), none⟩])
         (.cond (.x 19)
          (.seq
           (.reg [⟨(.x 4), .mv (.c (.int .i64 1)), none⟩])
           .ret)
          .skip)))))
     (.seq
      (.reg [⟨(.t 23), .mv (.x 5), none⟩,
        ⟨(.t 24), .fad 1 (.x 2), none⟩,
        ⟨(.t 25), .ld (.t 24), none⟩,
        ⟨(.t 26), .fad 1 (.x 3), none⟩,
        ⟨(.t 27), .ld (.t 26), none⟩,
        ⟨(.t 28), .call 56 [(.t 25), (.t 27)], none⟩,
        ⟨(.t 29), .bin .mul (.t 23) (.t 28), none⟩,
        ⟨(.x 4), .mv (.t 29), none⟩])
      .ret)))))
def resiCompare : List RV := [.t 4]
theorem nbiCompare : fniCompare.nb = 0 := rfl
theorem isiCompare : IsFn fniCompare 27 codeiCompare resiCompare := ⟨⟨Tryd.f27, _, Tryd.func27, rfl, rfl, by kernel_rfl, by kernel_rfl, by kernel_rfl⟩⟩

/-- robuststats/robuststatsref02.Compare -/
noncomputable def fnsCompare : FnD := ⟨Tryd.prog, [0, 1, 2, 3, 4], [], 9, 0, false⟩
def codesCompare : DC :=
 (.seq
  (.reg [⟨(.x 2), .box (.x 0), none⟩,
    ⟨(.x 3), .box (.x 1), none⟩,
    ⟨(.x 4), .mv (.c (.int .i64 0)), none⟩])
  (.seq
   (.reg [⟨(.t 5), .ldn 2 (.x 2), none⟩,
     ⟨(.t 6), .ldn 2 (.x 3), none⟩,
     ⟨(.t 7), .call 36 [(.t 5), (.t 6)], none⟩,
     ⟨(.t 8), .call 25 [(.t 7)], none⟩,
     ⟨(.x 4), .mv (.t 8), none⟩])
   .ret))
def ressCompare : List RV := [.t 4]
theorem nbsCompare : fnsCompare.nb = 0 := rfl
theorem issCompare : IsFn fnsCompare 28 codesCompare ressCompare := ⟨⟨Tryd.f28, _, Tryd.func28, rfl, rfl, by kernel_rfl, by kernel_rfl, by kernel_rfl⟩⟩

/-- robuststats/integer.Div -/
noncomputable def fniDiv : FnD := ⟨Tryd.prog, [0, 1, 2, 3, 4, 5, 6, 7, 8, 23, 32], [], 52, 0, false⟩
def codeiDiv : DC :=
 (.seq
  (.reg [⟨(.x 2), .box (.x 0), none⟩,
    ⟨(.x 3), .box (.x 1), none⟩,
    ⟨(.x 4), .alloc [(.bool false), .nils], none⟩,
    ⟨(.x 5), .alloc [(.bool false), .nils], none⟩,
    ⟨(.x 6), .mv (.c (.bool false)), none⟩])
  (.seq
   (.regd [⟨(.t 9), .ldn 2 (.x 2), none⟩,
     ⟨(.t 10), .call 41 [(.t 9)], none⟩,
     ⟨(.t 11), .ldn 2 (.x 3), none⟩,
     ⟨(.t 12), .call 41 [(.t 11)], none⟩,
     ⟨.no, .stn 2 (.x 2) (.t 10), none⟩,
     ⟨.no, .stn 2 (.x 3) (.t 12), none⟩])
   (.seq
    (.reg [⟨(.t 14), .fad 1 (.x 2), none⟩,
      ⟨(.t 15), .ld (.t 14), none⟩,
      ⟨(.t 16), .fad 1 (.x 3), none⟩,
      ⟨(.t 17), .ld (.t 16), none⟩,
      ⟨(.t 18), .call 57 [(.t 15), (.t 17)], none⟩,
      ⟨(.t 13), .mv (.t 18), none⟩,
      ⟨(.t 19), .ext (.t 13) 0, none⟩,
      ⟨(.t 20), .ext (.t 13) 1, none⟩,
      ⟨(.t 21), .ext (.t 13) 2, none⟩,
      ⟨(.x 7), .mv (.t 19), none⟩,
      ⟨(.x 8), .mv (.t 20), none⟩,
      ⟨(.x 6), .mv (.t 21), none⟩])
    (.seq
     (.seq
      (.reg [⟨(.t 22), .mv (.x 6), none⟩,
        ⟨(.x 23), .un .not (.t 22), none⟩])
      (.cond (.x 23)
       (.seq
        (.reg [⟨(.t 24), .build [(.bool false), .nils] [], none⟩,
          ⟨(.t 25), .build [(.bool false), .nils] [], none⟩,
          ⟨.no, .stn 2 (.x 4) (.t 24), none⟩,
          ⟨.no, .stn 2 (.x 5) (.t 25), none⟩,
          ⟨(.x 6), .mv (.c (.bool false)), none⟩])
        .ret)
       .skip))
     (.seq
      (.seq
       (.reg [⟨(.t 26), .fad 0 (.x 2), none⟩,
         ⟨(.t 27), .ld (.t 26), none⟩,
         ⟨(.t 28), .mv (.t 27), none⟩,
         ⟨(.t 29), .mv (.x 8), (some ((.t 28), true))⟩,
         ⟨(.t 30), .len 1 (.t 29), (some ((.t 28), true))⟩,
         ⟨(.t 31), .bin .gtr (.t 30) (.c (.int .i64 0)), (some ((.t 28), true))⟩,
         ⟨(.x 32), .pick (.t 28) (.t 31) (.c (.bool false)), none⟩])
       (.cond (.x 32)
        (.seq
         (.reg [⟨(.t 33), .mv (.x 7), none⟩,
           ⟨(.t 34), .bsl 1 [(.int .u32 0)] [(0, 1, (.c (.int .u32 1)))], none⟩,
           ⟨(.t 35), .call 43 [(.t 33), (.t 34)], none⟩,
           ⟨(.x 7), .mv (.t 35), none⟩])
         (.reg [⟨(.t 37), .fad 1 (.x 3), none⟩,
           ⟨(.t 38), .ld (.t 37), none⟩,
           ⟨(.t 39), .mv (.x 8), none⟩,
           ⟨(.t 40), .call 44 [(.t 38), (.t 39)], none⟩,
           ⟨(.t 36), .mv (.t 40), none⟩,
           ⟨(.t 41), .ext (.t 36) 0, none⟩,
           ⟨(.t 42), .ext (.t 36) 1, none⟩,
           ⟨(.x 8), .mv (.t 41), none⟩]))
        .skip))
      (.seq
       (.reg [⟨(.t 43), .fad 0 (.x 2), none⟩,
         ⟨(.t 44), .ld (.t 43), none⟩,
         ⟨(.t 45), .fad 0 (.x 3), none⟩,
         ⟨(.t 46), .ld (.t 45), none⟩,
         ⟨(.t 47), .beq true (.t 44) (.t 46), none⟩,
         ⟨(.t 48), .mv (.x 7), none⟩,
         ⟨(.t 49), .call 42 [(.t 47), (.t 48)], none⟩,
         ⟨(.t 50), .mv (.x 8), none⟩,
         ⟨(.t 51), .call 42 [(.c (.bool false)), (.t 50)], none⟩,
         ⟨.no, .stn 2 (.x 4) (.t 49), none⟩,
         ⟨.no, .stn 2 (.x 5) (.t 51), none⟩,
         ⟨(.x 6), .mv (.c (.bool true)), none⟩])
       .ret))))))
def resiDiv : List RV := [.cn 2 4, .cn 2 5, .t 6]
theorem nbiDiv : fniDiv.nb = 0 := rfl
theorem isiDiv : IsFn fniDiv 29 codeiDiv resiDiv := ⟨⟨Tryd.f29, _, Tryd.func29, rfl, rfl, by kernel_rfl, by kernel_rfl, by kernel_rfl⟩⟩

/-- robuststats/integer.Format -/
noncomputable def fniFormat : FnD := ⟨Tryd.prog, [0, 1, 2, 3, 10], [], 14, 0, false⟩
def codeiFormat : DC :=
 (.seq
  (.reg [⟨(.x 1), .box (.x 0), none⟩,
    ⟨(.x 2), .mv (.c (.str [])), none⟩])
  (.seq
   (.reg [⟨(.t 4), .ldn 2 (.x 1), none⟩,
     ⟨(.t 5), .call 41 [(.t 4)], none⟩,
     ⟨(.t 6), .fld 1 (.t 5), none⟩,
     ⟨(.t 7), .call 60 [(.t 6)], none⟩,
     ⟨(.x 3), .mv (.t 7), none⟩])
   (.seq
    (.seq
     (.reg [⟨(.t 8), .ldn 2 (.x 1), none⟩,
       ⟨(.t 9), .call 15 [(.t 8)], none⟩,
       ⟨(.x 10), .bin .lss (.t 9) (.c (.int .i64 0)), none⟩])
     (.cond (.x 10)
      (.seq
       (.reg [⟨(.t 11), .mv (.x 3), none⟩,
         ⟨(.t 12), .bin .add (.c (.str [45])) (.t 11), none⟩,
         ⟨(.x 2), .mv (.t 12), none⟩])
       .ret)
      .skip))
    (.seq
     (.reg [⟨(.t 13), .mv (.x 3), none⟩,
       ⟨(.x 2), .mv (.t 13), none⟩])
     .ret))))
def resiFormat : List RV := [.t 2]
theorem nbiFormat : fniFormat.nb = 0 := rfl
theorem isiFormat : IsFn fniFormat 32 codeiFormat resiFormat := ⟨⟨Tryd.f32, _, Tryd.func32, rfl, rfl, by kernel_rfl, by kernel_rfl, by kernel_rfl⟩⟩

/-- robuststats/robuststatsref02.Div -/
noncomputable def fnsDiv : FnD := ⟨Tryd.prog, [0, 1, 2, 3, 4, 5, 6, 7, 8, 9, 24, 33], [], 53, 0, false⟩
def codesDiv : DC :=
 (.seq
  (.reg [⟨(.x 2), .box (.x 0), none⟩,
    ⟨(.x 3), .box (.x 1), none⟩,
    ⟨(.x 4), .alloc [(.bool false), .nils], none⟩,
    ⟨(.x 5), .alloc [(.bool false), .nils], none⟩,
    ⟨(.x 6), .mv (.c (.bool false)), none⟩])
  (.seq
   (.regd [⟨(.t 10), .ldn 2 (.x 2), none⟩,
     ⟨(.t 11), .call 48 [(.t 10)], none⟩,
     ⟨(.t 12), .ldn 2 (.x 3), none⟩,
     ⟨(.t 13), .call 48 [(.t 12)], none⟩,
     ⟨.no, .stn 2 (.x 2) (.t 11), none⟩,
     ⟨.no, .stn 2 (.x 3) (.t 13), none⟩])
   (.seq
    (.reg [⟨(.t 15), .fad 1 (.x 2), none⟩,
      ⟨(.t 16), .ld (.t 15), none⟩,
      ⟨(.t 17), .fad 1 (.x 3), none⟩,
      ⟨(.t 18), .ld (.t 17), none⟩,
      ⟨(.t 19), .call 62 [(.t 16), (.t 18)], none⟩,
      ⟨(.t 14), .mv (.t 19), none⟩,
      ⟨(.t 20), .ext (.t 14) 0, none⟩,
      ⟨(.t 21), .ext (.t 14) 1, none⟩,
      ⟨(.t 22), .ext (.t 14) 2, none⟩,
      ⟨(.x 7), .mv (.t 20), none⟩,
      ⟨(.x 8), .mv (.t 21), none⟩,
      ⟨(.x 9), .mv (.t 22), none⟩])
    (.seq
     (.seq
      (.reg [⟨(.t 23), .mv (.x 9), none⟩,
        ⟨(.x 24), .un .not (.t 23), none⟩])
      (.cond (.x 24)
       (.seq
        (.reg [⟨(.t 25), .build [(.bool false), .nils] [], none⟩,
          ⟨(.t 26), .build [(.bool false), .nils] [], none⟩,
          ⟨.no, .stn 2 (.x 4) (.t 25), none⟩,
          ⟨.no, .stn 2 (.x 5) (.t 26), none⟩,
          ⟨(.x 6), .mv (.c (.bool false)), none⟩])
        .ret)
       .skip))
     (.seq
      (.seq
       (.reg [⟨(.t 27), .fad 0 (.x 2), none⟩,
         ⟨(.t 28), .ld (.t 27), none⟩,
         ⟨(.t 29), .mv (.t 28), none⟩,
         ⟨(.t 30), .mv (.x 8), (some ((.t 29), true))⟩,
         ⟨(.t 31), .len 1 (.t 30), (some ((.t 29), true))⟩,
         ⟨(.t 32), .bin .gtr (.t 31) (.c (.int .i64 0)), (some ((.t 29), true))⟩,
         ⟨(.x 33), .pick (.t 29) (.t 32) (.c (.bool false)), none⟩])
       (.cond (.x 33)
        (.seq
         (.reg [⟨(.t 34), .mv (.x 7), none⟩,
           ⟨(.t 35), .bsl 1 [(.int .u32 0)] [(0, 1, (.c (.int .u32 1)))], none⟩,
           ⟨(.t 36), .call 54 [(.t 34), (.t 35)], none⟩,
           ⟨(.x 7), .mv (.t 36), none⟩])
         (.reg [⟨(.t 38), .fad 1 (.x 3), none⟩,
           ⟨(.t 39), .ld (.t 38), none⟩,
           ⟨(.t 40), .mv (.x 8), none⟩,
           ⟨(.t 41), .call 63 [(.t 39), (.t 40)], none⟩,
           ⟨(.t 37), .mv (.t 41), none⟩,
           ⟨(.t 42), .ext (.t 37) 0, none⟩,
           ⟨(.t 43), .ext (.t 37) 1, none⟩,
           ⟨(.x 8), .mv (.t 42), none⟩]))
        .skip))
      (.seq
       (.reg [⟨(.t 44), .fad 0 (.x 2), none⟩,
         ⟨(.t 45), .ld (.t 44), none⟩,
         ⟨(.t 46), .fad 0 (.x 3), none⟩,
         ⟨(.t 47), .ld (.t 46), none⟩,
         ⟨(.t 48), .beq true (.t 45) (.t 47), none⟩,
         ⟨(.t 49), .mv (.x 7), none⟩,
         ⟨(.t 50), .call 53 [(.t 48), (.t 49)], none⟩,
         ⟨(.t 51), .mv (.x 8), none⟩,
         ⟨(.t 52), .call 53 [(.c (.bool false)), (.t 51)], none⟩,
         ⟨.no, .stn 2 (.x 4) (.t 50), none⟩,
         ⟨.no, .stn 2 (.x 5) (.t 52), none⟩,
         ⟨(.x 6), .mv (.c (.bool true)), none⟩])
       .ret))))))
def ressDiv : List RV := [.cn 2 4, .cn 2 5, .t 6]
theorem nbsDiv : fnsDiv.nb = 0 := rfl
theorem issDiv : IsFn fnsDiv 34 codesDiv ressDiv := ⟨⟨Tryd.f34, _, Tryd.func34, rfl, rfl, by kernel_rfl, by kernel_rfl, by kernel_rfl⟩⟩

/-- robuststats/robuststatsref02.Add -/
noncomputable def fnsAdd : FnD := ⟨Tryd.prog, [0, 1, 2, 3, 4, 5, 6, 7, 17, 34], [], 51, 0, false⟩
def codesAdd : DC :=
 (.seq
  (.reg [⟨(.x 2), .box (.x 0), none⟩,
    ⟨(.x 3), .box (.x 1), none⟩,
    ⟨(.x 4), .alloc [(.bool false), .nils], none⟩])
  (.seq
   (.regd [⟨(.t 9), .ldn 2 (.x 2), none⟩,
     ⟨(.t 10), .call 48 [(.t 9)], none⟩,
     ⟨(.t 11), .ldn 2 (.x 3), none⟩,
     ⟨(.t 12), .call 48 [(.t 11)], none⟩,
     ⟨.no, .stn 2 (.x 2) (.t 10), none⟩,
     ⟨.no, .stn 2 (.x 3) (.t 12), none⟩])
   (.seq
    (.seq
     (.reg [⟨(.t 13), .fad 0 (.x 2), none⟩,
       ⟨(.t 14), .ld (.t 13), none⟩,
       ⟨(.t 15), .fad 0 (.x 3), none⟩,
       ⟨(.t 16), .ld (.t 15), none⟩,
       ⟨(.x 17), .beq false (.t 14) (.t 16), none⟩])
     (.cond (.x 17)
      (.seq
       (.regd [⟨(.t 18), .fad 0 (.x 2), none⟩,
         ⟨(.t 19), .ld (.t 18), none⟩,
         ⟨(.t 20), .fad 1 (.x 2), none⟩,
         ⟨(.t 21), .ld (.t 20), none⟩,
         ⟨(.t 22), .fad 1 (.x 3), none⟩,
         ⟨(.t 23), .ld (.t 22), none⟩,
         ⟨(.t 24), .call 54 [(.t 21), (.t 23)], none⟩,
         ⟨(.t 25), .call 53 [(.t 19), (.t 24)], none⟩,
         ⟨.no, .stn 2 (.x 4) (.t 25), none⟩])
       .ret)
      .skip))
    (.seq
     (.seq
      (.reg [⟨(.t 27), .fad 1 (.x 2), none⟩,
        ⟨(.t 28), .ld (.t 27), none⟩,
        ⟨(.t 29), .fad 1 (.x 3), none⟩,
        ⟨(.t 30), .ld (.t 29), none⟩,
        ⟨(.t 31), .call 63 [(.t 28), (.t 30)], none⟩,
        ⟨(.t 26), .mv (.t 31), none⟩,
        ⟨(.t 32), .ext (.t 26) 0, none⟩,
        ⟨(.t 33), .ext (.t 26) 1, none⟩,
        ⟨(.x 5), .mv (.t 32), none⟩,
        ⟨(.x 6), .mv (.t 33), none⟩])
      (.seq
       (.reg [⟨(.x 34), .mv (.x 6), none⟩])
       (.cond (.x 34)
        (.seq
         (.reg [⟨(.t 35), .fad 0 (.x 2), none⟩,
           ⟨(.t 36), .ld (.t 35), none⟩,
           ⟨(.t 37), .mv (.x 5), none⟩,
           ⟨(.t 38), .call 53 [(.t 36), (.t 37)], none⟩,
           ⟨.no, .stn 2 (.x 4) (.t 38), none⟩])
         .ret)
        .skip)))
     (.seq
      (.reg [⟨(.t 40), .fad 1 (.x 3), none⟩,
        ⟨(.t 41), .ld (.t 40), none⟩,
        ⟨(.t 42), .fad 1 (.x 2), none⟩,
        ⟨(.t 43), .ld (.t 42), none⟩,
        ⟨(.t 44), .call 63 [(.t 41), (.t 43)], none⟩,
        ⟨(.t 39), .mv (.t 44), none⟩,
        ⟨(.t 45), .ext (.t 39) 0, none⟩,
        ⟨(.t 46), .ext (.t 39) 1, none⟩,
        ⟨(.x 7), .mv (.t 45), none⟩,
        ⟨(.t 8), .mv (.t 46), none⟩])
      (.seq
       (.reg [⟨(.t 47), .fad 0 (.x 3), none⟩,
         ⟨(.t 48), .ld (.t 47), none⟩,
         ⟨(.t 49), .mv (.x 7), none⟩,
         ⟨(.t 50), .call 53 [(.t 48), (.t 49)], none⟩,
         ⟨.no, .stn 2 (.x 4) (.t 50), none⟩])
       .ret))))))
def ressAdd : List RV := [.cn 2 4]
theorem nbsAdd : fnsAdd.nb = 0 := rfl
theorem issAdd : IsFn fnsAdd 35 codesAdd ressAdd := ⟨⟨Tryd.f35, _, Tryd.func35, rfl, rfl, by kernel_rfl, by kernel_rfl, by kernel_rfl⟩⟩

/-- robuststats/robuststatsref02.Sub -/
noncomputable def fnsSub : FnD := ⟨Tryd.prog, [0, 1, 2, 3, 4], [], 9, 0, false⟩
def codesSub : DC :=
 (.seq
  (.reg [⟨(.x 2), .box (.x 0), none⟩,
    ⟨(.x 3), .box (.x 1), none⟩,
    ⟨(.x 4), .alloc [(.bool false), .nils], none⟩])
  (.seq
   (.regd [⟨(.t 5), .ldn 2 (.x 2), none⟩,
     ⟨(.t 6), .ldn 2 (.x 3), none⟩,
     ⟨(.t 7), .call 26 [(.t 6)], none⟩,
     ⟨(.t 8), .call 35 [(.t 5), (.t 7)], none⟩,
     ⟨.no, .stn 2 (.x 4) (.t 8), none⟩])
   .ret))
def ressSub : List RV := [.cn 2 4]
theorem nbsSub : fnsSub.nb = 0 := rfl
theorem issSub : IsFn fnsSub 36 codesSub ressSub := ⟨⟨Tryd.f36, _, Tryd.func36, rfl, rfl, by kernel_rfl, by kernel_rfl, by kernel_rfl⟩⟩

/-- robuststats/robuststatsref02.Mul -/
noncomputable def fnsMul : FnD := ⟨Tryd.prog, [0, 1, 2, 3, 4], [], 20, 0, false⟩
def codesMul : DC :=
 (.seq
  (.reg [⟨(.x 2), .box (.x 0), none⟩,
    ⟨(.x 3), .box (.x 1), none⟩,
    ⟨(.x 4), .alloc [(.bool false), .nils], none⟩])
  (.seq
   (.regd [⟨(.t 5), .ldn 2 (.x 2), none⟩,
     ⟨(.t 6), .call 48 [(.t 5)], none⟩,
     ⟨(.t 7), .ldn 2 (.x 3), none⟩,
     ⟨(.t 8), .call 48 [(.t 7)], none⟩,
     ⟨.no, .stn 2 (.x 2) (.t 6), none⟩,
     ⟨.no, .stn 2 (.x 3) (.t 8), none⟩])
   (.seq
    (.regd [⟨(.t 9), .fad 0 (.x 2), none⟩,
      ⟨(.t 10), .ld (.t 9), none⟩,
      ⟨(.t 11), .fad 0 (.x 3), none⟩,
      ⟨(.t 12), .ld (.t 11), none⟩,
      ⟨(.t 13), .beq true (.t 10) (.t 12), none⟩,
      ⟨(.t 14), .fad 1 (.x 2), none⟩,
      ⟨(.t 15), .ld (.t 14), none⟩,
      ⟨(.t 16), .fad 1 (.x 3), none⟩,
      ⟨(.t 17), .ld (.t 16), none⟩,
      ⟨(.t 18), .call 64 [(.t 15), (.t 17)], none⟩,
      ⟨(.t 19), .call 53 [(.t 13), (.t 18)], none⟩,
      ⟨.no, .stn 2 (.x 4) (.t 19), none⟩])
    .ret)))
def ressMul : List RV := [.cn 2 4]
theorem nbsMul : fnsMul.nb = 0 := rfl
theorem issMul : IsFn fnsMul 37 codesMul ressMul := ⟨⟨Tryd.f37, _, Tryd.func37, rfl, rfl, by kernel_rfl, by kernel_rfl, by kernel_rfl⟩⟩

/-- robuststats/robuststatsref01.Same -/
noncomputable def fnrSame : FnD := ⟨Tryd.prog, [0, 1, 4, 5, 10, 14, 25], [], 26, 0, false⟩
def coderSame : DC :=
 (.seq
  (.reg [⟨(.x 4), .mv (.c (.bool false)), none⟩])
  (.seq
   (.seq
    (.reg [⟨(.t 6), .mv (.x 0), none⟩,
      ⟨(.t 7), .len 1 (.t 6), none⟩,
      ⟨(.t 8), .mv (.x 1), none⟩,
      ⟨(.t 9), .len 1 (.t 8), none⟩,
      ⟨(.x 10), .bin .neq (.t 7) (.t 9), none⟩])
    (.cond (.x 10)
     (.seq
      (.reg [⟨(.x 4), .mv (.c (.bool false)), none⟩])
      .ret)
     .skip))
   (.seq
    (.seq
     (.reg [⟨(.x 5), .mv (.c (.int .i64 0)), none⟩])
     (.block 0
      (.loop
       (.seq
        (.seq
         (.reg [⟨(.t 11), .mv (.x 5), none⟩,
           ⟨(.t 12), .mv (.x 0), none⟩,
           ⟨(.t 13), .len 1 (.t 12), none⟩,
           ⟨(.x 14), .bin .lss (.t 11) (.t 13), none⟩])
         (.cond (.x 14)
          .skip
          (.exit 0)))
        (.seq
         (.block 1
          (.seq
           (.regd [⟨(.t 17), .mv (.x 0), none⟩,
             ⟨(.t 18), .mv (.x 5), none⟩,
             ⟨(.t 19), .iad 1 (.t 17) (.t 18), none⟩,
             ⟨(.t 20), .ld (.t 19), none⟩,
             ⟨(.t 21), .mv (.x 1), none⟩,
             ⟨(.t 22), .mv (.x 5), none⟩,
             ⟨(.t 23), .iad 1 (.t 21) (.t 22), none⟩,
             ⟨(.t 24), .ld (.t 23), none⟩,
             ⟨(.x 25), .bin .neq (.t 20) (.t 24), none⟩])
           (.cond (.x 25)
            (.seq
             (.reg [⟨(.x 4), .mv (.c (.bool false)), none⟩])
             .ret)
            .skip)))
         (.reg [⟨(.t 15), .mv (.x 5), none⟩,
           ⟨(.t 16), .bin .add (.t 15) (.c (.int .i64 1)), none⟩,
           ⟨(.x 5), .mv (.t 16), none⟩]))))))
    (.seq
     (.reg [⟨(.x 4), .mv (.c (.bool true)), none⟩])
     .ret))))
def resrSame : List RV := [.t 4]
theorem nbrSame : fnrSame.nb = 0 := rfl
theorem isrSame : IsFn fnrSame 38 coderSame resrSame := ⟨⟨Tryd.f38, _, Tryd.func38, rfl, rfl, by kernel_rfl, by kernel_rfl, by kernel_rfl⟩⟩

/-- robuststats/integer.Gcd -/
noncomputable def fniGcd : FnD := ⟨Tryd.prog, [0, 1, 2, 3, 4], [], 12, 0, false⟩
def codeiGcd : DC :=
 (.seq
  (.reg [⟨(.x 2), .box (.x 0), none⟩,
    ⟨(.x 3), .box (.x 1), none⟩,
    ⟨(.x 4), .mv (.c .nils), none⟩])
  (.seq
   (.regd [⟨(.t 5), .ldn 2 (.x 2), none⟩,
     ⟨(.t 6), .call 41 [(.t 5)], none⟩,
     ⟨(.t 7), .fld 1 (.t 6), none⟩,
     ⟨(.t 8), .ldn 2 (.x 3), none⟩,
     ⟨(.t 9), .call 41 [(.t 8)], none⟩,
     ⟨(.t 10), .fld 1 (.t 9), none⟩,
     ⟨(.t 11), .call 65 [(.t 7), (.t 10)], none⟩,
     ⟨(.x 4), .mv (.t 11), none⟩])
   .ret))
def resiGcd : List RV := [.t 4]
theorem nbiGcd : fniGcd.nb = 0 := rfl
theorem isiGcd : IsFn fniGcd 39 codeiGcd resiGcd := ⟨⟨Tryd.f39, _, Tryd.func39, rfl, rfl, by kernel_rfl, by kernel_rfl, by kernel_rfl⟩⟩

/-- robuststats/robuststatsref02.Gcd -/
noncomputable def fnsGcd : FnD := ⟨Tryd.prog, [0, 1, 2, 3, 4], [], 12, 0, false⟩
def codesGcd : DC :=
 (.seq
  (.reg [⟨(.x 2), .box (.x 0), none⟩,
    ⟨(.x 3), .box (.x 1), none⟩,
    ⟨(.x 4), .mv (.c .nils), none⟩])
  (.seq
   (.regd [⟨(.t 5), .ldn 2 (.x 2), none⟩,
     ⟨(.t 6), .call 48 [(.t 5)], none⟩,
     ⟨(.t 7), .fld 1 (.t 6), none⟩,
     ⟨(.t 8), .ldn 2 (.x 3), none⟩,
     ⟨(.t 9), .call 48 [(.t 8)], none⟩,
     ⟨(.t 10), .fld 1 (.t 9), none⟩,
     ⟨(.t 11), .call 66 [(.t 7), (.t 10)], none⟩,
     ⟨(.x 4), .mv (.t 11), none⟩])
   .ret))
def ressGcd : List RV := [.t 4]
theorem nbsGcd : fnsGcd.nb = 0 := rfl
theorem issGcd : IsFn fnsGcd 40 codesGcd ressGcd := ⟨⟨Tryd.f40, _, Tryd.func40, rfl, rfl, by kernel_rfl, by kernel_rfl, by kernel_rfl⟩⟩

/-- robuststats/integer.value -/
noncomputable def fni_value : FnD := ⟨Tryd.prog, [0, 1, 2, 4], [], 7, 0, false⟩
def codei_value : DC :=
 (.seq
  (.reg [⟨(.x 1), .box (.x 0), none⟩,
    ⟨(.x 2), .alloc [(.bool false), .nils], none⟩])
  (.seq
   (.seq
    (.reg [⟨(.t 3), .ldn 2 (.x 1), none⟩,
      ⟨(.x 4), .call 21 [(.t 3)], none⟩])
    (.cond (.x 4)
     (.seq
      (.reg [⟨(.t 5), .ldn 2 (.x 1), none⟩,
        ⟨.no, .stn 2 (.x 2) (.t 5), none⟩])
      .ret)
     .skip))
   (.seq
    (.reg [⟨(.t 6), .build [(.bool false), .nils] [], none⟩,
      ⟨.no, .stn 2 (.x 2) (.t 6), none⟩])
    .ret)))
def resi_value : List RV := [.cn 2 2]
theorem nbi_value : fni_value.nb = 0 := rfl
theorem isi_value : IsFn fni_value 41 codei_value resi_value := ⟨⟨Tryd.f41, _, Tryd.func41, rfl, rfl, by kernel_rfl, by kernel_rfl, by kernel_rfl⟩⟩

/-- robuststats/integer.signed -/
noncomputable def fni_signed : FnD := ⟨Tryd.prog, [0, 1, 4], [], 13, 0, false⟩
def codei_signed : DC :=
 (.seq
  (.reg [⟨(.x 4), .alloc [(.bool false), .nils], none⟩])
  (.seq
   (.reg [⟨(.t 5), .mv (.x 0), none⟩,
     ⟨(.t 6), .mv (.t 5), none⟩,
     ⟨(.t 7), .mv (.x 1), (some ((.t 6), true))⟩,
     ⟨(.t 8), .len 1 (.t 7), (some ((.t 6), true))⟩,
     ⟨(.t 9), .bin .gtr (.t 8) (.c (.int .i64 0)), (some ((.t 6), true))⟩,
     ⟨(.t 10), .pick (.t 6) (.t 9) (.c (.bool false)), none⟩,
     ⟨(.t 11), .mv (.x 1), none⟩,
     ⟨(.t 12), .build [(.bool false), .nils] [(0, 1, (.t 10)), (1, 1, (.t 11))], none⟩,
     ⟨.no, .stn 2 (.x 4) (.t 12), none⟩])
   .ret))
def resi_signed : List RV := [.cn 2 4]
theorem nbi_signed : fni_signed.nb = 0 := rfl
theorem isi_signed : IsFn fni_signed 42 codei_signed resi_signed := ⟨⟨Tryd.f42, _, Tryd.func42, rfl, rfl, by kernel_rfl, by kernel_rfl, by kernel_rfl⟩⟩

/-- robuststats/natural.Add -/
noncomputable def fnnAdd : FnD := ⟨Tryd.prog, [0, 1, 4, 5, 6, 7, 8, 9, 18, 25, 26, 27, 28, 35], [], 58, 0, false⟩
def codenAdd : DC :=
 (.seq
  (.reg [⟨(.x 4), .mv (.c .nils), none⟩])
  (.seq
   (.reg [⟨(.t 10), .mv (.x 0), none⟩,
     ⟨(.t 11), .call 67 [(.t 10)], none⟩,
     ⟨(.t 12), .mv (.x 1), none⟩,
     ⟨(.t 13), .call 67 [(.t 12)], none⟩,
     ⟨(.x 0), .mv (.t 11), none⟩,
     ⟨(.x 1), .mv (.t 13), none⟩])
   (.seq
    (.seq
     (.reg [⟨(.t 14), .mv (.x 0), none⟩,
       ⟨(.t 15), .len 1 (.t 14), none⟩,
       ⟨(.t 16), .mv (.x 1), none⟩,
       ⟨(.t 17), .len 1 (.t 16), none⟩,
       ⟨(.x 18), .bin .lss (.t 15) (.t 17), none⟩])
     (.cond (.x 18)
      (.reg [⟨(.t 19), .mv (.x 1), none⟩,
        ⟨(.t 20), .mv (.x 0), none⟩,
        ⟨(.x 0), .mv (.t 19), none⟩,
        ⟨(.x 1), .mv (.t 20), none⟩])
      .skip))
    (.seq
     (.reg [⟨(.t 21), .mv (.x 0), none⟩,
       ⟨(.t 22), .len 1 (.t 21), none⟩,
       ⟨(.t 23), .bin .add (.t 22) (.c (.int .i64 1)), none⟩,
       ⟨(.t 24), .mks 1 4 [(.int .u32 0)] (.t 23) (.t 23), none⟩,
       ⟨(.x 5), .mv (.t 24), none⟩])
     (.seq
      (.reg [⟨(.x 6), .mv (.c (.int .u32 0)), none⟩])
      (.seq
       (.seq
        (.reg [⟨(.x 25), .mv (.x 0), none⟩,
          ⟨(.x 26), .len 1 (.x 25), none⟩,
          ⟨(.x 27), .mv (.c (.int .i64 0)), none⟩])
        (.block 0
         (.loop
          (.seq
           (.reg [⟨(.x 28), .bin .lss (.x 27) (.x 26), none⟩])
           (.seq
            (.cond (.x 28)
             .skip
             (.exit 0))
            (.seq
             (.block 1
              (.seq
               (.reg [⟨(.t 29), .mv (.x 27), none⟩,
                 ⟨(.t 30), .iad 1 (.x 25) (.x 27), none⟩,
                 ⟨(.t 31), .ld (.t 30), none⟩,
                 ⟨(.x 7), .mv (.t 29), none⟩,
                 ⟨(.x 8), .mv (.t 31), none⟩])
               (.seq
                (.reg [⟨(.x 9), .mv (.c (.int .u32 0)), none⟩])
                (.seq
                 (.seq
                  (.reg [⟨(.t 32), .mv (.x 7), none⟩,
                    ⟨(.t 33), .mv (.x 1), none⟩,
                    ⟨(.t 34), .len 1 (.t 33), none⟩,
                    ⟨(.x 35), .bin .lss (.t 32) (.t 34), none⟩])
                  (.cond (.x 35)
                   (.reg [⟨(.t 36), .mv (.x 1), none⟩,
                     ⟨(.t 37), .mv (.x 7), none⟩,
                     ⟨(.t 38), .iad 1 (.t 36) (.t 37), none⟩,
                     ⟨(.t 39), .ld (.t 38), none⟩,
                     ⟨(.x 9), .mv (.t 39), none⟩])
                   .skip))
                 (.reg [⟨(.t 41), .mv (.x 5), none⟩,
                   ⟨(.t 42), .mv (.x 7), none⟩,
                   ⟨(.t 43), .mv (.x 8), none⟩,
                   ⟨(.t 44), .mv (.x 9), none⟩,
                   ⟨(.t 45), .mv (.x 6), none⟩,
                   ⟨(.t 46), .call 68 [(.t 43), (.t 44), (.t 45)], none⟩,
                   ⟨(.t 40), .mv (.t 46), none⟩,
                   ⟨(.t 47), .ext (.t 40) 0, none⟩,
                   ⟨(.t 48), .ext (.t 40) 1, none⟩,
                   ⟨(.t 49), .iad 1 (.t 41) (.t 42), none⟩,
                   ⟨.no, .st (.t 49) (.t 47), none⟩,
                   ⟨(.x 6), .mv (.t 48), none⟩])))))
             (.reg [⟨(.t 50), .bin .add (.x 27) (.c (.int .i64 1)), none⟩,
               ⟨(.x 27), .mv (.t 50), none⟩])))))))
       (.seq
        (.reg [⟨(.t 51), .mv (.x 5), none⟩,
          ⟨(.t 52), .mv (.x 0), none⟩,
          ⟨(.t 53), .len 1 (.t 52), none⟩,
          ⟨(.t 54), .mv (.x 6), none⟩,
          ⟨(.t 55), .iad 1 (.t 51) (.t 53), none⟩,
          ⟨.no, .st (.t 55) (.t 54), none⟩])
        (.seq
         (.reg [⟨(.t 56), .mv (.x 5), none⟩,
           ⟨(.t 57), .call 69 [(.t 56)], none⟩,
           ⟨(.x 4), .mv (.t 57), none⟩])
         .ret))))))))
def resnAdd : List RV := [.t 4]
theorem nbnAdd : fnnAdd.nb = 0 := rfl
theorem isnAdd : IsFn fnnAdd 43 codenAdd resnAdd := ⟨⟨Tryd.f43, _, Tryd.func43, rfl, rfl, by kernel_rfl, by kernel_rfl, by kernel_rfl⟩⟩

/-- robuststats/natural.Sub -/
noncomputable def fnnSub : FnD := ⟨Tryd.prog, [0, 1, 4, 5, 6, 7, 8, 9, 10, 18, 22, 23, 24, 25, 32], [], 50, 0, false⟩
def codenSub : DC :=
 (.seq
  (.reg [⟨(.x 4), .mv (.c .nils), none⟩,
    ⟨(.x 5), .mv (.c (.bool false)), none⟩])
  (.seq
   (.reg [⟨(.t 11), .mv (.x 0), none⟩,
     ⟨(.t 12), .call 67 [(.t 11)], none⟩,
     ⟨(.t 13), .mv (.x 1), none⟩,
     ⟨(.t 14), .call 67 [(.t 13)], none⟩,
     ⟨(.x 0), .mv (.t 12), none⟩,
     ⟨(.x 1), .mv (.t 14), none⟩])
   (.seq
    (.seq
     (.reg [⟨(.t 15), .mv (.x 0), none⟩,
       ⟨(.t 16), .mv (.x 1), none⟩,
       ⟨(.t 17), .call 56 [(.t 15), (.t 16)], none⟩,
       ⟨(.x 18), .bin .lss (.t 17) (.c (.int .i64 0)), none⟩])
     (.cond (.x 18)
      (.seq
       (.reg [⟨(.x 4), .mv (.c .nils), none⟩,
         ⟨(.x 5), .mv (.c (.bool false)), none⟩])
       .ret)
      .skip))
    (.seq
     (.reg [⟨(.t 19), .mv (.x 0), none⟩,
       ⟨(.t 20), .len 1 (.t 19), none⟩,
       ⟨(.t 21), .mks 1 4 [(.int .u32 0)] (.t 20) (.t 20), none⟩,
       ⟨(.x 6), .mv (.t 21), none⟩])
     (.seq
      (.reg [⟨(.x 7), .mv (.c (.int .u32 0)), none⟩])
      (.seq
       (.seq
        (.reg [⟨(.x 22), .mv (.x 0), none⟩,
          ⟨(.x 23), .len 1 (.x 22), none⟩,
          ⟨(.x 24), .mv (.c (.int .i64 0)), none⟩])
        (.block 0
         (.loop
          (.seq
           (.reg [⟨(.x 25), .bin .lss (.x 24) (.x 23), none⟩])
           (.seq
            (.cond (.x 25)
             .skip
             (.exit 0))
            (.seq
             (.block 1
              (.seq
               (.reg [⟨(.t 26), .mv (.x 24), none⟩,
                 ⟨(.t 27), .iad 1 (.x 22) (.x 24), none⟩,
                 ⟨(.t 28), .ld (.t 27), none⟩,
                 ⟨(.x 8), .mv (.t 26), none⟩,
                 ⟨(.x 9), .mv (.t 28), none⟩])
               (.seq
                (.reg [⟨(.x 10), .mv (.c (.int .u32 0)), none⟩])
                (.seq
                 (.seq
                  (.reg [⟨(.t 29), .mv (.x 8), none⟩,
                    ⟨(.t 30), .mv (.x 1), none⟩,
                    ⟨(.t 31), .len 1 (.t 30), none⟩,
                    ⟨(.x 32), .bin .lss (.t 29) (.t 31), none⟩])
                  (.cond (.x 32)
                   (.reg [⟨(.t 33), .mv (.x 1), none⟩,
                     ⟨(.t 34), .mv (.x 8), none⟩,
                     ⟨(.t 35), .iad 1 (.t 33) (.t 34), none⟩,
                     ⟨(.t 36), .ld (.t 35), none⟩,
                     ⟨(.x 10), .mv (.t 36), none⟩])
                   .skip))
                 (.reg [⟨(.t 38), .mv (.x 6), none⟩,
                   ⟨(.t 39), .mv (.x 8), none⟩,
                   ⟨(.t 40), .mv (.x 9), none⟩,
                   ⟨(.t 41), .mv (.x 10), none⟩,
                   ⟨(.t 42), .mv (.x 7), none⟩,
                   ⟨(.t 43), .call 70 [(.t 40), (.t 41), (.t 42)], none⟩,
                   ⟨(.t 37), .mv (.t 43), none⟩,
                   ⟨(.t 44), .ext (.t 37) 0, none⟩,
                   ⟨(.t 45), .ext (.t 37) 1, none⟩,
                   ⟨(.t 46), .iad 1 (.t 38) (.t 39), none⟩,
                   ⟨.no, .st (.t 46) (.t 44), none⟩,
                   ⟨(.x 7), .mv (.t 45), none⟩])))))
             (.reg [⟨(.t 47), .bin .add (.x 24) (.c (.int .i64 1)), none⟩,
               ⟨(.x 24), .mv (.t 47), none⟩])))))))
       (.seq
        (.reg [⟨(.t 48), .mv (.x 6), none⟩,
          ⟨(.t 49), .call 69 [(.t 48)], none⟩,
          ⟨(.x 4), .mv (.t 49), none⟩,
          ⟨(.x 5), .mv (.c (.bool true)), none⟩])
        .ret)))))))
def resnSub : List RV := [.t 4, .t 5]
theorem nbnSub : fnnSub.nb = 0 := rfl
theorem isnSub : IsFn fnnSub 44 codenSub resnSub := ⟨⟨Tryd.f44, _, Tryd.func44, rfl, rfl, by kernel_rfl, by kernel_rfl, by kernel_rfl⟩⟩

/-- robuststats/natural.Mul -/
noncomputable def fnnMul : FnD := ⟨Tryd.prog, [0, 1, 4, 5, 6, 7, 8, 9, 10, 21, 22, 23, 24, 28, 29, 30, 31], [], 71, 0, false⟩
def codenMul : DC :=
 (.seq
  (.reg [⟨(.x 4), .mv (.c .nils), none⟩])
  (.seq
   (.reg [⟨(.t 11), .mv (.x 0), none⟩,
     ⟨(.t 12), .call 67 [(.t 11)], none⟩,
     ⟨(.t 13), .mv (.x 1), none⟩,
     ⟨(.t 14), .call 67 [(.t 13)], none⟩,
     ⟨(.x 0), .mv (.t 12), none⟩,
     ⟨(.x 1), .mv (.t 14), none⟩])
   (.seq
    (.reg [⟨(.t 15), .mv (.x 0), none⟩,
      ⟨(.t 16), .len 1 (.t 15), none⟩,
      ⟨(.t 17), .mv (.x 1), none⟩,
      ⟨(.t 18), .len 1 (.t 17), none⟩,
      ⟨(.t 19), .bin .add (.t 16) (.t 18), none⟩,
      ⟨(.t 20), .mks 1 4 [(.int .u32 0)] (.t 19) (.t 19), none⟩,
      ⟨(.x 5), .mv (.t 20), none⟩])
    (.seq
     (.seq
      (.reg [⟨(.x 21), .mv (.x 0), none⟩,
        ⟨(.x 22), .len 1 (.x 21), none⟩,
        ⟨(.x 23), .mv (.c (.int .i64 0)), none⟩])
      (.block 0
       (.loop
        (.seq
         (.reg [⟨(.x 24), .bin .lss (.x 23) (.x 22), none⟩])
         (.seq
          (.cond (.x 24)
           .skip
           (.exit 0))
          (.seq
           (.block 1
            (.seq
             (.reg [⟨(.t 25), .mv (.x 23), none⟩,
               ⟨(.t 26), .iad 1 (.x 21) (.x 23), none⟩,
               ⟨(.t 27), .ld (.t 26), none⟩,
               ⟨(.x 6), .mv (.t 25), none⟩,
               ⟨(.x 7), .mv (.t 27), none⟩])
             (.seq
              (.reg [⟨(.x 8), .mv (.c (.int .u64 0)), none⟩])
              (.seq
               (.seq
                (.reg [⟨(.x 28), .mv (.x 1), none⟩,
                  ⟨(.x 29), .len 1 (.x 28), none⟩,
                  ⟨(.x 30), .mv (.c (.int .i64 0)), none⟩])
                (.block 2
                 (.loop
                  (.seq
                   (.reg [⟨(.x 31), .bin .lss (.x 30) (.x 29), none⟩])
                   (.seq
                    (.cond (.x 31)
                     .skip
                     (.exit 2))
                    (.seq
                     (.block 3
                      (.seq
                       (.reg [⟨(.t 32), .mv (.x 30), none⟩,
                         ⟨(.t 33), .iad 1 (.x 28) (.x 30), none⟩,
                         ⟨(.t 34), .ld (.t 33), none⟩,
                         ⟨(.x 9), .mv (.t 32), none⟩,
                         ⟨(.x 10), .mv (.t 34), none⟩])
                       (.seq
                        (.reg [⟨(.t 35), .mv (.x 8), none⟩,
                          ⟨(.t 36), .mv (.x 7), none⟩,
                          ⟨(.t 37), .conv .u64 (.t 36), none⟩,
                          ⟨(.t 38), .mv (.x 10), none⟩,
                          ⟨(.t 39), .conv .u64 (.t 38), none⟩,
                          ⟨(.t 40), .bin .mul (.t 37) (.t 39), none⟩,
                          ⟨(.t 41), .mv (.x 5), none⟩,
                          ⟨(.t 42), .mv (.x 6), none⟩,
                          ⟨(.t 43), .mv (.x 9), none⟩,
                          ⟨(.t 44), .bin .add (.t 42) (.t 43), none⟩,
                          ⟨(.t 45), .iad 1 (.t 41) (.t 44), none⟩,
                          ⟨(.t 46), .ld (.t 45), none⟩,
                          ⟨(.t 47), .conv .u64 (.t 46), none⟩,
                          ⟨(.t 48), .bin .add (.t 40) (.t 47), none⟩,
                          ⟨(.t 49), .bin .add (.t 35) (.t 48), none⟩,
                          ⟨(.x 8), .mv (.t 49), none⟩])
                        (.seq
                         (.reg [⟨(.t 50), .mv (.x 5), none⟩,
                           ⟨(.t 51), .mv (.x 6), none⟩,
                           ⟨(.t 52), .mv (.x 9), none⟩,
                           ⟨(.t 53), .bin .add (.t 51) (.t 52), none⟩,
                           ⟨(.t 54), .mv (.x 8), none⟩,
                           ⟨(.t 55), .conv .u32 (.t 54), none⟩,
                           ⟨(.t 56), .iad 1 (.t 50) (.t 53), none⟩,
                           ⟨.no, .st (.t 56) (.t 55), none⟩])
                         (.reg [⟨(.t 57), .mv (.x 8), none⟩,
                           ⟨(.t 58), .bin .shr (.t 57) (.c (.int .u64 32)), none⟩,
                           ⟨(.x 8), .mv (.t 58), none⟩])))))
                     (.reg [⟨(.t 59), .bin .add (.x 30) (.c (.int .i64 1)), none⟩,
                       ⟨(.x 30), .mv (.t 59), none⟩])))))))
               (.reg [⟨(.t 60), .mv (.x 5), none⟩,
                 ⟨(.t 61), .mv (.x 6), none⟩,
                 ⟨(.t 62), .mv (.x 1), none⟩,
                 ⟨(.t 63), .len 1 (.t 62), none⟩,
                 ⟨(.t 64), .bin .add (.t 61) (.t 63), none⟩,
                 ⟨(.t 65), .mv (.x 8), none⟩,
                 ⟨(.t 66), .conv .u32 (.t 65), none⟩,
                 ⟨(.t 67), .iad 1 (.t 60) (.t 64), none⟩,
                 ⟨.no, .st (.t 67) (.t 66), none⟩])))))
           (.reg [⟨(.t 68), .bin .add (.x 23) (.c (.int .i64 1)), none⟩,
             ⟨(.x 23), .mv (.t 68), none⟩])))))))
     (.seq
      (.reg [⟨(.t 69), .mv (.x 5), none⟩,
        ⟨(.t 70), .call 69 [(.t 69)], none⟩,
        ⟨(.x 4), .mv (.t 70), none⟩])
      .ret)))))
def resnMul : List RV := [.t 4]
theorem nbnMul : fnnMul.nb = 0 := rfl
theorem isnMul : IsFn fnnMul 45 codenMul resnMul := ⟨⟨Tryd.f45, _, Tryd.func45, rfl, rfl, by kernel_rfl, by kernel_rfl, by kernel_rfl⟩⟩

/-- robuststats/integer.copied -/
noncomputable def fni_copied : FnD := ⟨Tryd.prog, [0, 1, 2], [], 9, 0, false⟩
def codei_copied : DC :=
 (.seq
  (.reg [⟨(.x 1), .box (.x 0), none⟩,
    ⟨(.x 2), .alloc [(.bool false), .nils], none⟩])
  (.seq
   (.regd [⟨(.t 3), .fad 0 (.x 1), none⟩,
     ⟨(.t 4), .ld (.t 3), none⟩,
     ⟨(.t 5), .fad 1 (.x 1), none⟩,
     ⟨(.t 6), .ld (.t 5), none⟩,
     ⟨(.t 7), .call 43 [(.t 6), (.c .nils)], none⟩,
     ⟨(.t 8), .call 42 [(.t 4), (.t 7)], none⟩,
     ⟨.no, .stn 2 (.x 2) (.t 8), none⟩])
   .ret))
def resi_copied : List RV := [.cn 2 2]
theorem nbi_copied : fni_copied.nb = 0 := rfl
theorem isi_copied : IsFn fni_copied 46 codei_copied resi_copied := ⟨⟨Tryd.f46, _, Tryd.func46, rfl, rfl, by kernel_rfl, by kernel_rfl, by kernel_rfl⟩⟩

/-- robuststats/natural.Uint -/
noncomputable def fnnUint : FnD := ⟨Tryd.prog, [0, 2, 3, 4, 5, 10, 11, 12, 13, 14], [], 27, 0, false⟩
def codenUint : DC :=
 (.seq
  (.reg [⟨(.x 2), .mv (.c (.int .u64 0)), none⟩,
    ⟨(.x 3), .mv (.c (.bool false)), none⟩])
  (.seq
   (.reg [⟨(.t 6), .mv (.x 0), none⟩,
     ⟨(.t 7), .call 67 [(.t 6)], none⟩,
     ⟨(.x 0), .mv (.t 7), none⟩])
   (.seq
    (.seq
     (.reg [⟨(.t 8), .mv (.x 0), none⟩,
       ⟨(.t 9), .len 1 (.t 8), none⟩,
       ⟨(.x 10), .bin .gtr (.t 9) (.c (.int .i64 2)), none⟩])
     (.cond (.x 10)
      (.seq
       (.reg [⟨(.x 2), .mv (.c (.int .u64 0)), none⟩,
         ⟨(.x 3), .mv (.c (.bool false)), none⟩])
       .ret)
      .skip))
    (.seq
     (.seq
      (.reg [⟨(.x 11), .mv (.x 0), none⟩,
        ⟨(.x 12), .len 1 (.x 11), none⟩,
        ⟨(.x 13), .mv (.c (.int .i64 0)), none⟩])
      (.block 0
       (.loop
        (.seq
         (.reg [⟨(.x 14), .bin .lss (.x 13) (.x 12), none⟩])
         (.seq
          (.cond (.x 14)
           .skip
           (.exit 0))
          (.seq
           (.block 1
            (.seq
             (.reg [⟨(.t 15), .mv (.x 13), none⟩,
               ⟨(.t 16), .iad 1 (.x 11) (.x 13), none⟩,
               ⟨(.t 17), .ld (.t 16), none⟩,
               ⟨(.x 4), .mv (.t 15), none⟩,
               ⟨(.x 5), .mv (.t 17), none⟩])
             (.reg [⟨(.t 18), .mv (.x 2), none⟩,
               ⟨(.t 19), .mv (.x 5), none⟩,
               ⟨(.t 20), .conv .u64 (.t 19), none⟩,
               ⟨(.t 21), .mv (.x 4), none⟩,
               ⟨(.t 22), .bin .mul (.c (.int .i64 32)) (.t 21), none⟩,
               ⟨(.t 23), .bin .shl (.t 20) (.t 22), none⟩,
               ⟨(.t 24), .bin .or (.t 18) (.t 23), none⟩,
               ⟨(.x 2), .mv (.t 24), none⟩])))
           (.reg [⟨(.t 25), .bin .add (.x 13) (.c (.int .i64 1)), none⟩,
             ⟨(.x 13), .mv (.t 25), none⟩])))))))
     (.seq
      (.reg [⟨(.t 26), .mv (.x 2), none⟩,
        ⟨(.x 2), .mv (.t 26), none⟩,
        ⟨(.x 3), .mv (.c (.bool true)), none⟩])
      .ret)))))
def resnUint : List RV := [.t 2, .t 3]
theorem nbnUint : fnnUint.nb = 0 := rfl
theorem isnUint : IsFn fnnUint 47 codenUint resnUint := ⟨⟨Tryd.f47, _, Tryd.func47, rfl, rfl, by kernel_rfl, by kernel_rfl, by kernel_rfl⟩⟩

/-- robuststats/robuststatsref02.Take -/
noncomputable def fnsTake : FnD := ⟨Tryd.prog, [0, 1, 2, 5], [], 13, 0, false⟩
def codesTake : DC :=
 (.seq
  (.reg [⟨(.x 1), .box (.x 0), none⟩,
    ⟨(.x 2), .alloc [(.bool false), .nils], none⟩])
  (.seq
   (.seq
    (.reg [⟨(.t 3), .ldn 2 (.x 1), none⟩,
      ⟨(.t 4), .call 22 [(.t 3)], none⟩,
      ⟨(.x 5), .un .not (.t 4), none⟩])
    (.cond (.x 5)
     (.seq
      (.reg [⟨(.t 6), .build [(.bool false), .nils] [], none⟩,
        ⟨.no, .stn 2 (.x 2) (.t 6), none⟩])
      .ret)
     .skip))
   (.seq
    (.regd [⟨(.t 7), .fad 0 (.x 1), none⟩,
      ⟨(.t 8), .ld (.t 7), none⟩,
      ⟨(.t 9), .fad 1 (.x 1), none⟩,
      ⟨(.t 10), .ld (.t 9), none⟩,
      ⟨(.t 11), .call 71 [(.t 10)], none⟩,
      ⟨(.t 12), .build [(.bool false), .nils] [(0, 1, (.t 8)), (1, 1, (.t 11))], none⟩,
      ⟨.no, .stn 2 (.x 2) (.t 12), none⟩])
    .ret)))
def ressTake : List RV := [.cn 2 2]
theorem nbsTake : fnsTake.nb = 0 := rfl
theorem issTake : IsFn fnsTake 48 codesTake ressTake := ⟨⟨Tryd.f48, _, Tryd.func48, rfl, rfl, by kernel_rfl, by kernel_rfl, by kernel_rfl⟩⟩

/-- robuststats/robuststatsref01.Uint -/
noncomputable def fnrUint : FnD := ⟨Tryd.prog, [0, 2, 3, 4, 5, 10, 15], [], 27, 0, false⟩
def coderUint : DC :=
 (.seq
  (.reg [⟨(.x 2), .mv (.c (.int .u64 0)), none⟩,
    ⟨(.x 3), .mv (.c (.bool false)), none⟩])
  (.seq
   (.reg [⟨(.t 6), .mv (.x 0), none⟩,
     ⟨(.t 7), .call 71 [(.t 6)], none⟩,
     ⟨(.x 0), .mv (.t 7), none⟩])
   (.seq
    (.seq
     (.reg [⟨(.t 8), .mv (.x 0), none⟩,
       ⟨(.t 9), .len 1 (.t 8), none⟩,
       ⟨(.x 10), .bin .gtr (.t 9) (.c (.int .i64 2)), none⟩])
     (.cond (.x 10)
      (.seq
       (.reg [⟨(.x 2), .mv (.c (.int .u64 0)), none⟩,
         ⟨(.x 3), .mv (.c (.bool false)), none⟩])
       .ret)
      .skip))
    (.seq
     (.reg [⟨(.x 4), .mv (.c (.int .u64 0)), none⟩])
     (.seq
      (.seq
       (.reg [⟨(.t 11), .mv (.x 0), none⟩,
         ⟨(.t 12), .len 1 (.t 11), none⟩,
         ⟨(.t 13), .bin .sub (.t 12) (.c (.int .i64 1)), none⟩,
         ⟨(.x 5), .mv (.t 13), none⟩])
       (.block 0
        (.loop
         (.seq
          (.seq
           (.reg [⟨(.t 14), .mv (.x 5), none⟩,
             ⟨(.x 15), .bin .geq (.t 14) (.c (.int .i64 0)), none⟩])
           (.cond (.x 15)
            .skip
            (.exit 0)))
          (.seq
           (.block 1
            (.reg [⟨(.t 18), .mv (.x 4), none⟩,
              ⟨(.t 19), .bin .shl (.t 18) (.c (.int .u64 32)), none⟩,
              ⟨(.t 20), .mv (.x 0), none⟩,
              ⟨(.t 21), .mv (.x 5), none⟩,
              ⟨(.t 22), .iad 1 (.t 20) (.t 21), none⟩,
              ⟨(.t 23), .ld (.t 22), none⟩,
              ⟨(.t 24), .conv .u64 (.t 23), none⟩,
              ⟨(.t 25), .bin .or (.t 19) (.t 24), none⟩,
              ⟨(.x 4), .mv (.t 25), none⟩]))
           (.reg [⟨(.t 16), .mv (.x 5), none⟩,
             ⟨(.t 17), .bin .sub (.t 16) (.c (.int .i64 1)), none⟩,
             ⟨(.x 5), .mv (.t 17), none⟩]))))))
      (.seq
       (.reg [⟨(.t 26), .mv (.x 4), none⟩,
         ⟨(.x 2), .mv (.t 26), none⟩,
         ⟨(.x 3), .mv (.c (.bool true)), none⟩])
       .ret))))))
def resrUint : List RV := [.t 2, .t 3]
theorem nbrUint : fnrUint.nb = 0 := rfl
theorem isrUint : IsFn fnrUint 49 coderUint resrUint := ⟨⟨Tryd.f49, _, Tryd.func49, rfl, rfl, by kernel_rfl, by kernel_rfl, by kernel_rfl⟩⟩

/-- robuststats/natural.Valid -/
noncomputable def fnnValid : FnD := ⟨Tryd.prog, [0, 2], [], 15, 0, false⟩
def codenValid : DC :=
 (.seq
  (.reg [⟨(.x 2), .mv (.c (.bool false)), none⟩])
  (.seq
   (.reg [⟨(.t 3), .mv (.x 0), none⟩,
     ⟨(.t 4), .len 1 (.t 3), none⟩,
     ⟨(.t 5), .bin .eql (.t 4) (.c (.int .i64 0)), none⟩,
     ⟨(.t 6), .mv (.t 5), none⟩,
     ⟨(.t 7), .mv (.x 0), (some ((.t 6), false))⟩,
     ⟨(.t 8), .mv (.x 0), (some ((.t 6), false))⟩,
     ⟨(.t 9), .len 1 (.t 8), (some ((.t 6), false))⟩,
     ⟨(.t 10), .bin .sub (.t 9) (.c (.int .i64 1)), (some ((.t 6), false))⟩,
     ⟨(.t 11), .iad 1 (.t 7) (.t 10), (some ((.t 6), false))⟩,
     ⟨(.t 12), .ld (.t 11), (some ((.t 6), false))⟩,
     ⟨(.t 13), .bin .neq (.t 12) (.c (.int .u32 0)), (some ((.t 6), false))⟩,
     ⟨(.t 14), .pick (.t 6) (.c (.bool true)) (.t 13), none⟩,
     ⟨(.x 2), .mv (.t 14), none⟩])
   .ret))
def resnValid : List RV := [.t 2]
theorem nbnValid : fnnValid.nb = 0 := rfl
theorem isnValid : IsFn fnnValid 50 codenValid resnValid := ⟨⟨Tryd.f50, _, Tryd.func50, rfl, rfl, by kernel_rfl, by kernel_rfl, by kernel_rfl⟩⟩

/-- robuststats/robuststatsref01.Valid -/
noncomputable def fnrValid : FnD := ⟨Tryd.prog, [0, 2], [], 15, 0, false⟩
def coderValid : DC :=
 (.seq
  (.reg [⟨(.x 2), .mv (.c (.bool false)), none⟩])
  (.seq
   (.reg [⟨(.t 3), .mv (.x 0), none⟩,
     ⟨(.t 4), .len 1 (.t 3), none⟩,
     ⟨(.t 5), .bin .eql (.t 4) (.c (.int .i64 0)), none⟩,
     ⟨(.t 6), .mv (.t 5), none⟩,
     ⟨(.t 7), .mv (.x 0), (some ((.t 6), false))⟩,
     ⟨(.t 8), .mv (.x 0), (some ((.t 6), false))⟩,
     ⟨(.t 9), .len 1 (.t 8), (some ((.t 6), false))⟩,
     ⟨(.t 10), .bin .sub (.t 9) (.c (.int .i64 1)), (some ((.t 6), false))⟩,
     ⟨(.t 11), .iad 1 (.t 7) (.t 10), (some ((.t 6), false))⟩,
     ⟨(.t 12), .ld (.t 11), (some ((.t 6), false))⟩,
     ⟨(.t 13), .bin .neq (.t 12) (.c (.int .u32 0)), (some ((.t 6), false))⟩,
     ⟨(.t 14), .pick (.t 6) (.c (.bool true)) (.t 13), none⟩,
     ⟨(.x 2), .mv (.t 14), none⟩])
   .ret))
def resrValid : List RV := [.t 2]
theorem nbrValid : fnrValid.nb = 0 := rfl
theorem isrValid : IsFn fnrValid 51 coderValid resrValid := ⟨⟨Tryd.f51, _, Tryd.func51, rfl, rfl, by kernel_rfl, by kernel_rfl, by kernel_rfl⟩⟩

/-- robuststats/natural.FromUint -/
noncomputable def fnnFromUint : FnD := ⟨Tryd.prog, [0, 2], [], 10, 0, false⟩
def codenFromUint : DC :=
 (.seq
  (.reg [⟨(.x 2), .mv (.c .nils), none⟩])
  (.seq
   (.reg [⟨(.t 3), .mv (.x 0), none⟩,
     ⟨(.t 4), .conv .u32 (.t 3), none⟩,
     ⟨(.t 5), .mv (.x 0), none⟩,
     ⟨(.t 6), .bin .shr (.t 5) (.c (.int .u64 32)), none⟩,
     ⟨(.t 7), .conv .u32 (.t 6), none⟩,
     ⟨(.t 8), .bsl 1 [(.int .u32 0), (.int .u32 0)] [(0, 1, (.t 4)), (1, 1, (.t 7))], none⟩,
     ⟨(.t 9), .call 69 [(.t 8)], none⟩,
     ⟨(.x 2), .mv (.t 9), none⟩])
   .ret))
def resnFromUint : List RV := [.t 2]
theorem nbnFromUint : fnnFromUint.nb = 0 := rfl
theorem isnFromUint : IsFn fnnFromUint 52 codenFromUint resnFromUint := ⟨⟨Tryd.f52, _, Tryd.func52, rfl, rfl, by kernel_rfl, by kernel_rfl, by kernel_rfl⟩⟩

/-- robuststats/robuststatsref02.signed -/
noncomputable def fns_signed : FnD := ⟨Tryd.prog, [0, 1, 4], [], 13, 0, false⟩
def codes_signed : DC :=
 (.seq
  (.reg [⟨(.x 4), .alloc [(.bool false), .nils], none⟩])
  (.seq
   (.reg [⟨(.t 5), .mv (.x 0), none⟩,
     ⟨(.t 6), .mv (.t 5), none⟩,
     ⟨(.t 7), .mv (.x 1), (some ((.t 6), true))⟩,
     ⟨(.t 8), .len 1 (.t 7), (some ((.t 6), true))⟩,
     ⟨(.t 9), .bin .gtr (.t 8) (.c (.int .i64 0)), (some ((.t 6), true))⟩,
     ⟨(.t 10), .pick (.t 6) (.t 9) (.c (.bool false)), none⟩,
     ⟨(.t 11), .mv (.x 1), none⟩,
     ⟨(.t 12), .build [(.bool false), .nils] [(0, 1, (.t 10)), (1, 1, (.t 11))], none⟩,
     ⟨.no, .stn 2 (.x 4) (.t 12), none⟩])
   .ret))
def ress_signed : List RV := [.cn 2 4]
theorem nbs_signed : fns_signed.nb = 0 := rfl
theorem iss_signed : IsFn fns_signed 53 codes_signed ress_signed := ⟨⟨Tryd.f53, _, Tryd.func53, rfl, rfl, by kernel_rfl, by kernel_rfl, by kernel_rfl⟩⟩

/-- robuststats/robuststatsref01.Add -/
noncomputable def fnrAdd : FnD := ⟨Tryd.prog, [0, 1, 4, 5, 6, 7, 8, 19], [], 40, 0, false⟩
def coderAdd : DC :=
 (.seq
  (.reg [⟨(.x 4), .mv (.c .nils), none⟩])
  (.seq
   (.reg [⟨(.t 9), .mv (.x 0), none⟩,
     ⟨(.t 10), .call 71 [(.t 9)], none⟩,
     ⟨(.t 11), .mv (.x 1), none⟩,
     ⟨(.t 12), .call 71 [(.t 11)], none⟩,
     ⟨(.x 0), .mv (.t 10), none⟩,
     ⟨(.x 1), .mv (.t 12), none⟩])
   (.seq
    (.reg [⟨(.x 5), .mv (.c .nils), none⟩])
    (.seq
     (.reg [⟨(.x 6), .mv (.c (.int .u64 0)), none⟩])
     (.seq
      (.seq
       (.reg [⟨(.x 7), .mv (.c (.int .i64 0)), none⟩])
       (.block 0
        (.loop
         (.seq
          (.seq
           (.reg [⟨(.t 13), .mv (.x 7), none⟩,
             ⟨(.t 14), .mv (.x 0), none⟩,
             ⟨(.t 15), .len 1 (.t 14), none⟩,
             ⟨(.t 16), .mv (.x 1), none⟩,
             ⟨(.t 17), .len 1 (.t 16), none⟩,
             ⟨(.t 18), .max2 (.t 15) (.t 17), none⟩,
             ⟨(.x 19), .bin .leq (.t 13) (.t 18), none⟩])
           (.cond (.x 19)
            .skip
            (.exit 0)))
          (.seq
           (.block 1
            (.seq
             (.reg [⟨(.t 22), .mv (.x 0), none⟩,
               ⟨(.t 23), .mv (.x 7), none⟩,
               ⟨(.t 24), .call 72 [(.t 22), (.t 23)], none⟩,
               ⟨(.t 25), .mv (.x 1), none⟩,
               ⟨(.t 26), .mv (.x 7), none⟩,
               ⟨(.t 27), .call 72 [(.t 25), (.t 26)], none⟩,
               ⟨(.t 28), .bin .add (.t 24) (.t 27), none⟩,
               ⟨(.t 29), .mv (.x 6), none⟩,
               ⟨(.t 30), .bin .add (.t 28) (.t 29), none⟩,
               ⟨(.x 8), .mv (.t 30), none⟩])
             (.reg [⟨(.t 31), .mv (.x 5), none⟩,
               ⟨(.t 32), .mv (.x 8), none⟩,
               ⟨(.t 33), .conv .u32 (.t 32), none⟩,
               ⟨(.t 34), .bsl 1 [(.int .u32 0)] [(0, 1, (.t 33))], none⟩,
               ⟨(.t 35), .app 1 4 (.t 31) (.t 34), none⟩,
               ⟨(.t 36), .mv (.x 8), none⟩,
               ⟨(.t 37), .bin .shr (.t 36) (.c (.int .u64 32)), none⟩,
               ⟨(.x 5), .mv (.t 35), none⟩,
               ⟨(.x 6), .mv (.t 37), none⟩])))
           (.reg [⟨(.t 20), .mv (.x 7), none⟩,
             ⟨(.t 21), .bin .add (.t 20) (.c (.int .i64 1)), none⟩,
             ⟨(.x 7), .mv (.t 21), none⟩]))))))
      (.seq
       (.reg [⟨(.t 38), .mv (.x 5), none⟩,
         ⟨(.t 39), .call 73 [(.t 38)], none⟩,
         ⟨(.x 4), .mv (.t 39), none⟩])
       .ret))))))
def resrAdd : List RV := [.t 4]
theorem nbrAdd : fnrAdd.nb = 0 := rfl
theorem isrAdd : IsFn fnrAdd 54 coderAdd resrAdd := ⟨⟨Tryd.f54, _, Tryd.func54, rfl, rfl, by kernel_rfl, by kernel_rfl, by kernel_rfl⟩⟩

/-- robuststats/robuststatsref01.FromUint -/
noncomputable def fnrFromUint : FnD := ⟨Tryd.prog, [0, 2], [], 10, 0, false⟩
def coderFromUint : DC :=
 (.seq
  (.reg [⟨(.x 2), .mv (.c .nils), none⟩])
  (.seq
   (.reg [⟨(.t 3), .mv (.x 0), none⟩,
     ⟨(.t 4), .conv .u32 (.t 3), none⟩,
     ⟨(.t 5), .mv (.x 0), none⟩,
     ⟨(.t 6), .bin .shr (.t 5) (.c (.int .u64 32)), none⟩,
     ⟨(.t 7), .conv .u32 (.t 6), none⟩,
     ⟨(.t 8), .bsl 1 [(.int .u32 0), (.int .u32 0)] [(0, 1, (.t 4)), (1, 1, (.t 7))], none⟩,
     ⟨(.t 9), .call 73 [(.t 8)], none⟩,
     ⟨(.x 2), .mv (.t 9), none⟩])
   .ret))
def resrFromUint : List RV := [.t 2]
theorem nbrFromUint : fnrFromUint.nb = 0 := rfl
theorem isrFromUint : IsFn fnrFromUint 55 coderFromUint resrFromUint := ⟨⟨Tryd.f55, _, Tryd.func55, rfl, rfl, by kernel_rfl, by kernel_rfl, by kernel_rfl⟩⟩

/-- robuststats/natural.Compare -/
noncomputable def fnnCmp : FnD := ⟨Tryd.prog, [0, 1, 4, 5, 14, 19, 24, 27, 37], [], 47, 0, false⟩
def codenCmp : DC :=
 (.seq
  (.reg [⟨(.x 4), .mv (.c (.int .i64 0)), none⟩])
  (.seq
   (.reg [⟨(.t 6), .mv (.x 0), none⟩,
     ⟨(.t 7), .call 67 [(.t 6)], none⟩,
     ⟨(.t 8), .mv (.x 1), none⟩,
     ⟨(.t 9), .call 67 [(.t 8)], none⟩,
     ⟨(.x 0), .mv (.t 7), none⟩,
     ⟨(.x 1), .mv (.t 9), none⟩])
   (.seq
    (.seq
     (.reg [⟨(.t 10), .mv (.x 0), none⟩,
       ⟨(.t 11), .len 1 (.t 10), none⟩,
       ⟨(.t 12), .mv (.x 1), none⟩,
       ⟨(.t 13), .len 1 (.t 12), none⟩,
       ⟨(.x 14), .bin .neq (.t 11) (.t 13), none⟩])
     (.cond (.x 14)
      (.seq
       (.seq
        (.reg [⟨(.t 15), .mv (.x 0), none⟩,
          ⟨(.t 16), .len 1 (.t 15), none⟩,
          ⟨(.t 17), .mv (.x 1), none⟩,
          ⟨(.t 18), .len 1 (.t 17), none⟩,
          ⟨(.x 19), .bin .lss (.t 16) (.t 18), none⟩])
        (.cond (.x 19)
         (.seq
          (.reg [⟨(.x 4), .mv (.c (.int .i64 (-1))), none⟩])
          .ret)
         .skip))
       (.seq
        (.reg [⟨(.x 4), .mv (.c (.int .i64 1)), none⟩])
        .ret))
      .skip))
    (.seq
     (.seq
      (.reg [⟨(.t 20), .mv (.x 0), none⟩,
        ⟨(.t 21), .len 1 (.t 20), none⟩,
        ⟨(.t 22), .bin .sub (.t 21) (.c (.int .i64 1)), none⟩,
        ⟨(.x 5), .mv (.t 22), none⟩])
      (.block 0
       (.loop
        (.seq
         (.seq
          (.reg [⟨(.t 23), .mv (.x 5), none⟩,
            ⟨(.x 24), .bin .geq (.t 23) (.c (.int .i64 0)), none⟩])
          (.cond (.x 24)
           .skip
           (.exit 0)))
         (.seq
          (.block 1
           (.block 2
            (.seq
             (.regd [⟨(.t 28), .mv (.x 0), none⟩,
               ⟨(.t 29), .mv (.x 5), none⟩,
               ⟨(.t 30), .iad 1 (.t 28) (.t 29), none⟩,
               ⟨(.t 31), .ld (.t 30), none⟩,
               ⟨(.t 32), .mv (.x 1), none⟩,
               ⟨(.t 33), .mv (.x 5), none⟩,
               ⟨(.t 34), .iad 1 (.t 32) (.t 33), none⟩,
               ⟨(.t 35), .ld (.t 34), none⟩,
               ⟨(.t 36), .bin .lss (.t 31) (.t 35), none⟩,
               ⟨(.x 27), .mv (.t 36), none⟩])
             (.cond (.x 27)
              (.seq
               (.reg [⟨(.x 4), .mv (.c (.int .i64 (-1))), none⟩])
               .ret)
              (.seq
               (.regd [⟨(.t 38), .mv (.x 0), none⟩,
                 ⟨(.t 39), .mv (.x 5), none⟩,
                 ⟨(.t 40), .iad 1 (.t 38) (.t 39), none⟩,
                 ⟨(.t 41), .ld (.t 40), none⟩,
                 ⟨(.t 42), .mv (.x 1), none⟩,
                 ⟨(.t 43), .mv (.x 5), none⟩,
                 ⟨(.t 44), .iad 1 (.t 42) (.t 43), none⟩,
                 ⟨(.t 45), .ld (.t 44), none⟩,
                 ⟨(.t 46), .bin .gtr (.t 41) (.t 45), none⟩,
                 ⟨(.x 37), .mv (.t 46), none⟩])
               (.cond (.x 37)
                (.seq
                 (.reg [⟨(.x 4), .mv (.c (.int .i64 1)), none⟩])
                 .ret)
                .skip))))))
          (.reg [⟨(.t 25), .mv (.x 5), none⟩,
            ⟨(.t 26), .bin .sub (.t 25) (.c (.int .i64 1)), none⟩,
            ⟨(.x 5), .mv (.t 26), none⟩]))))))
     (.seq
      (.reg [⟨(.x 4), .mv (.c (.int .i64 0)), none⟩])
      .ret)))))
def resnCmp : List RV := [.t 4]
theorem nbnCmp : fnnCmp.nb = 0 := rfl
theorem isnCmp : IsFn fnnCmp 56 codenCmp resnCmp := ⟨⟨Tryd.f56, _, Tryd.func56, rfl, rfl, by kernel_rfl, by kernel_rfl, by kernel_rfl⟩⟩

/-- robuststats/natural.Div -/
noncomputable def fnnDiv : FnD := ⟨Tryd.prog, [0, 1, 4, 5, 6, 7, 8, 13, 17, 24], [], 48, 0, false⟩
def codenDiv : DC :=
 (.seq
  (.reg [⟨(.x 4), .mv (.c .nils), none⟩,
    ⟨(.x 5), .mv (.c .nils), none⟩,
    ⟨(.x 6), .mv (.c (.bool false)), none⟩])
  (.seq
   (.reg [⟨(.t 9), .mv (.x 0), none⟩,
     ⟨(.t 10), .call 67 [(.t 9)], none⟩,
     ⟨(.t 11), .mv (.x 1), none⟩,
     ⟨(.t 12), .call 67 [(.t 11)], none⟩,
     ⟨(.x 0), .mv (.t 10), none⟩,
     ⟨(.x 1), .mv (.t 12), none⟩])
   (.seq
    (.block 0
     (.seq
      (.reg [⟨(.t 14), .mv (.x 1), none⟩,
        ⟨(.t 15), .len 1 (.t 14), none⟩,
        ⟨(.t 16), .bin .eql (.t 15) (.c (.int .i64 0)), none⟩,
        ⟨(.x 13), .mv (.t 16), none⟩])
      (.cond (.x 13)
       (.seq
        (.reg [⟨(.x 4), .mv (.c .nils), none⟩,
          ⟨(.x 5), .mv (.c .nils), none⟩,
          ⟨(.x 6), .mv (.c (.bool false)), none⟩])
        .ret)
       (.seq
        (.reg [⟨(.t 18), .mv (.x 0), none⟩,
          ⟨(.t 19), .mv (.x 1), none⟩,
          ⟨(.t 20), .call 56 [(.t 18), (.t 19)], none⟩,
          ⟨(.t 21), .bin .lss (.t 20) (.c (.int .i64 0)), none⟩,
          ⟨(.x 17), .mv (.t 21), none⟩])
        (.cond (.x 17)
         (.seq
          (.reg [⟨(.t 22), .mv (.x 0), none⟩,
            ⟨(.t 23), .call 74 [(.t 22)], none⟩,
            ⟨(.x 4), .mv (.c .nils), none⟩,
            ⟨(.x 5), .mv (.t 23), none⟩,
            ⟨(.x 6), .mv (.c (.bool true)), none⟩])
          .ret)
         (.seq
          (.reg [⟨(.t 25), .mv (.x 1), none⟩,
            ⟨(.t 26), .len 1 (.t 25), none⟩,
            ⟨(.t 27), .bin .eql (.t 26) (.c (.int .i64 1)), none⟩,
            ⟨(.x 24), .mv (.t 27), none⟩])
          (.cond (.x 24)
           (.seq
            (.reg [⟨(.t 29), .mv (.x 0), none⟩,
              ⟨(.t 30), .mv (.x 1), none⟩,
              ⟨(.t 31), .iad 1 (.t 30) (.c (.int .i64 0)), none⟩,
              ⟨(.t 32), .ld (.t 31), none⟩,
              ⟨(.t 33), .call 75 [(.t 29), (.t 32)], none⟩,
              ⟨(.t 28), .mv (.t 33), none⟩,
              ⟨(.t 34), .ext (.t 28) 0, none⟩,
              ⟨(.t 35), .ext (.t 28) 1, none⟩,
              ⟨(.x 7), .mv (.t 34), none⟩,
              ⟨(.x 8), .mv (.t 35), none⟩])
            (.seq
             (.reg [⟨(.t 36), .mv (.x 7), none⟩,
               ⟨(.t 37), .mv (.x 8), none⟩,
               ⟨(.t 38), .conv .u64 (.t 37), none⟩,
               ⟨(.t 39), .call 52 [(.t 38)], none⟩,
               ⟨(.x 4), .mv (.t 36), none⟩,
               ⟨(.x 5), .mv (.t 39), none⟩,
               ⟨(.x 6), .mv (.c (.bool true)), none⟩])
             .ret))
           .skip)))))))
    (.seq
     (.reg [⟨(.t 41), .mv (.x 0), none⟩,
       ⟨(.t 42), .mv (.x 1), none⟩,
       ⟨(.t 43), .call 76 [(.t 41), (.t 42)], none⟩,
       ⟨(.t 40), .mv (.t 43), none⟩,
       ⟨(.t 44), .ext (.t 40) 0, none⟩,
       ⟨(.t 45), .ext (.t 40) 1, none⟩,
       ⟨(.x 4), .mv (.t 44), none⟩,
       ⟨(.x 5), .mv (.t 45), none⟩])
     (.seq
      (.reg [⟨(.t 46), .mv (.x 4), none⟩,
        ⟨(.t 47), .mv (.x 5), none⟩,
        ⟨(.x 4), .mv (.t 46), none⟩,
        ⟨(.x 5), .mv (.t 47), none⟩,
        ⟨(.x 6), .mv (.c (.bool true)), none⟩])
      .ret)))))
def resnDiv : List RV := [.t 4, .t 5, .t 6]
theorem nbnDiv : fnnDiv.nb = 0 := rfl
theorem isnDiv : IsFn fnnDiv 57 codenDiv resnDiv := ⟨⟨Tryd.f57, _, Tryd.func57, rfl, rfl, by kernel_rfl, by kernel_rfl, by kernel_rfl⟩⟩

/-- robuststats/natural.Format -/
noncomputable def fnnFormat : FnD := ⟨Tryd.prog, [0, 2, 3, 4, 5, 6, 11, 14, 25], [], 41, 0, false⟩
def codenFormat : DC :=
 (.seq
  (.reg [⟨(.x 2), .mv (.c (.str [])), none⟩])
  (.seq
   (.reg [⟨(.t 7), .mv (.x 0), none⟩,
     ⟨(.t 8), .call 67 [(.t 7)], none⟩,
     ⟨(.x 0), .mv (.t 8), none⟩])
   (.seq
    (.seq
     (.reg [⟨(.t 9), .mv (.x 0), none⟩,
       ⟨(.t 10), .len 1 (.t 9), none⟩,
       ⟨(.x 11), .bin .eql (.t 10) (.c (.int .i64 0)), none⟩])
     (.cond (.x 11)
      (.seq
       (.reg [⟨(.x 2), .mv (.c (.str [48])), none⟩])
       .ret)
      .skip))
    (.seq
     (.reg [⟨(.x 3), .mv (.c .nils), none⟩])
     (.seq
      (.block 0
       (.loop
        (.seq
         (.seq
          (.reg [⟨(.t 12), .mv (.x 0), none⟩,
            ⟨(.t 13), .len 1 (.t 12), none⟩,
            ⟨(.x 14), .bin .gtr (.t 13) (.c (.int .i64 0)), none⟩])
          (.cond (.x 14)
           .skip
           (.exit 0)))
         (.block 1
          (.seq
           (.reg [⟨(.t 16), .mv (.x 0), none⟩,
             ⟨(.t 17), .call 75 [(.t 16), (.c (.int .u32 1000000000))], none⟩,
             ⟨(.t 15), .mv (.t 17), none⟩,
             ⟨(.t 18), .ext (.t 15) 0, none⟩,
             ⟨(.t 19), .ext (.t 15) 1, none⟩,
             ⟨(.x 4), .mv (.t 18), none⟩,
             ⟨(.x 5), .mv (.t 19), none⟩])
           (.seq
            (.reg [⟨(.t 20), .mv (.x 5), none⟩,
              ⟨(.t 21), .conv .i64 (.t 20), none⟩,
              ⟨(.t 22), .call 78 [(.t 21)], none⟩,
              ⟨(.x 6), .mv (.t 22), none⟩])
            (.seq
             (.seq
              (.reg [⟨(.t 23), .mv (.x 4), none⟩,
                ⟨(.t 24), .len 1 (.t 23), none⟩,
                ⟨(.x 25), .bin .gtr (.t 24) (.c (.int .i64 0)), none⟩])
              (.cond (.x 25)
               (.reg [⟨(.t 26), .mv (.x 6), none⟩,
                 ⟨(.t 27), .lenS (.t 26), none⟩,
                 ⟨(.t 28), .bin .sub (.c (.int .i64 9)) (.t 27), none⟩,
                 ⟨(.t 29), .call 79 [(.c (.str [48])), (.t 28)], none⟩,
                 ⟨(.t 30), .mv (.x 6), none⟩,
                 ⟨(.t 31), .bin .add (.t 29) (.t 30), none⟩,
                 ⟨(.x 6), .mv (.t 31), none⟩])
               .skip))
             (.seq
              (.reg [⟨(.t 32), .mv (.x 3), none⟩,
                ⟨(.t 33), .mv (.x 6), none⟩,
                ⟨(.t 34), .bsl 1 [(.str [])] [(0, 1, (.t 33))], none⟩,
                ⟨(.t 35), .app 1 16 (.t 32) (.t 34), none⟩,
                ⟨(.x 3), .mv (.t 35), none⟩])
              (.reg [⟨(.t 36), .mv (.x 4), none⟩,
                ⟨(.x 0), .mv (.t 36), none⟩])))))))))
      (.seq
       (.reg [⟨(.t 37), .mv (.x 3), none⟩,
         ⟨(.t 38), .call 80 [(.t 37)], none⟩])
       (.seq
        (.reg [⟨(.t 39), .mv (.x 3), none⟩,
          ⟨(.t 40), .call 81 [(.t 39), (.c (.str []))], none⟩,
          ⟨(.x 2), .mv (.t 40), none⟩])
        .ret)))))))
def resnFormat : List RV := [.t 2]
theorem nbnFormat : fnnFormat.nb = 0 := rfl
theorem isnFormat : IsFn fnnFormat 60 codenFormat resnFormat := ⟨⟨Tryd.f60, _, Tryd.func60, rfl, rfl, by kernel_rfl, by kernel_rfl, by kernel_rfl⟩⟩

/-- robuststats/robuststatsref01.Div -/
noncomputable def fnrDiv : FnD := ⟨Tryd.prog, [0, 1, 4, 5, 6, 7, 8, 9, 10, 11, 18, 24, 38], [], 46, 0, false⟩
def coderDiv : DC :=
 (.seq
  (.reg [⟨(.x 4), .mv (.c .nils), none⟩,
    ⟨(.x 5), .mv (.c .nils), none⟩,
    ⟨(.x 6), .mv (.c (.bool false)), none⟩])
  (.seq
   (.reg [⟨(.t 12), .mv (.x 0), none⟩,
     ⟨(.t 13), .call 71 [(.t 12)], none⟩,
     ⟨(.t 14), .mv (.x 1), none⟩,
     ⟨(.t 15), .call 71 [(.t 14)], none⟩,
     ⟨(.x 0), .mv (.t 13), none⟩,
     ⟨(.x 1), .mv (.t 15), none⟩])
   (.seq
    (.seq
     (.reg [⟨(.t 16), .mv (.x 1), none⟩,
       ⟨(.t 17), .len 1 (.t 16), none⟩,
       ⟨(.x 18), .bin .eql (.t 17) (.c (.int .i64 0)), none⟩])
     (.cond (.x 18)
      (.seq
       (.reg [⟨(.x 4), .mv (.c .nils), none⟩,
         ⟨(.x 5), .mv (.c .nils), none⟩,
         ⟨(.x 6), .mv (.c (.bool false)), none⟩])
       .ret)
      .skip))
    (.seq
     (.reg [⟨(.x 7), .mv (.c .nils), none⟩,
       ⟨(.x 8), .mv (.c .nils), none⟩])
     (.seq
      (.seq
       (.reg [⟨(.t 19), .mv (.x 0), none⟩,
         ⟨(.t 20), .len 1 (.t 19), none⟩,
         ⟨(.t 21), .bin .mul (.c (.int .i64 32)) (.t 20), none⟩,
         ⟨(.t 22), .bin .sub (.t 21) (.c (.int .i64 1)), none⟩,
         ⟨(.x 9), .mv (.t 22), none⟩])
       (.block 0
        (.loop
         (.seq
          (.seq
           (.reg [⟨(.t 23), .mv (.x 9), none⟩,
             ⟨(.x 24), .bin .geq (.t 23) (.c (.int .i64 0)), none⟩])
           (.cond (.x 24)
            .skip
            (.exit 0)))
          (.seq
           (.block 1
            (.seq
             (.reg [⟨(.t 27), .mv (.x 8), none⟩,
               ⟨(.t 28), .mv (.x 0), none⟩,
               ⟨(.t 29), .mv (.x 9), none⟩,
               ⟨(.t 30), .call 83 [(.t 28), (.t 29)], none⟩,
               ⟨(.t 31), .call 82 [(.t 27), (.t 30)], none⟩,
               ⟨(.x 8), .mv (.t 31), none⟩])
             (.seq
              (.reg [⟨(.t 33), .mv (.x 8), none⟩,
                ⟨(.t 34), .mv (.x 1), none⟩,
                ⟨(.t 35), .call 63 [(.t 33), (.t 34)], none⟩,
                ⟨(.t 32), .mv (.t 35), none⟩,
                ⟨(.t 36), .ext (.t 32) 0, none⟩,
                ⟨(.t 37), .ext (.t 32) 1, none⟩,
                ⟨(.x 10), .mv (.t 36), none⟩,
                ⟨(.x 11), .mv (.t 37), none⟩])
              (.seq
               (.reg [⟨(.x 38), .mv (.x 11), none⟩])
               (.cond (.x 38)
                (.reg [⟨(.t 39), .mv (.x 10), none⟩,
                  ⟨(.t 40), .mv (.x 7), none⟩,
                  ⟨(.t 41), .call 82 [(.t 40), (.c (.int .u32 1))], none⟩,
                  ⟨(.x 8), .mv (.t 39), none⟩,
                  ⟨(.x 7), .mv (.t 41), none⟩])
                (.reg [⟨(.t 42), .mv (.x 7), none⟩,
                  ⟨(.t 43), .call 82 [(.t 42), (.c (.int .u32 0))], none⟩,
                  ⟨(.x 7), .mv (.t 43), none⟩]))))))
           (.reg [⟨(.t 25), .mv (.x 9), none⟩,
             ⟨(.t 26), .bin .sub (.t 25) (.c (.int .i64 1)), none⟩,
             ⟨(.x 9), .mv (.t 26), none⟩]))))))
      (.seq
       (.reg [⟨(.t 44), .mv (.x 7), none⟩,
         ⟨(.t 45), .mv (.x 8), none⟩,
         ⟨(.x 4), .mv (.t 44), none⟩,
         ⟨(.x 5), .mv (.t 45), none⟩,
         ⟨(.x 6), .mv (.c (.bool true)), none⟩])
       .ret))))))
def resrDiv : List RV := [.t 4, .t 5, .t 6]
theorem nbrDiv : fnrDiv.nb = 0 := rfl
theorem isrDiv : IsFn fnrDiv 62 coderDiv resrDiv := ⟨⟨Tryd.f62, _, Tryd.func62, rfl, rfl, by kernel_rfl, by kernel_rfl, by kernel_rfl⟩⟩

/-- robuststats/robuststatsref01.Sub -/
noncomputable def fnrSub : FnD := ⟨Tryd.prog, [0, 1, 4, 5, 6, 7, 8, 9, 17, 21], [], 44, 0, false⟩
def coderSub : DC :=
 (.seq
  (.reg [⟨(.x 4), .mv (.c .nils), none⟩,
    ⟨(.x 5), .mv (.c (.bool false)), none⟩])
  (.seq
   (.reg [⟨(.t 10), .mv (.x 0), none⟩,
     ⟨(.t 11), .call 71 [(.t 10)], none⟩,
     ⟨(.t 12), .mv (.x 1), none⟩,
     ⟨(.t 13), .call 71 [(.t 12)], none⟩,
     ⟨(.x 0), .mv (.t 11), none⟩,
     ⟨(.x 1), .mv (.t 13), none⟩])
   (.seq
    (.seq
     (.reg [⟨(.t 14), .mv (.x 0), none⟩,
       ⟨(.t 15), .mv (.x 1), none⟩,
       ⟨(.t 16), .call 84 [(.t 14), (.t 15)], none⟩,
       ⟨(.x 17), .bin .lss (.t 16) (.c (.int .i64 0)), none⟩])
     (.cond (.x 17)
      (.seq
       (.reg [⟨(.x 4), .mv (.c .nils), none⟩,
         ⟨(.x 5), .mv (.c (.bool false)), none⟩])
       .ret)
      .skip))
    (.seq
     (.reg [⟨(.x 6), .mv (.c .nils), none⟩])
     (.seq
      (.reg [⟨(.x 7), .mv (.c (.int .u64 0)), none⟩])
      (.seq
       (.seq
        (.reg [⟨(.x 8), .mv (.c (.int .i64 0)), none⟩])
        (.block 0
         (.loop
          (.seq
           (.seq
            (.reg [⟨(.t 18), .mv (.x 8), none⟩,
              ⟨(.t 19), .mv (.x 0), none⟩,
              ⟨(.t 20), .len 1 (.t 19), none⟩,
              ⟨(.x 21), .bin .lss (.t 18) (.t 20), none⟩])
            (.cond (.x 21)
             .skip
             (.exit 0)))
           (.seq
            (.block 1
             (.seq
              (.reg [⟨(.t 24), .mv (.x 0), none⟩,
                ⟨(.t 25), .mv (.x 8), none⟩,
                ⟨(.t 26), .call 72 [(.t 24), (.t 25)], none⟩,
                ⟨(.t 27), .bin .add (.t 26) (.c (.int .u64 4294967296)), none⟩,
                ⟨(.t 28), .mv (.x 1), none⟩,
                ⟨(.t 29), .mv (.x 8), none⟩,
                ⟨(.t 30), .call 72 [(.t 28), (.t 29)], none⟩,
                ⟨(.t 31), .bin .sub (.t 27) (.t 30), none⟩,
                ⟨(.t 32), .mv (.x 7), none⟩,
                ⟨(.t 33), .bin .sub (.t 31) (.t 32), none⟩,
                ⟨(.x 9), .mv (.t 33), none⟩])
              (.reg [⟨(.t 34), .mv (.x 6), none⟩,
                ⟨(.t 35), .mv (.x 9), none⟩,
                ⟨(.t 36), .conv .u32 (.t 35), none⟩,
                ⟨(.t 37), .bsl 1 [(.int .u32 0)] [(0, 1, (.t 36))], none⟩,
                ⟨(.t 38), .app 1 4 (.t 34) (.t 37), none⟩,
                ⟨(.t 39), .mv (.x 9), none⟩,
                ⟨(.t 40), .bin .shr (.t 39) (.c (.int .u64 32)), none⟩,
                ⟨(.t 41), .bin .sub (.c (.int .u64 1)) (.t 40), none⟩,
                ⟨(.x 6), .mv (.t 38), none⟩,
                ⟨(.x 7), .mv (.t 41), none⟩])))
            (.reg [⟨(.t 22), .mv (.x 8), none⟩,
              ⟨(.t 23), .bin .add (.t 22) (.c (.int .i64 1)), none⟩,
              ⟨(.x 8), .mv (.t 23), none⟩]))))))
       (.seq
        (.reg [⟨(.t 42), .mv (.x 6), none⟩,
          ⟨(.t 43), .call 73 [(.t 42)], none⟩,
          ⟨(.x 4), .mv (.t 43), none⟩,
          ⟨(.x 5), .mv (.c (.bool true)), none⟩])
        .ret)))))))
def resrSub : List RV := [.t 4, .t 5]
theorem nbrSub : fnrSub.nb = 0 := rfl
theorem isrSub : IsFn fnrSub 63 coderSub resrSub := ⟨⟨Tryd.f63, _, Tryd.func63, rfl, rfl, by kernel_rfl, by kernel_rfl, by kernel_rfl⟩⟩

/-- robuststats/robuststatsref01.Mul -/
noncomputable def fnrMul : FnD := ⟨Tryd.prog, [0, 1, 4, 5, 6, 14], [], 27, 0, false⟩
def coderMul : DC :=
 (.seq
  (.reg [⟨(.x 4), .mv (.c .nils), none⟩])
  (.seq
   (.reg [⟨(.t 7), .mv (.x 0), none⟩,
     ⟨(.t 8), .call 71 [(.t 7)], none⟩,
     ⟨(.t 9), .mv (.x 1), none⟩,
     ⟨(.t 10), .call 71 [(.t 9)], none⟩,
     ⟨(.x 0), .mv (.t 8), none⟩,
     ⟨(.x 1), .mv (.t 10), none⟩])
   (.seq
    (.reg [⟨(.x 5), .mv (.c .nils), none⟩])
    (.seq
     (.seq
      (.reg [⟨(.x 6), .mv (.c (.int .i64 0)), none⟩])
      (.block 0
       (.loop
        (.seq
         (.seq
          (.reg [⟨(.t 11), .mv (.x 6), none⟩,
            ⟨(.t 12), .mv (.x 1), none⟩,
            ⟨(.t 13), .len 1 (.t 12), none⟩,
            ⟨(.x 14), .bin .lss (.t 11) (.t 13), none⟩])
          (.cond (.x 14)
           .skip
           (.exit 0)))
         (.seq
          (.block 1
           (.reg [⟨(.t 17), .mv (.x 5), none⟩,
             ⟨(.t 18), .mv (.x 0), none⟩,
             ⟨(.t 19), .mv (.x 1), none⟩,
             ⟨(.t 20), .mv (.x 6), none⟩,
             ⟨(.t 21), .iad 1 (.t 19) (.t 20), none⟩,
             ⟨(.t 22), .ld (.t 21), none⟩,
             ⟨(.t 23), .mv (.x 6), none⟩,
             ⟨(.t 24), .call 77 [(.t 18), (.t 22), (.t 23)], none⟩,
             ⟨(.t 25), .call 54 [(.t 17), (.t 24)], none⟩,
             ⟨(.x 5), .mv (.t 25), none⟩]))
          (.reg [⟨(.t 15), .mv (.x 6), none⟩,
            ⟨(.t 16), .bin .add (.t 15) (.c (.int .i64 1)), none⟩,
            ⟨(.x 6), .mv (.t 16), none⟩]))))))
     (.seq
      (.reg [⟨(.t 26), .mv (.x 5), none⟩,
        ⟨(.x 4), .mv (.t 26), none⟩])
      .ret)))))
def resrMul : List RV := [.t 4]
theorem nbrMul : fnrMul.nb = 0 := rfl
theorem isrMul : IsFn fnrMul 64 coderMul resrMul := ⟨⟨Tryd.f64, _, Tryd.func64, rfl, rfl, by kernel_rfl, by kernel_rfl, by kernel_rfl⟩⟩

/-- robuststats/natural.Gcd -/
noncomputable def fnnGcd : FnD := ⟨Tryd.prog, [0, 1, 4, 5, 6, 7, 8, 10, 18, 32], [], 48, 0, false⟩
def codenGcd : DC :=
 (.seq
  (.reg [⟨(.x 4), .mv (.c .nils), none⟩])
  (.seq
   (.reg [⟨(.t 12), .mv (.x 0), none⟩,
     ⟨(.t 13), .call 67 [(.t 12)], none⟩,
     ⟨(.t 14), .mv (.x 1), none⟩,
     ⟨(.t 15), .call 67 [(.t 14)], none⟩,
     ⟨(.x 0), .mv (.t 13), none⟩,
     ⟨(.x 1), .mv (.t 15), none⟩])
   (.seq
    (.block 0
     (.loop
      (.seq
       (.seq
        (.reg [⟨(.t 16), .mv (.x 1), none⟩,
          ⟨(.t 17), .len 1 (.t 16), none⟩,
          ⟨(.x 18), .bin .gtr (.t 17) (.c (.int .i64 0)), none⟩])
        (.cond (.x 18)
         .skip
         (.exit 0)))
       (.block 1
        (.seq
         (.reg [⟨(.t 20), .mv (.x 0), none⟩,
           ⟨(.t 21), .call 47 [(.t 20)], none⟩,
           ⟨(.t 19), .mv (.t 21), none⟩,
           ⟨(.t 22), .ext (.t 19) 0, none⟩,
           ⟨(.t 23), .ext (.t 19) 1, none⟩,
           ⟨(.x 5), .mv (.t 22), none⟩,
           ⟨(.x 6), .mv (.t 23), none⟩])
         (.seq
          (.seq
           (.reg [⟨(.t 25), .mv (.x 1), none⟩,
             ⟨(.t 26), .call 47 [(.t 25)], none⟩,
             ⟨(.t 24), .mv (.t 26), none⟩,
             ⟨(.t 27), .ext (.t 24) 0, none⟩,
             ⟨(.t 28), .ext (.t 24) 1, none⟩,
             ⟨(.x 7), .mv (.t 27), none⟩,
             ⟨(.x 8), .mv (.t 28), none⟩])
           (.seq
            (.reg [⟨(.t 29), .mv (.x 6), none⟩,
              ⟨(.t 30), .mv (.t 29), none⟩,
              ⟨(.t 31), .mv (.x 8), (some ((.t 30), true))⟩,
              ⟨(.x 32), .pick (.t 30) (.t 31) (.c (.bool false)), none⟩])
            (.cond (.x 32)
             (.seq
              (.reg [⟨(.t 33), .mv (.x 5), none⟩,
                ⟨(.t 34), .mv (.x 7), none⟩,
                ⟨(.t 35), .call 85 [(.t 33), (.t 34)], none⟩,
                ⟨(.t 36), .call 52 [(.t 35)], none⟩,
                ⟨(.x 4), .mv (.t 36), none⟩])
              .ret)
             .skip)))
          (.seq
           (.reg [⟨(.t 38), .mv (.x 0), none⟩,
             ⟨(.t 39), .mv (.x 1), none⟩,
             ⟨(.t 40), .call 57 [(.t 38), (.t 39)], none⟩,
             ⟨(.t 37), .mv (.t 40), none⟩,
             ⟨(.t 41), .ext (.t 37) 0, none⟩,
             ⟨(.t 42), .ext (.t 37) 1, none⟩,
             ⟨(.t 43), .ext (.t 37) 2, none⟩,
             ⟨(.t 9), .mv (.t 41), none⟩,
             ⟨(.x 10), .mv (.t 42), none⟩,
             ⟨(.t 11), .mv (.t 43), none⟩])
           (.reg [⟨(.t 44), .mv (.x 1), none⟩,
             ⟨(.t 45), .mv (.x 10), none⟩,
             ⟨(.x 0), .mv (.t 44), none⟩,
             ⟨(.x 1), .mv (.t 45), none⟩]))))))))
    (.seq
     (.reg [⟨(.t 46), .mv (.x 0), none⟩,
       ⟨(.t 47), .call 74 [(.t 46)], none⟩,
       ⟨(.x 4), .mv (.t 47), none⟩])
     .ret))))
def resnGcd : List RV := [.t 4]
theorem nbnGcd : fnnGcd.nb = 0 := rfl
theorem isnGcd : IsFn fnnGcd 65 codenGcd resnGcd := ⟨⟨Tryd.f65, _, Tryd.func65, rfl, rfl, by kernel_rfl, by kernel_rfl, by kernel_rfl⟩⟩

/-- robuststats/robuststatsref01.Gcd -/
noncomputable def fnrGcd : FnD := ⟨Tryd.prog, [0, 1, 4, 6, 14], [], 25, 0, false⟩
def coderGcd : DC :=
 (.seq
  (.reg [⟨(.x 4), .mv (.c .nils), none⟩])
  (.seq
   (.reg [⟨(.t 8), .mv (.x 0), none⟩,
     ⟨(.t 9), .call 71 [(.t 8)], none⟩,
     ⟨(.t 10), .mv (.x 1), none⟩,
     ⟨(.t 11), .call 71 [(.t 10)], none⟩,
     ⟨(.x 0), .mv (.t 9), none⟩,
     ⟨(.x 1), .mv (.t 11), none⟩])
   (.seq
    (.block 0
     (.loop
      (.seq
       (.seq
        (.reg [⟨(.t 12), .mv (.x 1), none⟩,
          ⟨(.t 13), .len 1 (.t 12), none⟩,
          ⟨(.x 14), .bin .gtr (.t 13) (.c (.int .i64 0)), none⟩])
        (.cond (.x 14)
         .skip
         (.exit 0)))
       (.block 1
        (.seq
         (.reg [⟨(.t 16), .mv (.x 0), none⟩,
           ⟨(.t 17), .mv (.x 1), none⟩,
           ⟨(.t 18), .call 62 [(.t 16), (.t 17)], none⟩,
           ⟨(.t 15), .mv (.t 18), none⟩,
           ⟨(.t 19), .ext (.t 15) 0, none⟩,
           ⟨(.t 20), .ext (.t 15) 1, none⟩,
           ⟨(.t 21), .ext (.t 15) 2, none⟩,
           ⟨(.t 5), .mv (.t 19), none⟩,
           ⟨(.x 6), .mv (.t 20), none⟩,
           ⟨(.t 7), .mv (.t 21), none⟩])
         (.reg [⟨(.t 22), .mv (.x 1), none⟩,
           ⟨(.t 23), .mv (.x 6), none⟩,
           ⟨(.x 0), .mv (.t 22), none⟩,
           ⟨(.x 1), .mv (.t 23), none⟩]))))))
    (.seq
     (.reg [⟨(.t 24), .mv (.x 0), none⟩,
       ⟨(.x 4), .mv (.t 24), none⟩])
     .ret))))
def resrGcd : List RV := [.t 4]
theorem nbrGcd : fnrGcd.nb = 0 := rfl
theorem isrGcd : IsFn fnrGcd 66 coderGcd resrGcd := ⟨⟨Tryd.f66, _, Tryd.func66, rfl, rfl, by kernel_rfl, by kernel_rfl, by kernel_rfl⟩⟩

/-- robuststats/natural.value -/
noncomputable def fnnValue : FnD := ⟨Tryd.prog, [0, 2, 4], [], 6, 0, false⟩
def codenValue : DC :=
 (.seq
  (.reg [⟨(.x 2), .mv (.c .nils), none⟩])
  (.seq
   (.seq
    (.reg [⟨(.t 3), .mv (.x 0), none⟩,
      ⟨(.x 4), .call 50 [(.t 3)], none⟩])
    (.cond (.x 4)
     (.seq
      (.reg [⟨(.t 5), .mv (.x 0), none⟩,
        ⟨(.x 2), .mv (.t 5), none⟩])
      .ret)
     .skip))
   (.seq
    (.reg [⟨(.x 2), .mv (.c .nils), none⟩])
    .ret)))
def resnValue : List RV := [.t 2]
theorem nbnValue : fnnValue.nb = 0 := rfl
theorem isnValue : IsFn fnnValue 67 codenValue resnValue := ⟨⟨Tryd.f67, _, Tryd.func67, rfl, rfl, by kernel_rfl, by kernel_rfl, by kernel_rfl⟩⟩

/-- math/bits.Add32 -/
noncomputable def fnAdd32 : FnD := ⟨Tryd.prog, [0, 1, 2, 6, 7, 8], [], 22, 0, false⟩
def codeAdd32 : DC :=
 (.seq
  (.reg [⟨(.x 6), .mv (.c (.int .u32 0)), none⟩,
    ⟨(.x 7), .mv (.c (.int .u32 0)), none⟩])
  (.seq
   (.reg [⟨(.t 9), .mv (.x 0), none⟩,
     ⟨(.t 10), .conv .u64 (.t 9), none⟩,
     ⟨(.t 11), .mv (.x 1), none⟩,
     ⟨(.t 12), .conv .u64 (.t 11), none⟩,
     ⟨(.t 13), .bin .add (.t 10) (.t 12), none⟩,
     ⟨(.t 14), .mv (.x 2), none⟩,
     ⟨(.t 15), .conv .u64 (.t 14), none⟩,
     ⟨(.t 16), .bin .add (.t 13) (.t 15), none⟩,
     ⟨(.x 8), .mv (.t 16), none⟩])
   (.seq
    (.reg [⟨(.t 17), .mv (.x 8), none⟩,
      ⟨(.t 18), .conv .u32 (.t 17), none⟩,
      ⟨(.x 6), .mv (.t 18), none⟩])
    (.seq
     (.reg [⟨(.t 19), .mv (.x 8), none⟩,
       ⟨(.t 20), .bin .shr (.t 19) (.c (.int .u64 32)), none⟩,
       ⟨(.t 21), .conv .u32 (.t 20), none⟩,
       ⟨(.x 7), .mv (.t 21), none⟩])
     .ret))))
def resAdd32 : List RV := [.t 6, .t 7]
theorem nbAdd32 : fnAdd32.nb = 0 := rfl
theorem isAdd32 : IsFn fnAdd32 68 codeAdd32 resAdd32 := ⟨⟨Tryd.f68, _, Tryd.func68, rfl, rfl, by kernel_rfl, by kernel_rfl, by kernel_rfl⟩⟩

/-- robuststats/natural.trimmed -/
noncomputable def fnnTrim : FnD := ⟨Tryd.prog, [0, 2, 3, 15], [], 21, 0, false⟩
def codenTrim : DC :=
 (.seq
  (.reg [⟨(.x 2), .mv (.c .nils), none⟩])
  (.seq
   (.reg [⟨(.t 4), .mv (.x 0), none⟩,
     ⟨(.t 5), .len 1 (.t 4), none⟩,
     ⟨(.x 3), .mv (.t 5), none⟩])
   (.seq
    (.block 0
     (.loop
      (.seq
       (.seq
        (.reg [⟨(.t 6), .mv (.x 3), none⟩,
          ⟨(.t 7), .bin .gtr (.t 6) (.c (.int .i64 0)), none⟩,
          ⟨(.t 8), .mv (.t 7), none⟩,
          ⟨(.t 9), .mv (.x 0), (some ((.t 8), true))⟩,
          ⟨(.t 10), .mv (.x 3), (some ((.t 8), true))⟩,
          ⟨(.t 11), .bin .sub (.t 10) (.c (.int .i64 1)), (some ((.t 8), true))⟩,
          ⟨(.t 12), .iad 1 (.t 9) (.t 11), (some ((.t 8), true))⟩,
          ⟨(.t 13), .ld (.t 12), (some ((.t 8), true))⟩,
          ⟨(.t 14), .bin .eql (.t 13) (.c (.int .u32 0)), (some ((.t 8), true))⟩,
          ⟨(.x 15), .pick (.t 8) (.t 14) (.c (.bool false)), none⟩])
        (.cond (.x 15)
         .skip
         (.exit 0)))
       (.block 1
        (.reg [⟨(.t 16), .mv (.x 3), none⟩,
          ⟨(.t 17), .bin .sub (.t 16) (.c (.int .i64 1)), none⟩,
          ⟨(.x 3), .mv (.t 17), none⟩])))))
    (.seq
     (.reg [⟨(.t 18), .mv (.x 0), none⟩,
       ⟨(.t 19), .mv (.x 3), none⟩,
       ⟨(.t 20), .slc 1 (.t 18) none (some (.t 19)), none⟩,
       ⟨(.x 2), .mv (.t 20), none⟩])
     .ret))))
def resnTrim : List RV := [.t 2]
theorem nbnTrim : fnnTrim.nb = 0 := rfl
theorem isnTrim : IsFn fnnTrim 69 codenTrim resnTrim := ⟨⟨Tryd.f69, _, Tryd.func69, rfl, rfl, by kernel_rfl, by kernel_rfl, by kernel_rfl⟩⟩

/-- math/bits.Sub32 -/
noncomputable def fnSub32 : FnD := ⟨Tryd.prog, [0, 1, 2, 6, 7], [], 25, 0, false⟩
def codeSub32 : DC :=
 (.seq
  (.reg [⟨(.x 6), .mv (.c (.int .u32 0)), none⟩,
    ⟨(.x 7), .mv (.c (.int .u32 0)), none⟩])
  (.seq
   (.reg [⟨(.t 8), .mv (.x 0), none⟩,
     ⟨(.t 9), .mv (.x 1), none⟩,
     ⟨(.t 10), .bin .sub (.t 8) (.t 9), none⟩,
     ⟨(.t 11), .mv (.x 2), none⟩,
     ⟨(.t 12), .bin .sub (.t 10) (.t 11), none⟩,
     ⟨(.x 6), .mv (.t 12), none⟩])
   (.seq
    (.reg [⟨(.t 13), .mv (.x 0), none⟩,
      ⟨(.t 14), .un .xor (.t 13), none⟩,
      ⟨(.t 15), .mv (.x 1), none⟩,
      ⟨(.t 16), .bin .and (.t 14) (.t 15), none⟩,
      ⟨(.t 17), .mv (.x 0), none⟩,
      ⟨(.t 18), .mv (.x 1), none⟩,
      ⟨(.t 19), .bin .xor (.t 17) (.t 18), none⟩,
      ⟨(.t 20), .un .xor (.t 19), none⟩,
      ⟨(.t 21), .mv (.x 6), none⟩,
      ⟨(.t 22), .bin .and (.t 20) (.t 21), none⟩,
      ⟨(.t 23), .bin .or (.t 16) (.t 22), none⟩,
      ⟨(.t 24), .bin .shr (.t 23) (.c (.int .u64 31)), none⟩,
      ⟨(.x 7), .mv (.t 24), none⟩])
    .ret)))
def resSub32 : List RV := [.t 6, .t 7]
theorem nbSub32 : fnSub32.nb = 0 := rfl
theorem isSub32 : IsFn fnSub32 70 codeSub32 resSub32 := ⟨⟨Tryd.f70, _, Tryd.func70, rfl, rfl, by kernel_rfl, by kernel_rfl, by kernel_rfl⟩⟩

/-- robuststats/robuststatsref01.Take -/
noncomputable def fnrTake : FnD := ⟨Tryd.prog, [0, 2, 5], [], 8, 0, false⟩
def coderTake : DC :=
 (.seq
  (.reg [⟨(.x 2), .mv (.c .nils), none⟩])
  (.seq
   (.seq
    (.reg [⟨(.t 3), .mv (.x 0), none⟩,
      ⟨(.t 4), .call 51 [(.t 3)], none⟩,
      ⟨(.x 5), .un .not (.t 4), none⟩])
    (.cond (.x 5)
     (.seq
      (.reg [⟨(.x 2), .mv (.c .nils), none⟩])
      .ret)
     .skip))
   (.seq
    (.reg [⟨(.t 6), .mv (.x 0), none⟩,
      ⟨(.t 7), .app 1 4 (.c .nils) (.t 6), none⟩,
      ⟨(.x 2), .mv (.t 7), none⟩])
    .ret)))
def resrTake : List RV := [.t 2]
theorem nbrTake : fnrTake.nb = 0 := rfl
theorem isrTake : IsFn fnrTake 71 coderTake resrTake := ⟨⟨Tryd.f71, _, Tryd.func71, rfl, rfl, by kernel_rfl, by kernel_rfl, by kernel_rfl⟩⟩

/-- robuststats/robuststatsref01.limb -/
noncomputable def fnrLimb : FnD := ⟨Tryd.prog, [0, 1, 4, 8], [], 14, 0, false⟩
def coderLimb : DC :=
 (.seq
  (.reg [⟨(.x 4), .mv (.c (.int .u64 0)), none⟩])
  (.seq
   (.seq
    (.reg [⟨(.t 5), .mv (.x 1), none⟩,
      ⟨(.t 6), .mv (.x 0), none⟩,
      ⟨(.t 7), .len 1 (.t 6), none⟩,
      ⟨(.x 8), .bin .geq (.t 5) (.t 7), none⟩])
    (.cond (.x 8)
     (.seq
      (.reg [⟨(.x 4), .mv (.c (.int .u64 0)), none⟩])
      .ret)
     .skip))
   (.seq
    (.reg [⟨(.t 9), .mv (.x 0), none⟩,
      ⟨(.t 10), .mv (.x 1), none⟩,
      ⟨(.t 11), .iad 1 (.t 9) (.t 10), none⟩,
      ⟨(.t 12), .ld (.t 11), none⟩,
      ⟨(.t 13), .conv .u64 (.t 12), none⟩,
      ⟨(.x 4), .mv (.t 13), none⟩])
    .ret)))
def resrLimb : List RV := [.t 4]
theorem nbrLimb : fnrLimb.nb = 0 := rfl
theorem isrLimb : IsFn fnrLimb 72 coderLimb resrLimb := ⟨⟨Tryd.f72, _, Tryd.func72, rfl, rfl, by kernel_rfl, by kernel_rfl, by kernel_rfl⟩⟩

/-- robuststats/robuststatsref01.trim -/
noncomputable def fnrTrim : FnD := ⟨Tryd.prog, [0, 2, 14], [], 21, 0, false⟩
def coderTrim : DC :=
 (.seq
  (.reg [⟨(.x 2), .mv (.c .nils), none⟩])
  (.seq
   (.block 0
    (.loop
     (.seq
      (.seq
       (.reg [⟨(.t 3), .mv (.x 0), none⟩,
         ⟨(.t 4), .len 1 (.t 3), none⟩,
         ⟨(.t 5), .bin .gtr (.t 4) (.c (.int .i64 0)), none⟩,
         ⟨(.t 6), .mv (.t 5), none⟩,
         ⟨(.t 7), .mv (.x 0), (some ((.t 6), true))⟩,
         ⟨(.t 8), .mv (.x 0), (some ((.t 6), true))⟩,
         ⟨(.t 9), .len 1 (.t 8), (some ((.t 6), true))⟩,
         ⟨(.t 10), .bin .sub (.t 9) (.c (.int .i64 1)), (some ((.t 6), true))⟩,
         ⟨(.t 11), .iad 1 (.t 7) (.t 10), (some ((.t 6), true))⟩,
         ⟨(.t 12), .ld (.t 11), (some ((.t 6), true))⟩,
         ⟨(.t 13), .bin .eql (.t 12) (.c (.int .u32 0)), (some ((.t 6), true))⟩,
         ⟨(.x 14), .pick (.t 6) (.t 13) (.c (.bool false)), none⟩])
       (.cond (.x 14)
        .skip
        (.exit 0)))
      (.block 1
       (.reg [⟨(.t 15), .mv (.x 0), none⟩,
         ⟨(.t 16), .mv (.x 0), none⟩,
         ⟨(.t 17), .len 1 (.t 16), none⟩,
         ⟨(.t 18), .bin .sub (.t 17) (.c (.int .i64 1)), none⟩,
         ⟨(.t 19), .slc 1 (.t 15) none (some (.t 18)), none⟩,
         ⟨(.x 0), .mv (.t 19), none⟩])))))
   (.seq
    (.reg [⟨(.t 20), .mv (.x 0), none⟩,
      ⟨(.x 2), .mv (.t 20), none⟩])
    .ret)))
def resrTrim : List RV := [.t 2]
theorem nbrTrim : fnrTrim.nb = 0 := rfl
theorem isrTrim : IsFn fnrTrim 73 coderTrim resrTrim := ⟨⟨Tryd.f73, _, Tryd.func73, rfl, rfl, by kernel_rfl, by kernel_rfl, by kernel_rfl⟩⟩

/-- slices.Clone[[]uint32,uint32] -/
noncomputable def fnClone : FnD := ⟨Tryd.prog, [0, 2, 4], [], 8, 0, false⟩
def codeClone : DC :=
 (.seq
  (.reg [⟨(.x 2), .mv (.c .nils), none⟩])
  (.seq
   (.seq
    .bad
    (.cond (.x 4)
     (.seq
      (.reg [⟨(.x 2), .mv (.c .nils), none⟩])
      .ret)
     .skip))
   (.seq
    (.reg [⟨(.t 5), .bsl 1 [] [], none⟩,
      ⟨(.t 6), .mv (.x 0), none⟩,
      ⟨(.t 7), .app 1 4 (.t 5) (.t 6), none⟩,
      ⟨(.x 2), .mv (.t 7), none⟩])
    .ret)))
def resClone : List RV := [.t 2]
theorem nbClone : fnClone.nb = 0 := rfl
theorem isClone : IsFn fnClone 74 codeClone resClone := ⟨⟨Tryd.f74, _, Tryd.func74, rfl, rfl, by kernel_rfl, by kernel_rfl, by kernel_rfl⟩⟩

/-- robuststats/natural.short -/
noncomputable def fnnShort : FnD := ⟨Tryd.prog, [0, 1, 4, 5, 6, 14], [], 33, 0, false⟩
def codenShort : DC :=
 (.seq
  (.reg [⟨(.x 4), .mv (.c .nils), none⟩,
    ⟨(.x 5), .mv (.c (.int .u32 0)), none⟩])
  (.seq
   (.reg [⟨(.t 7), .mv (.x 0), none⟩,
     ⟨(.t 8), .len 1 (.t 7), none⟩,
     ⟨(.t 9), .mks 1 4 [(.int .u32 0)] (.t 8) (.t 8), none⟩,
     ⟨(.x 4), .mv (.t 9), none⟩])
   (.seq
    (.seq
     (.reg [⟨(.t 10), .mv (.x 0), none⟩,
       ⟨(.t 11), .len 1 (.t 10), none⟩,
       ⟨(.t 12), .bin .sub (.t 11) (.c (.int .i64 1)), none⟩,
       ⟨(.x 6), .mv (.t 12), none⟩])
     (.block 0
      (.loop
       (.seq
        (.seq
         (.reg [⟨(.t 13), .mv (.x 6), none⟩,
           ⟨(.x 14), .bin .geq (.t 13) (.c (.int .i64 0)), none⟩])
         (.cond (.x 14)
          .skip
          (.exit 0)))
        (.seq
         (.block 1
          (.reg [⟨(.t 18), .mv (.x 4), none⟩,
            ⟨(.t 19), .mv (.x 6), none⟩,
            ⟨(.t 20), .mv (.x 5), none⟩,
            ⟨(.t 21), .mv (.x 0), none⟩,
            ⟨(.t 22), .mv (.x 6), none⟩,
            ⟨(.t 23), .iad 1 (.t 21) (.t 22), none⟩,
            ⟨(.t 24), .ld (.t 23), none⟩,
            ⟨(.t 25), .mv (.x 1), none⟩,
            ⟨(.t 26), .call 86 [(.t 20), (.t 24), (.t 25)], none⟩,
            ⟨(.t 17), .mv (.t 26), none⟩,
            ⟨(.t 27), .ext (.t 17) 0, none⟩,
            ⟨(.t 28), .ext (.t 17) 1, none⟩,
            ⟨(.t 29), .iad 1 (.t 18) (.t 19), none⟩,
            ⟨.no, .st (.t 29) (.t 27), none⟩,
            ⟨(.x 5), .mv (.t 28), none⟩]))
         (.reg [⟨(.t 15), .mv (.x 6), none⟩,
           ⟨(.t 16), .bin .sub (.t 15) (.c (.int .i64 1)), none⟩,
           ⟨(.x 6), .mv (.t 16), none⟩]))))))
    (.seq
     (.reg [⟨(.t 30), .mv (.x 4), none⟩,
       ⟨(.t 31), .call 69 [(.t 30)], none⟩,
       ⟨(.t 32), .mv (.x 5), none⟩,
       ⟨(.x 4), .mv (.t 31), none⟩,
       ⟨(.x 5), .mv (.t 32), none⟩])
     .ret))))
def resnShort : List RV := [.t 4, .t 5]
theorem nbnShort : fnnShort.nb = 0 := rfl
theorem isnShort : IsFn fnnShort 75 codenShort resnShort := ⟨⟨Tryd.f75, _, Tryd.func75, rfl, rfl, by kernel_rfl, by kernel_rfl, by kernel_rfl⟩⟩

/-- robuststats/natural.divide -/
noncomputable def fnnDivide : FnD := ⟨Tryd.prog, [0, 1, 4, 5, 6, 7, 8, 9, 10, 11, 12, 39, 82, 102, 103, 104], [], 130, 0, false⟩
def codenDivide : DC :=
 (.seq
  (.reg [⟨(.x 4), .mv (.c .nils), none⟩,
    ⟨(.x 5), .mv (.c .nils), none⟩])
  (.seq
   (.reg [⟨(.t 13), .mv (.x 1), none⟩,
     ⟨(.t 14), .mv (.x 1), none⟩,
     ⟨(.t 15), .len 1 (.t 14), none⟩,
     ⟨(.t 16), .bin .sub (.t 15) (.c (.int .i64 1)), none⟩,
     ⟨(.t 17), .iad 1 (.t 13) (.t 16), none⟩,
     ⟨(.t 18), .ld (.t 17), none⟩,
     ⟨(.t 19), .call 87 [(.t 18)], none⟩,
     ⟨(.t 20), .mv (.x 1), none⟩,
     ⟨(.t 21), .len 1 (.t 20), none⟩,
     ⟨(.x 6), .mv (.t 19), none⟩,
     ⟨(.x 7), .mv (.t 21), none⟩])
   (.seq
    (.reg [⟨(.t 22), .mv (.x 0), none⟩,
      ⟨(.t 23), .mv (.x 6), none⟩,
      ⟨(.t 24), .call 88 [(.t 22), (.t 23)], none⟩,
      ⟨(.t 25), .mv (.x 1), none⟩,
      ⟨(.t 26), .mv (.x 6), none⟩,
      ⟨(.t 27), .call 88 [(.t 25), (.t 26)], none⟩,
      ⟨(.t 28), .call 69 [(.t 27)], none⟩,
      ⟨(.x 8), .mv (.t 24), none⟩,
      ⟨(.x 9), .mv (.t 28), none⟩])
    (.seq
     (.reg [⟨(.t 29), .mv (.x 0), none⟩,
       ⟨(.t 30), .len 1 (.t 29), none⟩,
       ⟨(.t 31), .mv (.x 7), none⟩,
       ⟨(.t 32), .bin .sub (.t 30) (.t 31), none⟩,
       ⟨(.t 33), .bin .add (.t 32) (.c (.int .i64 1)), none⟩,
       ⟨(.t 34), .mks 1 4 [(.int .u32 0)] (.t 33) (.t 33), none⟩,
       ⟨(.x 4), .mv (.t 34), none⟩])
     (.seq
      (.seq
       (.reg [⟨(.t 35), .mv (.x 4), none⟩,
         ⟨(.t 36), .len 1 (.t 35), none⟩,
         ⟨(.t 37), .bin .sub (.t 36) (.c (.int .i64 1)), none⟩,
         ⟨(.x 10), .mv (.t 37), none⟩])
       (.block 0
        (.loop
         (.seq
          (.seq
           (.reg [⟨(.t 38), .mv (.x 10), none⟩,
             ⟨(.x 39), .bin .geq (.t 38) (.c (.int .i64 0)), none⟩])
           (.cond (.x 39)
            .skip
            (.exit 0)))
          (.seq
           (.block 1
            (.seq
             (.regd [⟨(.t 42), .mv (.x 8), none⟩,
               ⟨(.t 43), .mv (.x 10), none⟩,
               ⟨(.t 44), .mv (.x 7), none⟩,
               ⟨(.t 45), .bin .add (.t 43) (.t 44), none⟩,
               ⟨(.t 46), .iad 1 (.t 42) (.t 45), none⟩,
               ⟨(.t 47), .ld (.t 46), none⟩,
               ⟨(.t 48), .mv (.x 8), none⟩,
               ⟨(.t 49), .mv (.x 10), none⟩,
               ⟨(.t 50), .mv (.x 7), none⟩,
               ⟨(.t 51), .bin .add (.t 49) (.t 50), none⟩,
               ⟨(.t 52), .bin .sub (.t 51) (.c (.int .i64 1)), none⟩,
               ⟨(.t 53), .iad 1 (.t 48) (.t 52), none⟩,
               ⟨(.t 54), .ld (.t 53), none⟩,
               ⟨(.t 55), .mv (.x 8), none⟩,
               ⟨(.t 56), .mv (.x 10), none⟩,
               ⟨(.t 57), .mv (.x 7), none⟩,
               ⟨(.t 58), .bin .add (.t 56) (.t 57), none⟩,
               ⟨(.t 59), .bin .sub (.t 58) (.c (.int .i64 2)), none⟩,
               ⟨(.t 60), .iad 1 (.t 55) (.t 59), none⟩,
               ⟨(.t 61), .ld (.t 60), none⟩,
               ⟨(.t 62), .mv (.x 9), none⟩,
               ⟨(.t 63), .mv (.x 7), none⟩,
               ⟨(.t 64), .bin .sub (.t 63) (.c (.int .i64 1)), none⟩,
               ⟨(.t 65), .iad 1 (.t 62) (.t 64), none⟩,
               ⟨(.t 66), .ld (.t 65), none⟩,
               ⟨(.t 67), .mv (.x 9), none⟩,
               ⟨(.t 68), .mv (.x 7), none⟩,
               ⟨(.t 69), .bin .sub (.t 68) (.c (.int .i64 2)), none⟩,
               ⟨(.t 70), .iad 1 (.t 67) (.t 69), none⟩,
               ⟨(.t 71), .ld (.t 70), none⟩,
               ⟨(.t 72), .call 89 [(.t 47), (.t 54), (.t 61), (.t 66), (.t 71)], none⟩,
               ⟨(.x 11), .mv (.t 72), none⟩])
             (.seq
              (.seq
               (.reg [⟨(.t 73), .mv (.x 8), none⟩,
                 ⟨(.t 74), .mv (.x 10), none⟩,
                 ⟨(.t 75), .mv (.x 10), none⟩,
                 ⟨(.t 76), .mv (.x 7), none⟩,
                 ⟨(.t 77), .bin .add (.t 75) (.t 76), none⟩,
                 ⟨(.t 78), .bin .add (.t 77) (.c (.int .i64 1)), none⟩,
                 ⟨(.t 79), .slc 1 (.t 73) (some (.t 74)) (some (.t 78)), none⟩,
                 ⟨(.t 80), .mv (.x 9), none⟩,
                 ⟨(.t 81), .mv (.x 11), none⟩,
                 ⟨(.x 82), .call 90 [(.t 79), (.t 80), (.t 81)], none⟩])
               (.cond (.x 82)
                (.seq
                 (.reg [⟨(.t 83), .mv (.x 8), none⟩,
                   ⟨(.t 84), .mv (.x 10), none⟩,
                   ⟨(.t 85), .mv (.x 10), none⟩,
                   ⟨(.t 86), .mv (.x 7), none⟩,
                   ⟨(.t 87), .bin .add (.t 85) (.t 86), none⟩,
                   ⟨(.t 88), .bin .add (.t 87) (.c (.int .i64 1)), none⟩,
                   ⟨(.t 89), .slc 1 (.t 83) (some (.t 84)) (some (.t 88)), none⟩,
                   ⟨(.t 90), .mv (.x 9), none⟩,
                   ⟨(.t 91), .call 91 [(.t 89), (.t 90)], none⟩])
                 (.reg [⟨(.t 92), .mv (.x 11), none⟩,
                   ⟨(.t 93), .bin .sub (.t 92) (.c (.int .u64 1)), none⟩,
                   ⟨(.x 11), .mv (.t 93), none⟩]))
                .skip))
              (.reg [⟨(.t 94), .mv (.x 4), none⟩,
                ⟨(.t 95), .mv (.x 10), none⟩,
                ⟨(.t 96), .mv (.x 11), none⟩,
                ⟨(.t 97), .conv .u32 (.t 96), none⟩,
                ⟨(.t 98), .iad 1 (.t 94) (.t 95), none⟩,
                ⟨.no, .st (.t 98) (.t 97), none⟩]))))
           (.reg [⟨(.t 40), .mv (.x 10), none⟩,
             ⟨(.t 41), .bin .sub (.t 40) (.c (.int .i64 1)), none⟩,
             ⟨(.x 10), .mv (.t 41), none⟩]))))))
      (.seq
       (.reg [⟨(.t 99), .mv (.x 7), none⟩,
         ⟨(.t 100), .mks 1 4 [(.int .u32 0)] (.t 99) (.t 99), none⟩,
         ⟨(.x 5), .mv (.t 100), none⟩])
       (.seq
        (.seq
         (.reg [⟨(.t 101), .mv (.x 5), none⟩,
           ⟨(.x 102), .len 1 (.t 101), none⟩,
           ⟨(.x 103), .mv (.c (.int .i64 0)), none⟩])
         (.block 2
          (.loop
           (.seq
            (.reg [⟨(.x 104), .bin .lss (.x 103) (.x 102), none⟩])
            (.seq
             (.cond (.x 104)
              .skip
              (.exit 2))
             (.seq
              (.block 3
               (.seq
                (.reg [⟨(.t 105), .mv (.x 103), none⟩,
                  ⟨(.x 12), .mv (.t 105), none⟩])
                (.regd [⟨(.t 106), .mv (.x 5), none⟩,
                  ⟨(.t 107), .mv (.x 12), none⟩,
                  ⟨(.t 108), .mv (.x 8), none⟩,
                  ⟨(.t 109), .mv (.x 12), none⟩,
                  ⟨(.t 110), .bin .add (.t 109) (.c (.int .i64 1)), none⟩,
                  ⟨(.t 111), .iad 1 (.t 108) (.t 110), none⟩,
                  ⟨(.t 112), .ld (.t 111), none⟩,
                  ⟨(.t 113), .conv .u64 (.t 112), none⟩,
                  ⟨(.t 114), .bin .shl (.t 113) (.c (.int .u64 32)), none⟩,
                  ⟨(.t 115), .mv (.x 8), none⟩,
                  ⟨(.t 116), .mv (.x 12), none⟩,
                  ⟨(.t 117), .iad 1 (.t 115) (.t 116), none⟩,
                  ⟨(.t 118), .ld (.t 117), none⟩,
                  ⟨(.t 119), .conv .u64 (.t 118), none⟩,
                  ⟨(.t 120), .bin .or (.t 114) (.t 119), none⟩,
                  ⟨(.t 121), .mv (.x 6), none⟩,
                  ⟨(.t 122), .bin .shr (.t 120) (.t 121), none⟩,
                  ⟨(.t 123), .conv .u32 (.t 122), none⟩,
                  ⟨(.t 124), .iad 1 (.t 106) (.t 107), none⟩,
                  ⟨.no, .st (.t 124) (.t 123), none⟩])))
              (.reg [⟨(.t 125), .bin .add (.x 103) (.c (.int .i64 1)), none⟩,
                ⟨(.x 103), .mv (.t 125), none⟩])))))))
        (.seq
         (.reg [⟨(.t 126), .mv (.x 4), none⟩,
           ⟨(.t 127), .call 69 [(.t 126)], none⟩,
           ⟨(.t 128), .mv (.x 5), none⟩,
           ⟨(.t 129), .call 69 [(.t 128)], none⟩,
           ⟨(.x 4), .mv (.t 127), none⟩,
           ⟨(.x 5), .mv (.t 129), none⟩])
         .ret))))))))
def resnDivide : List RV := [.t 4, .t 5]
theorem nbnDivide : fnnDivide.nb = 0 := rfl
theorem isnDivide : IsFn fnnDivide 76 codenDivide resnDivide := ⟨⟨Tryd.f76, _, Tryd.func76, rfl, rfl, by kernel_rfl, by kernel_rfl, by kernel_rfl⟩⟩

/-- robuststats/robuststatsref01.times -/
noncomputable def fnrTimes : FnD := ⟨Tryd.prog, [0, 1, 2, 6, 7, 8, 9, 10, 16], [], 36, 0, false⟩
def coderTimes : DC :=
 (.seq
  (.reg [⟨(.x 6), .mv (.c .nils), none⟩])
  (.seq
   (.reg [⟨(.t 11), .mv (.x 2), none⟩,
     ⟨(.t 12), .mks 1 4 [(.int .u32 0)] (.t 11) (.t 11), none⟩,
     ⟨(.x 7), .mv (.t 12), none⟩])
   (.seq
    (.reg [⟨(.x 8), .mv (.c (.int .u64 0)), none⟩])
    (.seq
     (.seq
      (.reg [⟨(.x 9), .mv (.c (.int .i64 0)), none⟩])
      (.block 0
       (.loop
        (.seq
         (.seq
          (.reg [⟨(.t 13), .mv (.x 9), none⟩,
            ⟨(.t 14), .mv (.x 0), none⟩,
            ⟨(.t 15), .len 1 (.t 14), none⟩,
            ⟨(.x 16), .bin .leq (.t 13) (.t 15), none⟩])
          (.cond (.x 16)
           .skip
           (.exit 0)))
         (.seq
          (.block 1
           (.seq
            (.reg [⟨(.t 19), .mv (.x 0), none⟩,
              ⟨(.t 20), .mv (.x 9), none⟩,
              ⟨(.t 21), .call 72 [(.t 19), (.t 20)], none⟩,
              ⟨(.t 22), .mv (.x 1), none⟩,
              ⟨(.t 23), .conv .u64 (.t 22), none⟩,
              ⟨(.t 24), .bin .mul (.t 21) (.t 23), none⟩,
              ⟨(.t 25), .mv (.x 8), none⟩,
              ⟨(.t 26), .bin .add (.t 24) (.t 25), none⟩,
              ⟨(.x 10), .mv (.t 26), none⟩])
            (.reg [⟨(.t 27), .mv (.x 7), none⟩,
              ⟨(.t 28), .mv (.x 10), none⟩,
              ⟨(.t 29), .conv .u32 (.t 28), none⟩,
              ⟨(.t 30), .bsl 1 [(.int .u32 0)] [(0, 1, (.t 29))], none⟩,
              ⟨(.t 31), .app 1 4 (.t 27) (.t 30), none⟩,
              ⟨(.t 32), .mv (.x 10), none⟩,
              ⟨(.t 33), .bin .shr (.t 32) (.c (.int .u64 32)), none⟩,
              ⟨(.x 7), .mv (.t 31), none⟩,
              ⟨(.x 8), .mv (.t 33), none⟩])))
          (.reg [⟨(.t 17), .mv (.x 9), none⟩,
            ⟨(.t 18), .bin .add (.t 17) (.c (.int .i64 1)), none⟩,
            ⟨(.x 9), .mv (.t 18), none⟩]))))))
     (.seq
      (.reg [⟨(.t 34), .mv (.x 7), none⟩,
        ⟨(.t 35), .call 73 [(.t 34)], none⟩,
        ⟨(.x 6), .mv (.t 35), none⟩])
      .ret)))))
def resrTimes : List RV := [.t 6]
theorem nbrTimes : fnrTimes.nb = 0 := rfl
theorem isrTimes : IsFn fnrTimes 77 coderTimes resrTimes := ⟨⟨Tryd.f77, _, Tryd.func77, rfl, rfl, by kernel_rfl, by kernel_rfl, by kernel_rfl⟩⟩

/-- strconv.Itoa -/
noncomputable def fnscItoa : FnD := ⟨Tryd.prog, [0, 2], [], 5, 0, false⟩
def codescItoa : DC :=
 (.seq
  (.reg [⟨(.x 2), .mv (.c (.str [])), none⟩])
  (.seq
   (.reg [⟨(.t 3), .mv (.x 0), none⟩,
     ⟨(.t 4), .call 92 [(.t 3)], none⟩,
     ⟨(.x 2), .mv (.t 4), none⟩])
   .ret))
def resscItoa : List RV := [.t 2]
theorem nbscItoa : fnscItoa.nb = 0 := rfl
theorem isscItoa : IsFn fnscItoa 78 codescItoa resscItoa := ⟨⟨Tryd.f78, _, Tryd.func78, rfl, rfl, by kernel_rfl, by kernel_rfl, by kernel_rfl⟩⟩

/-- slices.Reverse[[]string,string] -/
noncomputable def fnslReverse : FnD := ⟨Tryd.prog, [0, 2, 3, 9], [], 28, 0, false⟩
def codeslReverse : DC :=
 (.seq
  (.reg [⟨(.t 4), .mv (.x 0), none⟩,
    ⟨(.t 5), .len 1 (.t 4), none⟩,
    ⟨(.t 6), .bin .sub (.t 5) (.c (.int .i64 1)), none⟩,
    ⟨(.x 2), .mv (.c (.int .i64 0)), none⟩,
    ⟨(.x 3), .mv (.t 6), none⟩])
  (.block 0
   (.loop
    (.seq
     (.seq
      (.reg [⟨(.t 7), .mv (.x 2), none⟩,
        ⟨(.t 8), .mv (.x 3), none⟩,
        ⟨(.x 9), .bin .lss (.t 7) (.t 8), none⟩])
      (.cond (.x 9)
       .skip
       (.exit 0)))
     (.seq
      (.block 1
       (.regd [⟨(.t 14), .mv (.x 0), none⟩,
         ⟨(.t 15), .mv (.x 2), none⟩,
         ⟨(.t 16), .mv (.x 0), none⟩,
         ⟨(.t 17), .mv (.x 3), none⟩,
         ⟨(.t 18), .mv (.x 0), none⟩,
         ⟨(.t 19), .mv (.x 3), none⟩,
         ⟨(.t 20), .iad 1 (.t 18) (.t 19), none⟩,
         ⟨(.t 21), .ld (.t 20), none⟩,
         ⟨(.t 22), .mv (.x 0), none⟩,
         ⟨(.t 23), .mv (.x 2), none⟩,
         ⟨(.t 24), .iad 1 (.t 22) (.t 23), none⟩,
         ⟨(.t 25), .ld (.t 24), none⟩,
         ⟨(.t 26), .iad 1 (.t 14) (.t 15), none⟩,
         ⟨.no, .st (.t 26) (.t 21), none⟩,
         ⟨(.t 27), .iad 1 (.t 16) (.t 17), none⟩,
         ⟨.no, .st (.t 27) (.t 25), none⟩]))
      (.reg [⟨(.t 10), .mv (.x 2), none⟩,
        ⟨(.t 11), .bin .add (.t 10) (.c (.int .i64 1)), none⟩,
        ⟨(.t 12), .mv (.x 3), none⟩,
        ⟨(.t 13), .bin .sub (.t 12) (.c (.int .i64 1)), none⟩,
        ⟨(.x 2), .mv (.t 11), none⟩,
        ⟨(.x 3), .mv (.t 13), none⟩]))))))
def resslReverse : List RV := []
theorem nbslReverse : fnslReverse.nb = 0 := rfl
theorem isslReverse : IsFn fnslReverse 80 codeslReverse resslReverse := ⟨⟨Tryd.f80, _, Tryd.func80, rfl, rfl, by kernel_rfl, by kernel_rfl, by kernel_rfl⟩⟩

/-- strings.Join -/
noncomputable def fnstrJoin : FnD := ⟨Tryd.prog, [0, 1, 4, 5, 7, 8, 10, 12, 13, 15, 22, 29, 39, 40, 41, 42, 49, 63, 64, 65, 66], [], 75, 0, false⟩
def codestrJoin : DC :=
 (.seq
  (.reg [⟨(.x 4), .mv (.c (.str [])), none⟩])
  (.seq
   (.seq
    (.reg [⟨(.t 11), .mv (.x 0), none⟩,
      ⟨(.x 12), .len 1 (.t 11), none⟩])
    (.block 0
     (.seq
      (.reg [⟨(.t 14), .bin .eql (.x 12) (.c (.int .i64 0)), none⟩,
        ⟨(.x 13), .mv (.t 14), none⟩])
      (.cond (.x 13)
       (.seq
        (.reg [⟨(.x 4), .mv (.c (.str [])), none⟩])
        .ret)
       (.seq
        (.reg [⟨(.t 16), .bin .eql (.x 12) (.c (.int .i64 1)), none⟩,
          ⟨(.x 15), .mv (.t 16), none⟩])
        (.cond (.x 15)
         (.seq
          (.reg [⟨(.t 17), .mv (.x 0), none⟩,
            ⟨(.t 18), .iad 1 (.t 17) (.c (.int .i64 0)), none⟩,
            ⟨(.t 19), .ld (.t 18), none⟩,
            ⟨(.x 4), .mv (.t 19), none⟩])
          .ret)
         .skip))))))
   (.seq
    (.reg [⟨(.x 5), .mv (.c (.int .i64 0)), none⟩])
    (.seq
     (.seq
      (.reg [⟨(.t 20), .mv (.x 1), none⟩,
        ⟨(.t 21), .lenS (.t 20), none⟩,
        ⟨(.x 22), .bin .gtr (.t 21) (.c (.int .i64 0)), none⟩])
      (.cond (.x 22)
       (.seq
        (.seq
         (.reg [⟨(.t 23), .mv (.x 1), none⟩,
           ⟨(.t 24), .lenS (.t 23), none⟩,
           ⟨(.t 25), .mv (.x 0), none⟩,
           ⟨(.t 26), .len 1 (.t 25), none⟩,
           ⟨(.t 27), .bin .sub (.t 26) (.c (.int .i64 1)), none⟩,
           ⟨(.t 28), .bin .quo (.c (.int .i64 9223372036854775807)) (.t 27), none⟩,
           ⟨(.x 29), .bin .geq (.t 24) (.t 28), none⟩])
         (.cond (.x 29)
          (.reg [⟨(.t 30), .mki 9 (.c (.str [115, 116, 114, 105, 110, 103, 115, 58, 32, 74, 111, 105, 110, 32, 111, 117, 116, 112, 117, 116, 32, 108, 101, 110, 103, 116, 104, 32, 111, 118, 101, 114, 102, 108, 111, 119])), none⟩,
            ⟨.no, .pan (.t 30), none⟩])
          .skip))
        (.reg [⟨(.t 31), .mv (.x 5), none⟩,
          ⟨(.t 32), .mv (.x 1), none⟩,
          ⟨(.t 33), .lenS (.t 32), none⟩,
          ⟨(.t 34), .mv (.x 0), none⟩,
          ⟨(.t 35), .len 1 (.t 34), none⟩,
          ⟨(.t 36), .bin .sub (.t 35) (.c (.int .i64 1)), none⟩,
          ⟨(.t 37), .bin .mul (.t 33) (.t 36), none⟩,
          ⟨(.t 38), .bin .add (.t 31) (.t 37), none⟩,
          ⟨(.x 5), .mv (.t 38), none⟩]))
       .skip))
     (.seq
      (.seq
       (.reg [⟨(.x 39), .mv (.x 0), none⟩,
         ⟨(.x 40), .len 1 (.x 39), none⟩,
         ⟨(.x 41), .mv (.c (.int .i64 0)), none⟩])
       (.block 1
        (.loop
         (.seq
          (.reg [⟨(.x 42), .bin .lss (.x 41) (.x 40), none⟩])
          (.seq
           (.cond (.x 42)
            .skip
            (.exit 1))
           (.seq
            (.block 2
             (.seq
              (.reg [⟨(.t 43), .iad 1 (.x 39) (.x 41), none⟩,
                ⟨(.t 44), .ld (.t 43), none⟩,
                ⟨(.x 7), .mv (.t 44), none⟩])
              (.seq
               (.seq
                (.reg [⟨(.t 45), .mv (.x 7), none⟩,
                  ⟨(.t 46), .lenS (.t 45), none⟩,
                  ⟨(.t 47), .mv (.x 5), none⟩,
                  ⟨(.t 48), .bin .sub (.c (.int .i64 9223372036854775807)) (.t 47), none⟩,
                  ⟨(.x 49), .bin .gtr (.t 46) (.t 48), none⟩])
                (.cond (.x 49)
                 (.reg [⟨(.t 50), .mki 9 (.c (.str [115, 116, 114, 105, 110, 103, 115, 58, 32, 74, 111, 105, 110, 32, 111, 117, 116, 112, 117, 116, 32, 108, 101, 110, 103, 116, 104, 32, 111, 118, 101, 114, 102, 108, 111, 119])), none⟩,
                   ⟨.no, .pan (.t 50), none⟩])
                 .skip))
               (.reg [⟨(.t 51), .mv (.x 5), none⟩,
                 ⟨(.t 52), .mv (.x 7), none⟩,
                 ⟨(.t 53), .lenS (.t 52), none⟩,
                 ⟨(.t 54), .bin .add (.t 51) (.t 53), none⟩,
                 ⟨(.x 5), .mv (.t 54), none⟩]))))
            (.reg [⟨(.t 55), .bin .add (.x 41) (.c (.int .i64 1)), none⟩,
              ⟨(.x 41), .mv (.t 55), none⟩])))))))
      (.seq
       (.reg [⟨(.x 8), .alloc [.nilp, .nils], none⟩])
       (.seq
        (.reg [⟨(.t 56), .mv (.x 5), none⟩,
          ⟨(.t 57), .call 95 [(.x 8), (.t 56)], none⟩])
        (.seq
         (.reg [⟨(.t 58), .mv (.x 0), none⟩,
           ⟨(.t 59), .iad 1 (.t 58) (.c (.int .i64 0)), none⟩,
           ⟨(.t 60), .ld (.t 59), none⟩,
           ⟨(.t 61), .call 96 [(.x 8), (.t 60)], none⟩])
         (.seq
          (.seq
           (.reg [⟨(.t 62), .mv (.x 0), none⟩,
             ⟨(.x 63), .slc 1 (.t 62) (some (.c (.int .i64 1))) none, none⟩,
             ⟨(.x 64), .len 1 (.x 63), none⟩,
             ⟨(.x 65), .mv (.c (.int .i64 0)), none⟩])
           (.block 3
            (.loop
             (.seq
              (.reg [⟨(.x 66), .bin .lss (.x 65) (.x 64), none⟩])
              (.seq
               (.cond (.x 66)
                .skip
                (.exit 3))
               (.seq
                (.block 4
                 (.seq
                  (.reg [⟨(.t 67), .iad 1 (.x 63) (.x 65), none⟩,
                    ⟨(.t 68), .ld (.t 67), none⟩,
                    ⟨(.x 10), .mv (.t 68), none⟩])
                  (.seq
                   (.reg [⟨(.t 69), .mv (.x 1), none⟩,
                     ⟨(.t 70), .call 96 [(.x 8), (.t 69)], none⟩])
                   (.reg [⟨(.t 71), .mv (.x 10), none⟩,
                     ⟨(.t 72), .call 96 [(.x 8), (.t 71)], none⟩]))))
                (.reg [⟨(.t 73), .bin .add (.x 65) (.c (.int .i64 1)), none⟩,
                  ⟨(.x 65), .mv (.t 73), none⟩])))))))
          (.seq
           (.reg [⟨(.t 74), .call 98 [(.x 8)], none⟩,
             ⟨(.x 4), .mv (.t 74), none⟩])
           .ret))))))))))
def resstrJoin : List RV := [.t 4]
theorem nbstrJoin : fnstrJoin.nb = 0 := rfl
theorem isstrJoin : IsFn fnstrJoin 81 codestrJoin resstrJoin := ⟨⟨Tryd.f81, _, Tryd.func81, rfl, rfl, by kernel_rfl, by kernel_rfl, by kernel_rfl⟩⟩

/-- robuststats/robuststatsref01.double -/
noncomputable def fnrDouble : FnD := ⟨Tryd.prog, [0, 1, 4, 5, 9], [], 14, 0, false⟩
def coderDouble : DC :=
 (.seq
  (.reg [⟨(.x 4), .mv (.c .nils), none⟩])
  (.seq
   (.reg [⟨(.t 6), .mv (.x 0), none⟩,
     ⟨(.t 7), .call 77 [(.t 6), (.c (.int .u32 2)), (.c (.int .i64 0))], none⟩,
     ⟨(.x 5), .mv (.t 7), none⟩])
   (.seq
    (.seq
     (.reg [⟨(.t 8), .mv (.x 1), none⟩,
       ⟨(.x 9), .bin .eql (.t 8) (.c (.int .u32 1)), none⟩])
     (.cond (.x 9)
      (.reg [⟨(.t 10), .mv (.x 5), none⟩,
        ⟨(.t 11), .bsl 1 [(.int .u32 0)] [(0, 1, (.c (.int .u32 1)))], none⟩,
        ⟨(.t 12), .call 54 [(.t 10), (.t 11)], none⟩,
        ⟨(.x 5), .mv (.t 12), none⟩])
      .skip))
    (.seq
     (.reg [⟨(.t 13), .mv (.x 5), none⟩,
       ⟨(.x 4), .mv (.t 13), none⟩])
     .ret))))
def resrDouble : List RV := [.t 4]
theorem nbrDouble : fnrDouble.nb = 0 := rfl
theorem isrDouble : IsFn fnrDouble 82 coderDouble resrDouble := ⟨⟨Tryd.f82, _, Tryd.func82, rfl, rfl, by kernel_rfl, by kernel_rfl, by kernel_rfl⟩⟩

/-- robuststats/robuststatsref01.bit -/
noncomputable def fnrBit : FnD := ⟨Tryd.prog, [0, 1, 4], [], 15, 0, false⟩
def coderBit : DC :=
 (.seq
  (.reg [⟨(.x 4), .mv (.c (.int .u32 0)), none⟩])
  (.seq
   (.reg [⟨(.t 5), .mv (.x 0), none⟩,
     ⟨(.t 6), .mv (.x 1), none⟩,
     ⟨(.t 7), .bin .quo (.t 6) (.c (.int .i64 32)), none⟩,
     ⟨(.t 8), .iad 1 (.t 5) (.t 7), none⟩,
     ⟨(.t 9), .ld (.t 8), none⟩,
     ⟨(.t 10), .mv (.x 1), none⟩,
     ⟨(.t 11), .bin .rem (.t 10) (.c (.int .i64 32)), none⟩,
     ⟨(.t 12), .conv .u64 (.t 11), none⟩,
     ⟨(.t 13), .bin .shr (.t 9) (.t 12), none⟩,
     ⟨(.t 14), .bin .and (.t 13) (.c (.int .u32 1)), none⟩,
     ⟨(.x 4), .mv (.t 14), none⟩])
   .ret))
def resrBit : List RV := [.t 4]
theorem nbrBit : fnrBit.nb = 0 := rfl
theorem isrBit : IsFn fnrBit 83 coderBit resrBit := ⟨⟨Tryd.f83, _, Tryd.func83, rfl, rfl, by kernel_rfl, by kernel_rfl, by kernel_rfl⟩⟩

/-- robuststats/robuststatsref01.compare -/
noncomputable def fnrcmp : FnD := ⟨Tryd.prog, [0, 1, 4, 5, 10, 15, 20, 31, 40], [], 41, 0, false⟩
def codercmp : DC :=
 (.seq
  (.reg [⟨(.x 4), .mv (.c (.int .i64 0)), none⟩])
  (.seq
   (.seq
    (.reg [⟨(.t 6), .mv (.x 0), none⟩,
      ⟨(.t 7), .len 1 (.t 6), none⟩,
      ⟨(.t 8), .mv (.x 1), none⟩,
      ⟨(.t 9), .len 1 (.t 8), none⟩,
      ⟨(.x 10), .bin .neq (.t 7) (.t 9), none⟩])
    (.cond (.x 10)
     (.seq
      (.seq
       (.reg [⟨(.t 11), .mv (.x 0), none⟩,
         ⟨(.t 12), .len 1 (.t 11), none⟩,
         ⟨(.t 13), .mv (.x 1), none⟩,
         ⟨(.t 14), .len 1 (.t 13), none⟩,
         ⟨(.x 15), .bin .lss (.t 12) (.t 14), none⟩])
       (.cond (.x 15)
        (.seq
         (.reg [⟨(.x 4), .mv (.c (.int .i64 (-1))), none⟩])
         .ret)
        .skip))
      (.seq
       (.reg [⟨(.x 4), .mv (.c (.int .i64 1)), none⟩])
       .ret))
     .skip))
   (.seq
    (.seq
     (.reg [⟨(.t 16), .mv (.x 0), none⟩,
       ⟨(.t 17), .len 1 (.t 16), none⟩,
       ⟨(.t 18), .bin .sub (.t 17) (.c (.int .i64 1)), none⟩,
       ⟨(.x 5), .mv (.t 18), none⟩])
     (.block 0
      (.loop
       (.seq
        (.seq
         (.reg [⟨(.t 19), .mv (.x 5), none⟩,
           ⟨(.x 20), .bin .geq (.t 19) (.c (.int .i64 0)), none⟩])
         (.cond (.x 20)
          .skip
          (.exit 0)))
        (.seq
         (.block 1
          (.seq
           (.seq
            (.regd [⟨(.t 23), .mv (.x 0), none⟩,
              ⟨(.t 24), .mv (.x 5), none⟩,
              ⟨(.t 25), .iad 1 (.t 23) (.t 24), none⟩,
              ⟨(.t 26), .ld (.t 25), none⟩,
              ⟨(.t 27), .mv (.x 1), none⟩,
              ⟨(.t 28), .mv (.x 5), none⟩,
              ⟨(.t 29), .iad 1 (.t 27) (.t 28), none⟩,
              ⟨(.t 30), .ld (.t 29), none⟩,
              ⟨(.x 31), .bin .lss (.t 26) (.t 30), none⟩])
            (.cond (.x 31)
             (.seq
              (.reg [⟨(.x 4), .mv (.c (.int .i64 (-1))), none⟩])
              .ret)
             .skip))
           (.seq
            (.regd [⟨(.t 32), .mv (.x 0), none⟩,
              ⟨(.t 33), .mv (.x 5), none⟩,
              ⟨(.t 34), .iad 1 (.t 32) (.t 33), none⟩,
              ⟨(.t 35), .ld (.t 34), none⟩,
              ⟨(.t 36), .mv (.x 1), none⟩,
              ⟨(.t 37), .mv (.x 5), none⟩,
              ⟨(.t 38), .iad 1 (.t 36) (.t 37), none⟩,
              ⟨(.t 39), .ld (.t 38), none⟩,
              ⟨(.x 40), .bin .gtr (.t 35) (.t 39), none⟩])
            (.cond (.x 40)
             (.seq
              (.reg [⟨(.x 4), .mv (.c (.int .i64 1)), none⟩])
              .ret)
             .skip))))
         (.reg [⟨(.t 21), .mv (.x 5), none⟩,
           ⟨(.t 22), .bin .sub (.t 21) (.c (.int .i64 1)), none⟩,
           ⟨(.x 5), .mv (.t 22), none⟩]))))))
    (.seq
     (.reg [⟨(.x 4), .mv (.c (.int .i64 0)), none⟩])
     .ret))))
def resrcmp : List RV := [.t 4]
theorem nbrcmp : fnrcmp.nb = 0 := rfl
theorem isrcmp : IsFn fnrcmp 84 codercmp resrcmp := ⟨⟨Tryd.f84, _, Tryd.func84, rfl, rfl, by kernel_rfl, by kernel_rfl, by kernel_rfl⟩⟩

/-- robuststats/natural.gcd -/
noncomputable def fnngcd : FnD := ⟨Tryd.prog, [0, 1, 4, 6], [], 12, 0, false⟩
def codengcd : DC :=
 (.seq
  (.reg [⟨(.x 4), .mv (.c (.int .u64 0)), none⟩])
  (.seq
   (.block 0
    (.loop
     (.seq
      (.seq
       (.reg [⟨(.t 5), .mv (.x 1), none⟩,
         ⟨(.x 6), .bin .neq (.t 5) (.c (.int .u64 0)), none⟩])
       (.cond (.x 6)
        .skip
        (.exit 0)))
      (.block 1
       (.regd [⟨(.t 7), .mv (.x 1), none⟩,
         ⟨(.t 8), .mv (.x 0), none⟩,
         ⟨(.t 9), .mv (.x 1), none⟩,
         ⟨(.t 10), .bin .rem (.t 8) (.t 9), none⟩,
         ⟨(.x 0), .mv (.t 7), none⟩,
         ⟨(.x 1), .mv (.t 10), none⟩])))))
   (.seq
    (.reg [⟨(.t 11), .mv (.x 0), none⟩,
      ⟨(.x 4), .mv (.t 11), none⟩])
    .ret)))
def resngcd : List RV := [.t 4]
theorem nbngcd : fnngcd.nb = 0 := rfl
theorem isngcd : IsFn fnngcd 85 codengcd resngcd := ⟨⟨Tryd.f85, _, Tryd.func85, rfl, rfl, by kernel_rfl, by kernel_rfl, by kernel_rfl⟩⟩

/-- math/bits.Div32 -/
noncomputable def fnDiv32 : FnD := ⟨Tryd.prog, [0, 1, 2, 6, 7, 8, 15], [], 33, 0, false⟩
def codeDiv32 : DC :=
 (.seq
  (.reg [⟨(.x 6), .mv (.c (.int .u32 0)), none⟩,
    ⟨(.x 7), .mv (.c (.int .u32 0)), none⟩])
  (.seq
   (.seq
    (.reg [⟨(.t 9), .mv (.x 2), none⟩,
      ⟨(.t 10), .bin .neq (.t 9) (.c (.int .u32 0)), none⟩,
      ⟨(.t 11), .mv (.t 10), none⟩,
      ⟨(.t 12), .mv (.x 2), (some ((.t 11), true))⟩,
      ⟨(.t 13), .mv (.x 0), (some ((.t 11), true))⟩,
      ⟨(.t 14), .bin .leq (.t 12) (.t 13), (some ((.t 11), true))⟩,
      ⟨(.x 15), .pick (.t 11) (.t 14) (.c (.bool false)), none⟩])
    (.cond (.x 15)
     (.reg [⟨(.t 16), .ld (.c .undef), none⟩,
       ⟨.no, .pan (.t 16), none⟩])
     .skip))
   (.seq
    (.reg [⟨(.t 17), .mv (.x 0), none⟩,
      ⟨(.t 18), .conv .u64 (.t 17), none⟩,
      ⟨(.t 19), .bin .shl (.t 18) (.c (.int .u64 32)), none⟩,
      ⟨(.t 20), .mv (.x 1), none⟩,
      ⟨(.t 21), .conv .u64 (.t 20), none⟩,
      ⟨(.t 22), .bin .or (.t 19) (.t 21), none⟩,
      ⟨(.x 8), .mv (.t 22), none⟩])
    (.seq
     (.regd [⟨(.t 23), .mv (.x 8), none⟩,
       ⟨(.t 24), .mv (.x 2), none⟩,
       ⟨(.t 25), .conv .u64 (.t 24), none⟩,
       ⟨(.t 26), .bin .quo (.t 23) (.t 25), none⟩,
       ⟨(.t 27), .conv .u32 (.t 26), none⟩,
       ⟨(.t 28), .mv (.x 8), none⟩,
       ⟨(.t 29), .mv (.x 2), none⟩,
       ⟨(.t 30), .conv .u64 (.t 29), none⟩,
       ⟨(.t 31), .bin .rem (.t 28) (.t 30), none⟩,
       ⟨(.t 32), .conv .u32 (.t 31), none⟩,
       ⟨(.x 6), .mv (.t 27), none⟩,
       ⟨(.x 7), .mv (.t 32), none⟩])
     .ret))))
def resDiv32 : List RV := [.t 6, .t 7]
theorem nbDiv32 : fnDiv32.nb = 0 := rfl
theorem isDiv32 : IsFn fnDiv32 86 codeDiv32 resDiv32 := ⟨⟨Tryd.f86, _, Tryd.func86, rfl, rfl, by kernel_rfl, by kernel_rfl, by kernel_rfl⟩⟩

/-- math/bits.LeadingZeros32 -/
noncomputable def fnLz32 : FnD := ⟨Tryd.prog, [0, 2], [], 6, 0, false⟩
def codeLz32 : DC :=
 (.seq
  (.reg [⟨(.x 2), .mv (.c (.int .i64 0)), none⟩])
  (.seq
   (.reg [⟨(.t 3), .mv (.x 0), none⟩,
     ⟨(.t 4), .call 99 [(.t 3)], none⟩,
     ⟨(.t 5), .bin .sub (.c (.int .i64 32)) (.t 4), none⟩,
     ⟨(.x 2), .mv (.t 5), none⟩])
   .ret))
def resLz32 : List RV := [.t 2]
theorem nbLz32 : fnLz32.nb = 0 := rfl
theorem isLz32 : IsFn fnLz32 87 codeLz32 resLz32 := ⟨⟨Tryd.f87, _, Tryd.func87, rfl, rfl, by kernel_rfl, by kernel_rfl, by kernel_rfl⟩⟩

/-- robuststats/natural.shifted -/
noncomputable def fnnShifted : FnD := ⟨Tryd.prog, [0, 1, 4, 5, 6, 7, 8, 13, 14, 15, 16], [], 41, 0, false⟩
def codenShifted : DC :=
 (.seq
  (.reg [⟨(.x 4), .mv (.c .nils), none⟩])
  (.seq
   (.reg [⟨(.t 9), .mv (.x 0), none⟩,
     ⟨(.t 10), .len 1 (.t 9), none⟩,
     ⟨(.t 11), .bin .add (.t 10) (.c (.int .i64 1)), none⟩,
     ⟨(.t 12), .mks 1 4 [(.int .u32 0)] (.t 11) (.t 11), none⟩,
     ⟨(.x 5), .mv (.t 12), none⟩])
   (.seq
    (.seq
     (.reg [⟨(.x 13), .mv (.x 0), none⟩,
       ⟨(.x 14), .len 1 (.x 13), none⟩,
       ⟨(.x 15), .mv (.c (.int .i64 0)), none⟩])
     (.block 0
      (.loop
       (.seq
        (.reg [⟨(.x 16), .bin .lss (.x 15) (.x 14), none⟩])
        (.seq
         (.cond (.x 16)
          .skip
          (.exit 0))
         (.seq
          (.block 1
           (.seq
            (.reg [⟨(.t 17), .mv (.x 15), none⟩,
              ⟨(.t 18), .iad 1 (.x 13) (.x 15), none⟩,
              ⟨(.t 19), .ld (.t 18), none⟩,
              ⟨(.x 6), .mv (.t 17), none⟩,
              ⟨(.x 7), .mv (.t 19), none⟩])
            (.seq
             (.reg [⟨(.t 20), .mv (.x 7), none⟩,
               ⟨(.t 21), .conv .u64 (.t 20), none⟩,
               ⟨(.t 22), .mv (.x 1), none⟩,
               ⟨(.t 23), .bin .shl (.t 21) (.t 22), none⟩,
               ⟨(.x 8), .mv (.t 23), none⟩])
             (.seq
              (.reg [⟨(.t 24), .mv (.x 5), none⟩,
                ⟨(.t 25), .mv (.x 6), none⟩,
                ⟨(.t 26), .iad 1 (.t 24) (.t 25), none⟩,
                ⟨(.t 27), .ld (.t 26), none⟩,
                ⟨(.t 28), .mv (.x 8), none⟩,
                ⟨(.t 29), .conv .u32 (.t 28), none⟩,
                ⟨(.t 30), .bin .or (.t 27) (.t 29), none⟩,
                ⟨(.t 31), .iad 1 (.t 24) (.t 25), none⟩,
                ⟨.no, .st (.t 31) (.t 30), none⟩])
              (.reg [⟨(.t 32), .mv (.x 5), none⟩,
                ⟨(.t 33), .mv (.x 6), none⟩,
                ⟨(.t 34), .bin .add (.t 33) (.c (.int .i64 1)), none⟩,
                ⟨(.t 35), .mv (.x 8), none⟩,
                ⟨(.t 36), .bin .shr (.t 35) (.c (.int .u64 32)), none⟩,
                ⟨(.t 37), .conv .u32 (.t 36), none⟩,
                ⟨(.t 38), .iad 1 (.t 32) (.t 34), none⟩,
                ⟨.no, .st (.t 38) (.t 37), none⟩])))))
          (.reg [⟨(.t 39), .bin .add (.x 15) (.c (.int .i64 1)), none⟩,
            ⟨(.x 15), .mv (.t 39), none⟩])))))))
    (.seq
     (.reg [⟨(.t 40), .mv (.x 5), none⟩,
       ⟨(.x 4), .mv (.t 40), none⟩])
     .ret))))
def resnShifted : List RV := [.t 4]
theorem nbnShifted : fnnShifted.nb = 0 := rfl
theorem isnShifted : IsFn fnnShifted 88 codenShifted resnShifted := ⟨⟨Tryd.f88, _, Tryd.func88, rfl, rfl, by kernel_rfl, by kernel_rfl, by kernel_rfl⟩⟩

/-- robuststats/natural.guess -/
noncomputable def fnnGuess : FnD := ⟨Tryd.prog, [0, 1, 2, 3, 4, 10, 11, 12, 13, 45], [], 53, 0, false⟩
def codenGuess : DC :=
 (.seq
  (.reg [⟨(.x 10), .mv (.c (.int .u64 0)), none⟩])
  (.seq
   (.reg [⟨(.t 14), .mv (.x 0), none⟩,
     ⟨(.t 15), .conv .u64 (.t 14), none⟩,
     ⟨(.t 16), .bin .shl (.t 15) (.c (.int .u64 32)), none⟩,
     ⟨(.t 17), .mv (.x 1), none⟩,
     ⟨(.t 18), .conv .u64 (.t 17), none⟩,
     ⟨(.t 19), .bin .or (.t 16) (.t 18), none⟩,
     ⟨(.x 11), .mv (.t 19), none⟩])
   (.seq
    (.regd [⟨(.t 20), .mv (.x 11), none⟩,
      ⟨(.t 21), .mv (.x 3), none⟩,
      ⟨(.t 22), .conv .u64 (.t 21), none⟩,
      ⟨(.t 23), .bin .quo (.t 20) (.t 22), none⟩,
      ⟨(.t 24), .mv (.x 11), none⟩,
      ⟨(.t 25), .mv (.x 3), none⟩,
      ⟨(.t 26), .conv .u64 (.t 25), none⟩,
      ⟨(.t 27), .bin .rem (.t 24) (.t 26), none⟩,
      ⟨(.x 12), .mv (.t 23), none⟩,
      ⟨(.x 13), .mv (.t 27), none⟩])
    (.seq
     (.block 0
      (.loop
       (.seq
        (.seq
         (.reg [⟨(.t 28), .mv (.x 13), none⟩,
           ⟨(.t 29), .bin .lss (.t 28) (.c (.int .u64 4294967296)), none⟩,
           ⟨(.t 30), .mv (.t 29), none⟩,
           ⟨(.t 31), .mv (.x 12), (some ((.t 30), true))⟩,
           ⟨(.t 32), .bin .geq (.t 31) (.c (.int .u64 4294967296)), (some ((.t 30), true))⟩,
           ⟨(.t 33), .mv (.t 32), (some ((.t 30), true))⟩,
           ⟨(.t 34), .mv (.x 12), (some ((.t 33), false))⟩,
           ⟨(.t 35), .mv (.x 4), (some ((.t 33), false))⟩,
           ⟨(.t 36), .conv .u64 (.t 35), (some ((.t 33), false))⟩,
           ⟨(.t 37), .bin .mul (.t 34) (.t 36), (some ((.t 33), false))⟩,
           ⟨(.t 38), .mv (.x 13), (some ((.t 33), false))⟩,
           ⟨(.t 39), .bin .shl (.t 38) (.c (.int .u64 32)), (some ((.t 33), false))⟩,
           ⟨(.t 40), .mv (.x 2), (some ((.t 33), false))⟩,
           ⟨(.t 41), .conv .u64 (.t 40), (some ((.t 33), false))⟩,
           ⟨(.t 42), .bin .or (.t 39) (.t 41), (some ((.t 33), false))⟩,
           ⟨(.t 43), .bin .gtr (.t 37) (.t 42), (some ((.t 33), false))⟩,
           ⟨(.t 44), .pick (.t 33) (.c (.bool true)) (.t 43), (some ((.t 30), true))⟩,
           ⟨(.x 45), .pick (.t 30) (.t 44) (.c (.bool false)), none⟩])
         (.cond (.x 45)
          .skip
          (.exit 0)))
        (.block 1
         (.seq
          (.reg [⟨(.t 46), .mv (.x 12), none⟩,
            ⟨(.t 47), .bin .sub (.t 46) (.c (.int .u64 1)), none⟩,
            ⟨(.x 12), .mv (.t 47), none⟩])
          (.reg [⟨(.t 48), .mv (.x 13), none⟩,
            ⟨(.t 49), .mv (.x 3), none⟩,
            ⟨(.t 50), .conv .u64 (.t 49), none⟩,
            ⟨(.t 51), .bin .add (.t 48) (.t 50), none⟩,
            ⟨(.x 13), .mv (.t 51), none⟩]))))))
     (.seq
      (.reg [⟨(.t 52), .mv (.x 12), none⟩,
        ⟨(.x 10), .mv (.t 52), none⟩])
      .ret)))))
def resnGuess : List RV := [.t 10]
theorem nbnGuess : fnnGuess.nb = 0 := rfl
theorem isnGuess : IsFn fnnGuess 89 codenGuess resnGuess := ⟨⟨Tryd.f89, _, Tryd.func89, rfl, rfl, by kernel_rfl, by kernel_rfl, by kernel_rfl⟩⟩

/-- robuststats/natural.reduce -/
noncomputable def fnnReduce : FnD := ⟨Tryd.prog, [0, 1, 2, 6, 7, 8, 9, 10, 12, 13, 14, 19], [], 49, 0, false⟩
def codenReduce : DC :=
 (.seq
  (.reg [⟨(.x 6), .mv (.c (.bool false)), none⟩])
  (.seq
   (.reg [⟨(.x 7), .mv (.c (.int .u64 0)), none⟩,
     ⟨(.x 8), .mv (.c (.int .u32 0)), none⟩])
   (.seq
    (.seq
     (.reg [⟨(.t 11), .mv (.x 0), none⟩,
       ⟨(.x 12), .len 1 (.t 11), none⟩,
       ⟨(.x 13), .mv (.c (.int .i64 0)), none⟩])
     (.block 0
      (.loop
       (.seq
        (.reg [⟨(.x 14), .bin .lss (.x 13) (.x 12), none⟩])
        (.seq
         (.cond (.x 14)
          .skip
          (.exit 0))
         (.seq
          (.block 1
           (.seq
            (.reg [⟨(.t 15), .mv (.x 13), none⟩,
              ⟨(.x 9), .mv (.t 15), none⟩])
            (.seq
             (.reg [⟨(.x 10), .mv (.c (.int .u64 0)), none⟩])
             (.seq
              (.seq
               (.reg [⟨(.t 16), .mv (.x 9), none⟩,
                 ⟨(.t 17), .mv (.x 1), none⟩,
                 ⟨(.t 18), .len 1 (.t 17), none⟩,
                 ⟨(.x 19), .bin .lss (.t 16) (.t 18), none⟩])
               (.cond (.x 19)
                (.reg [⟨(.t 20), .mv (.x 1), none⟩,
                  ⟨(.t 21), .mv (.x 9), none⟩,
                  ⟨(.t 22), .iad 1 (.t 20) (.t 21), none⟩,
                  ⟨(.t 23), .ld (.t 22), none⟩,
                  ⟨(.t 24), .conv .u64 (.t 23), none⟩,
                  ⟨(.x 10), .mv (.t 24), none⟩])
                .skip))
              (.seq
               (.reg [⟨(.t 25), .mv (.x 7), none⟩,
                 ⟨(.t 26), .mv (.x 2), none⟩,
                 ⟨(.t 27), .mv (.x 10), none⟩,
                 ⟨(.t 28), .bin .mul (.t 26) (.t 27), none⟩,
                 ⟨(.t 29), .bin .add (.t 25) (.t 28), none⟩,
                 ⟨(.x 7), .mv (.t 29), none⟩])
               (.seq
                (.reg [⟨(.t 31), .mv (.x 0), none⟩,
                  ⟨(.t 32), .mv (.x 9), none⟩,
                  ⟨(.t 33), .mv (.x 0), none⟩,
                  ⟨(.t 34), .mv (.x 9), none⟩,
                  ⟨(.t 35), .iad 1 (.t 33) (.t 34), none⟩,
                  ⟨(.t 36), .ld (.t 35), none⟩,
                  ⟨(.t 37), .mv (.x 7), none⟩,
                  ⟨(.t 38), .conv .u32 (.t 37), none⟩,
                  ⟨(.t 39), .mv (.x 8), none⟩,
                  ⟨(.t 40), .call 70 [(.t 36), (.t 38), (.t 39)], none⟩,
                  ⟨(.t 30), .mv (.t 40), none⟩,
                  ⟨(.t 41), .ext (.t 30) 0, none⟩,
                  ⟨(.t 42), .ext (.t 30) 1, none⟩,
                  ⟨(.t 43), .iad 1 (.t 31) (.t 32), none⟩,
                  ⟨.no, .st (.t 43) (.t 41), none⟩,
                  ⟨(.x 8), .mv (.t 42), none⟩])
                (.reg [⟨(.t 44), .mv (.x 7), none⟩,
                  ⟨(.t 45), .bin .shr (.t 44) (.c (.int .u64 32)), none⟩,
                  ⟨(.x 7), .mv (.t 45), none⟩])))))))
          (.reg [⟨(.t 46), .bin .add (.x 13) (.c (.int .i64 1)), none⟩,
            ⟨(.x 13), .mv (.t 46), none⟩])))))))
    (.seq
     (.reg [⟨(.t 47), .mv (.x 8), none⟩,
       ⟨(.t 48), .bin .neq (.t 47) (.c (.int .u32 0)), none⟩,
       ⟨(.x 6), .mv (.t 48), none⟩])
     .ret))))
def resnReduce : List RV := [.t 6]
theorem nbnReduce : fnnReduce.nb = 0 := rfl
theorem isnReduce : IsFn fnnReduce 90 codenReduce resnReduce := ⟨⟨Tryd.f90, _, Tryd.func90, rfl, rfl, by kernel_rfl, by kernel_rfl, by kernel_rfl⟩⟩

/-- robuststats/natural.restore -/
noncomputable def fnnRestore : FnD := ⟨Tryd.prog, [0, 1, 4, 5, 6, 8, 9, 10, 15], [], 34, 0, false⟩
def codenRestore : DC :=
 (.seq
  (.reg [⟨(.x 4), .mv (.c (.int .u32 0)), none⟩])
  (.seq
   (.reg [⟨(.t 7), .mv (.x 0), none⟩,
     ⟨(.x 8), .len 1 (.t 7), none⟩,
     ⟨(.x 9), .mv (.c (.int .i64 0)), none⟩])
   (.block 0
    (.loop
     (.seq
      (.reg [⟨(.x 10), .bin .lss (.x 9) (.x 8), none⟩])
      (.seq
       (.cond (.x 10)
        .skip
        (.exit 0))
       (.seq
        (.block 1
         (.seq
          (.reg [⟨(.t 11), .mv (.x 9), none⟩,
            ⟨(.x 5), .mv (.t 11), none⟩])
          (.seq
           (.reg [⟨(.x 6), .mv (.c (.int .u32 0)), none⟩])
           (.seq
            (.seq
             (.reg [⟨(.t 12), .mv (.x 5), none⟩,
               ⟨(.t 13), .mv (.x 1), none⟩,
               ⟨(.t 14), .len 1 (.t 13), none⟩,
               ⟨(.x 15), .bin .lss (.t 12) (.t 14), none⟩])
             (.cond (.x 15)
              (.reg [⟨(.t 16), .mv (.x 1), none⟩,
                ⟨(.t 17), .mv (.x 5), none⟩,
                ⟨(.t 18), .iad 1 (.t 16) (.t 17), none⟩,
                ⟨(.t 19), .ld (.t 18), none⟩,
                ⟨(.x 6), .mv (.t 19), none⟩])
              .skip))
            (.reg [⟨(.t 21), .mv (.x 0), none⟩,
              ⟨(.t 22), .mv (.x 5), none⟩,
              ⟨(.t 23), .mv (.x 0), none⟩,
              ⟨(.t 24), .mv (.x 5), none⟩,
              ⟨(.t 25), .iad 1 (.t 23) (.t 24), none⟩,
              ⟨(.t 26), .ld (.t 25), none⟩,
              ⟨(.t 27), .mv (.x 6), none⟩,
              ⟨(.t 28), .mv (.x 4), none⟩,
              ⟨(.t 29), .call 68 [(.t 26), (.t 27), (.t 28)], none⟩,
              ⟨(.t 20), .mv (.t 29), none⟩,
              ⟨(.t 30), .ext (.t 20) 0, none⟩,
              ⟨(.t 31), .ext (.t 20) 1, none⟩,
              ⟨(.t 32), .iad 1 (.t 21) (.t 22), none⟩,
              ⟨.no, .st (.t 32) (.t 30), none⟩,
              ⟨(.x 4), .mv (.t 31), none⟩])))))
        (.reg [⟨(.t 33), .bin .add (.x 9) (.c (.int .i64 1)), none⟩,
          ⟨(.x 9), .mv (.t 33), none⟩]))))))))
def resnRestore : List RV := []
theorem nbnRestore : fnnRestore.nb = 0 := rfl
theorem isnRestore : IsFn fnnRestore 91 codenRestore resnRestore := ⟨⟨Tryd.f91, _, Tryd.func91, rfl, rfl, by kernel_rfl, by kernel_rfl, by kernel_rfl⟩⟩

/-- internal/strconv.Itoa -/
noncomputable def fniscItoa : FnD := ⟨Tryd.prog, [0, 2], [], 5, 0, false⟩
def codeiscItoa : DC :=
 (.seq
  (.reg [⟨(.x 2), .mv (.c (.str [])), none⟩])
  (.seq
   (.reg [⟨(.t 3), .mv (.x 0), none⟩,
     ⟨(.t 4), .call 100 [(.t 3), (.c (.int .i64 10))], none⟩,
     ⟨(.x 2), .mv (.t 4), none⟩])
   .ret))
def resiscItoa : List RV := [.t 2]
theorem nbiscItoa : fniscItoa.nb = 0 := rfl
theorem isiscItoa : IsFn fniscItoa 92 codeiscItoa resiscItoa := ⟨⟨Tryd.f92, _, Tryd.func92, rfl, rfl, by kernel_rfl, by kernel_rfl, by kernel_rfl⟩⟩

/-- math/bits.Len32 -/
noncomputable def fnLen32 : FnD := ⟨Tryd.prog, [0, 2, 4, 8], [], 19, 0, false⟩
def codeLen32 : DC :=
 (.seq
  (.reg [⟨(.x 2), .mv (.c (.int .i64 0)), none⟩])
  (.seq
   (.seq
    (.reg [⟨(.t 3), .mv (.x 0), none⟩,
      ⟨(.x 4), .bin .geq (.t 3) (.c (.int .u32 65536)), none⟩])
    (.cond (.x 4)
     (.seq
      (.reg [⟨(.t 5), .mv (.x 0), none⟩,
        ⟨(.t 6), .bin .shr (.t 5) (.c (.int .u64 16)), none⟩,
        ⟨(.x 0), .mv (.t 6), none⟩])
      (.reg [⟨(.x 2), .mv (.c (.int .i64 16)), none⟩]))
     .skip))
   (.seq
    (.seq
     (.reg [⟨(.t 7), .mv (.x 0), none⟩,
       ⟨(.x 8), .bin .geq (.t 7) (.c (.int .u32 256)), none⟩])
     (.cond (.x 8)
      (.seq
       (.reg [⟨(.t 9), .mv (.x 0), none⟩,
         ⟨(.t 10), .bin .shr (.t 9) (.c (.int .u64 8)), none⟩,
         ⟨(.x 0), .mv (.t 10), none⟩])
       (.reg [⟨(.t 11), .mv (.x 2), none⟩,
         ⟨(.t 12), .bin .add (.t 11) (.c (.int .i64 8)), none⟩,
         ⟨(.x 2), .mv (.t 12), none⟩]))
      .skip))
    (.seq
     (.reg [⟨(.t 13), .mv (.x 2), none⟩,
       ⟨(.t 14), .mv (.x 0), none⟩,
       ⟨(.t 15), .conv .u8 (.t 14), none⟩,
       ⟨(.t 16), .idx (.c (.str [0, 1, 2, 2, 3, 3, 3, 3, 4, 4, 4, 4, 4, 4, 4, 4, 5, 5, 5, 5, 5, 5, 5, 5, 5, 5, 5, 5, 5, 5, 5, 5, 6, 6, 6, 6, 6, 6, 6, 6, 6, 6, 6, 6, 6, 6, 6, 6, 6, 6, 6, 6, 6, 6, 6, 6, 6, 6, 6, 6, 6, 6, 6, 6, 7, 7, 7, 7, 7, 7, 7, 7, 7, 7, 7, 7, 7, 7, 7, 7, 7, 7, 7, 7, 7, 7, 7, 7, 7, 7, 7, 7, 7, 7, 7, 7, 7, 7, 7, 7, 7, 7, 7, 7, 7, 7, 7, 7, 7, 7, 7, 7, 7, 7, 7, 7, 7, 7, 7, 7, 7, 7, 7, 7, 7, 7, 7, 7, 8, 8, 8, 8, 8, 8, 8, 8, 8, 8, 8, 8, 8, 8, 8, 8, 8, 8, 8, 8, 8, 8, 8, 8, 8, 8, 8, 8, 8, 8, 8, 8, 8, 8, 8, 8, 8, 8, 8, 8, 8, 8, 8, 8, 8, 8, 8, 8, 8, 8, 8, 8, 8, 8, 8, 8, 8, 8, 8, 8, 8, 8, 8, 8, 8, 8, 8, 8, 8, 8, 8, 8, 8, 8, 8, 8, 8, 8, 8, 8, 8, 8, 8, 8, 8, 8, 8, 8, 8, 8, 8, 8, 8, 8, 8, 8, 8, 8, 8, 8, 8, 8, 8, 8, 8, 8, 8, 8, 8, 8, 8, 8, 8, 8, 8, 8, 8, 8, 8, 8, 8, 8, 8, 8, 8, 8, 8, 8])) (.t 15), none⟩,
       ⟨(.t 17), .conv .i64 (.t 16), none⟩,
       ⟨(.t 18), .bin .add (.t 13) (.t 17), none⟩,
       ⟨(.x 2), .mv (.t 18), none⟩])
     .ret))))
def resLen32 : List RV := [.t 2]
theorem nbLen32 : fnLen32.nb = 0 := rfl
theorem isLen32 : IsFn fnLen32 99 codeLen32 resLen32 := ⟨⟨Tryd.f99, _, Tryd.func99, rfl, rfl, by kernel_rfl, by kernel_rfl, by kernel_rfl⟩⟩

/-- internal/strconv.FormatInt -/
noncomputable def fniscFormatInt : FnD := ⟨Tryd.prog, [0, 1, 4, 5, 6, 7, 9, 11, 17, 23, 34], [], 54, 0, false⟩
def codeiscFormatInt : DC :=
 (.seq
  (.reg [⟨(.x 4), .mv (.c (.str [])), none⟩])
  (.seq
   (.seq
    (.reg [⟨(.t 10), .mv (.x 1), none⟩,
      ⟨(.x 11), .bin .eql (.t 10) (.c (.int .i64 10)), none⟩])
    (.cond (.x 11)
     (.seq
      (.seq
       (.reg [⟨(.t 12), .mv (.x 0), none⟩,
         ⟨(.t 13), .bin .leq (.c (.int .i64 0)) (.t 12), none⟩,
         ⟨(.t 14), .mv (.t 13), none⟩,
         ⟨(.t 15), .mv (.x 0), (some ((.t 14), true))⟩,
         ⟨(.t 16), .bin .lss (.t 15) (.c (.int .i64 100)), (some ((.t 14), true))⟩,
         ⟨(.x 17), .pick (.t 14) (.t 16) (.c (.bool false)), none⟩])
       (.cond (.x 17)
        (.seq
         (.reg [⟨(.t 18), .mv (.x 0), none⟩,
           ⟨(.t 19), .call 106 [(.t 18)], none⟩,
           ⟨(.x 4), .mv (.t 19), none⟩])
         .ret)
        .skip))
      (.seq
       (.reg [⟨(.x 5), .alloc [(.int .u8 0), (.int .u8 0), (.int .u8 0), (.int .u8 0), (.int .u8 0), (.int .u8 0), (.int .u8 0), (.int .u8 0), (.int .u8 0), (.int .u8 0), (.int .u8 0), (.int .u8 0), (.int .u8 0), (.int .u8 0), (.int .u8 0), (.int .u8 0), (.int .u8 0), (.int .u8 0), (.int .u8 0), (.int .u8 0), (.int .u8 0), (.int .u8 0), (.int .u8 0), (.int .u8 0)], none⟩])
       (.seq
        (.reg [⟨(.t 20), .mv (.x 0), none⟩,
          ⟨(.t 21), .conv .u64 (.t 20), none⟩,
          ⟨(.x 6), .mv (.t 21), none⟩])
        (.seq
         (.seq
          (.reg [⟨(.t 22), .mv (.x 0), none⟩,
            ⟨(.x 23), .bin .lss (.t 22) (.c (.int .i64 0)), none⟩])
          (.cond (.x 23)
           (.reg [⟨(.t 24), .mv (.x 6), none⟩,
             ⟨(.t 25), .un .neg (.t 24), none⟩,
             ⟨(.x 6), .mv (.t 25), none⟩])
           .skip))
         (.seq
          (.reg [⟨(.t 26), .mv (.x 6), none⟩,
            ⟨(.t 27), .call 107 [(.t 26)], none⟩,
            ⟨(.x 7), .mv (.t 27), none⟩])
          (.seq
           .bad
           (.seq
            (.seq
             (.reg [⟨(.t 33), .mv (.x 0), none⟩,
               ⟨(.x 34), .bin .lss (.t 33) (.c (.int .i64 0)), none⟩])
             (.cond (.x 34)
              (.seq
               (.reg [⟨(.t 35), .iaa 24 1 (.x 5) (.c (.int .i64 0)), none⟩,
                 ⟨.no, .st (.t 35) (.c (.int .u8 45)), none⟩])
               (.seq
                .bad
                .ret))
              .skip))
            (.seq
             .bad
             .ret))))))))
     .skip))
   (.seq
    (.reg [⟨(.t 45), .mv (.x 0), none⟩,
      ⟨(.t 46), .conv .u64 (.t 45), none⟩,
      ⟨(.t 47), .mv (.x 1), none⟩,
      ⟨(.t 48), .mv (.x 0), none⟩,
      ⟨(.t 49), .bin .lss (.t 48) (.c (.int .i64 0)), none⟩,
      ⟨(.t 50), .call 109 [(.c .nils), (.t 46), (.t 47), (.t 49), (.c (.bool false))], none⟩,
      ⟨(.t 44), .mv (.t 50), none⟩,
      ⟨(.t 51), .ext (.t 44) 0, none⟩,
      ⟨(.t 52), .ext (.t 44) 1, none⟩,
      ⟨(.t 8), .mv (.t 51), none⟩,
      ⟨(.x 9), .mv (.t 52), none⟩])
    (.seq
     (.reg [⟨(.t 53), .mv (.x 9), none⟩,
       ⟨(.x 4), .mv (.t 53), none⟩])
     .ret))))
def resiscFormatInt : List RV := [.t 4]
theorem nbiscFormatInt : fniscFormatInt.nb = 0 := rfl
theorem isiscFormatInt : IsFn fniscFormatInt 100 codeiscFormatInt resiscFormatInt := ⟨⟨Tryd.f100, _, Tryd.func100, rfl, rfl, by kernel_rfl, by kernel_rfl, by kernel_rfl⟩⟩

/-- internal/strconv.small -/
noncomputable def fniscsmall : FnD := ⟨Tryd.prog, [0, 2, 4], [], 15, 0, false⟩
def codeiscsmall : DC :=
 (.seq
  (.reg [⟨(.x 2), .mv (.c (.str [])), none⟩])
  (.seq
   (.seq
    (.reg [⟨(.t 3), .mv (.x 0), none⟩,
      ⟨(.x 4), .bin .lss (.t 3) (.c (.int .i64 10)), none⟩])
    (.cond (.x 4)
     (.seq
      (.reg [⟨(.t 5), .mv (.x 0), none⟩,
        ⟨(.t 6), .mv (.x 0), none⟩,
        ⟨(.t 7), .bin .add (.t 6) (.c (.int .i64 1)), none⟩,
        ⟨(.t 8), .slcS (.c (.str [48, 49, 50, 51, 52, 53, 54, 55, 56, 57, 97, 98, 99, 100, 101, 102, 103, 104, 105, 106, 107, 108, 109, 110, 111, 112, 113, 114, 115, 116, 117, 118, 119, 120, 121, 122])) (some (.t 5)) (some (.t 7)), none⟩,
        ⟨(.x 2), .mv (.t 8), none⟩])
      .ret)
     .skip))
   (.seq
    (.reg [⟨(.t 9), .mv (.x 0), none⟩,
      ⟨(.t 10), .bin .mul (.t 9) (.c (.int .i64 2)), none⟩,
      ⟨(.t 11), .mv (.x 0), none⟩,
      ⟨(.t 12), .bin .mul (.t 11) (.c (.int .i64 2)), none⟩,
      ⟨(.t 13), .bin .add (.t 12) (.c (.int .i64 2)), none⟩,
      ⟨(.t 14), .slcS (.c (.str [48, 48, 48, 49, 48, 50, 48, 51, 48, 52, 48, 53, 48, 54, 48, 55, 48, 56, 48, 57, 49, 48, 49, 49, 49, 50, 49, 51, 49, 52, 49, 53, 49, 54, 49, 55, 49, 56, 49, 57, 50, 48, 50, 49, 50, 50, 50, 51, 50, 52, 50, 53, 50, 54, 50, 55, 50, 56, 50, 57, 51, 48, 51, 49, 51, 50, 51, 51, 51, 52, 51, 53, 51, 54, 51, 55, 51, 56, 51, 57, 52, 48, 52, 49, 52, 50, 52, 51, 52, 52, 52, 53, 52, 54, 52, 55, 52, 56, 52, 57, 53, 48, 53, 49, 53, 50, 53, 51, 53, 52, 53, 53, 53, 54, 53, 55, 53, 56, 53, 57, 54, 48, 54, 49, 54, 50, 54, 51, 54, 52, 54, 53, 54, 54, 54, 55, 54, 56, 54, 57, 55, 48, 55, 49, 55, 50, 55, 51, 55, 52, 55, 53, 55, 54, 55, 55, 55, 56, 55, 57, 56, 48, 56, 49, 56, 50, 56, 51, 56, 52, 56, 53, 56, 54, 56, 55, 56, 56, 56, 57, 57, 48, 57, 49, 57, 50, 57, 51, 57, 52, 57, 53, 57, 54, 57, 55, 57, 56, 57, 57])) (some (.t 10)) (some (.t 13)), none⟩,
      ⟨(.x 2), .mv (.t 14), none⟩])
    .ret)))
def resiscsmall : List RV := [.t 2]
theorem nbiscsmall : fniscsmall.nb = 0 := rfl
theorem isiscsmall : IsFn fniscsmall 106 codeiscsmall resiscsmall := ⟨⟨Tryd.f106, _, Tryd.func106, rfl, rfl, by kernel_rfl, by kernel_rfl, by kernel_rfl⟩⟩

end Go.Proofs.YtakchfljhihdmaaDoor
