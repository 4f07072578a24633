/- Lemmas of the walk; no conditions beyond those that each states. -/
import Derived.Test.YtecilkmigjbfoaaDoorProg
import Derived.KernelRfl
import Derived.Test.YtecilkmigjbfoaaDoorD2
set_option linter.unusedSimpArgs false
set_option linter.unusedVariables false
set_option linter.unnecessarySimpa false
namespace Go.Proofs.YtecilkmigjbfoaaDoor
open Go Go.Dat Go.Proofs

/-- robuststats/robuststatslaw01.NaturalWrites -/
noncomputable def fnlwNaturalWrites : FnD := ⟨Tryd.prog, [0, 1, 4, 5, 6, 7, 8, 26], [], 56, 0, false⟩
def codelwNaturalWrites : DC :=
 (.seq
  (.reg [⟨(.x 4), .mv (.c (.bool false)), none⟩])
  (.seq
   (.seq
    (.reg [⟨(.t 9), .mv (.x 0), none⟩,
      ⟨(.t 10), .call 5 [(.t 9)], none⟩,
      ⟨(.t 11), .un .not (.t 10), none⟩,
      ⟨(.t 12), .mv (.t 11), none⟩,
      ⟨(.t 13), .mv (.x 1), (some ((.t 12), false))⟩,
      ⟨(.t 14), .lenS (.t 13), (some ((.t 12), false))⟩,
      ⟨(.t 15), .bin .gtr (.t 14) (.c (.int .i64 100)), (some ((.t 12), false))⟩,
      ⟨(.t 16), .mv (.t 15), (some ((.t 12), false))⟩,
      ⟨(.t 17), .mv (.x 1), (some ((.t 16), true))⟩,
      ⟨(.t 18), .lenS (.t 17), (some ((.t 16), true))⟩,
      ⟨(.t 19), .bin .leq (.t 18) (.c (.int .i64 4000)), (some ((.t 16), true))⟩,
      ⟨(.t 20), .mv (.t 19), (some ((.t 16), true))⟩,
      ⟨(.t 21), .mv (.x 1), (some ((.t 20), false))⟩,
      ⟨(.t 22), .lenS (.t 21), (some ((.t 20), false))⟩,
      ⟨(.t 23), .bin .gtr (.t 22) (.c (.int .i64 4010)), (some ((.t 20), false))⟩,
      ⟨(.t 24), .pick (.t 20) (.c (.bool true)) (.t 23), (some ((.t 16), true))⟩,
      ⟨(.t 25), .pick (.t 16) (.t 24) (.c (.bool false)), (some ((.t 12), false))⟩,
      ⟨(.x 26), .pick (.t 12) (.c (.bool true)) (.t 25), none⟩])
    (.cond (.x 26)
     (.seq
      (.reg [⟨(.t 27), .call 6 [], none⟩,
        ⟨(.x 4), .mv (.t 27), none⟩])
      .ret)
     .skip))
   (.seq
    (.reg [⟨(.t 29), .mv (.x 1), none⟩,
      ⟨(.t 30), .call 7 [(.t 29)], none⟩,
      ⟨(.t 28), .mv (.t 30), none⟩,
      ⟨(.t 31), .ext (.t 28) 0, none⟩,
      ⟨(.t 32), .ext (.t 28) 1, none⟩,
      ⟨(.x 5), .mv (.t 31), none⟩,
      ⟨(.x 6), .mv (.t 32), none⟩])
    (.seq
     (.reg [⟨(.t 34), .mv (.x 1), none⟩,
       ⟨(.t 35), .call 8 [(.t 34)], none⟩,
       ⟨(.t 33), .mv (.t 35), none⟩,
       ⟨(.t 36), .ext (.t 33) 0, none⟩,
       ⟨(.t 37), .ext (.t 33) 1, none⟩,
       ⟨(.x 7), .mv (.t 36), none⟩,
       ⟨(.x 8), .mv (.t 37), none⟩])
     (.seq
      (.reg [⟨(.t 38), .call 6 [], none⟩,
        ⟨(.t 39), .mv (.t 38), none⟩,
        ⟨(.t 40), .mv (.x 0), (some ((.t 39), true))⟩,
        ⟨(.t 41), .call 9 [(.t 40)], (some ((.t 39), true))⟩,
        ⟨(.t 42), .mv (.x 0), (some ((.t 39), true))⟩,
        ⟨(.t 43), .call 10 [(.t 42)], (some ((.t 39), true))⟩,
        ⟨(.t 44), .bin .eql (.t 41) (.t 43), (some ((.t 39), true))⟩,
        ⟨(.t 45), .pick (.t 39) (.t 44) (.c (.bool false)), none⟩,
        ⟨(.t 46), .mv (.t 45), none⟩,
        ⟨(.t 47), .mv (.x 5), (some ((.t 46), true))⟩,
        ⟨(.t 48), .mv (.x 7), (some ((.t 46), true))⟩,
        ⟨(.t 49), .call 11 [(.t 47), (.t 48)], (some ((.t 46), true))⟩,
        ⟨(.t 50), .pick (.t 46) (.t 49) (.c (.bool false)), none⟩,
        ⟨(.t 51), .mv (.t 50), none⟩,
        ⟨(.t 52), .mv (.x 6), (some ((.t 51), true))⟩,
        ⟨(.t 53), .mv (.x 8), (some ((.t 51), true))⟩,
        ⟨(.t 54), .beq false (.t 52) (.t 53), (some ((.t 51), true))⟩,
        ⟨(.t 55), .pick (.t 51) (.t 54) (.c (.bool false)), none⟩,
        ⟨(.x 4), .mv (.t 55), none⟩])
      .ret)))))
def reslwNaturalWrites : List RV := [.t 4]
theorem nblwNaturalWrites : fnlwNaturalWrites.nb = 0 := rfl
theorem islwNaturalWrites : IsFn fnlwNaturalWrites 3 codelwNaturalWrites reslwNaturalWrites := ⟨⟨Tryd.f3, _, Tryd.func3, rfl, rfl, by kernel_rfl, by kernel_rfl, by kernel_rfl⟩⟩

/-- robuststats/robuststatslaw01.NaturalReadsBack -/
noncomputable def fnlwNaturalReadsBack : FnD := ⟨Tryd.prog, [0, 1, 4, 5, 6, 7, 8, 21, 50], [], 60, 0, false⟩
def codelwNaturalReadsBack : DC :=
 (.seq
  (.reg [⟨(.x 4), .mv (.c (.bool false)), none⟩])
  (.seq
   (.seq
    (.reg [⟨(.t 9), .mv (.x 0), none⟩,
      ⟨(.t 10), .call 5 [(.t 9)], none⟩,
      ⟨(.t 11), .un .not (.t 10), none⟩,
      ⟨(.t 12), .mv (.t 11), none⟩,
      ⟨(.t 13), .mv (.x 0), (some ((.t 12), false))⟩,
      ⟨(.t 14), .call 12 [(.t 13)], (some ((.t 12), false))⟩,
      ⟨(.t 15), .un .not (.t 14), (some ((.t 12), false))⟩,
      ⟨(.t 16), .pick (.t 12) (.c (.bool true)) (.t 15), none⟩,
      ⟨(.t 17), .mv (.t 16), none⟩,
      ⟨(.t 18), .mv (.x 1), (some ((.t 17), false))⟩,
      ⟨(.t 19), .lenS (.t 18), (some ((.t 17), false))⟩,
      ⟨(.t 20), .bin .gtr (.t 19) (.c (.int .i64 100)), (some ((.t 17), false))⟩,
      ⟨(.x 21), .pick (.t 17) (.c (.bool true)) (.t 20), none⟩])
    (.cond (.x 21)
     (.seq
      (.reg [⟨(.t 22), .call 6 [], none⟩,
        ⟨(.x 4), .mv (.t 22), none⟩])
      .ret)
     .skip))
   (.seq
    (.reg [⟨(.t 24), .mv (.x 0), none⟩,
      ⟨(.t 25), .call 9 [(.t 24)], none⟩,
      ⟨(.t 26), .call 7 [(.t 25)], none⟩,
      ⟨(.t 23), .mv (.t 26), none⟩,
      ⟨(.t 27), .ext (.t 23) 0, none⟩,
      ⟨(.t 28), .ext (.t 23) 1, none⟩,
      ⟨(.x 5), .mv (.t 27), none⟩,
      ⟨(.x 6), .mv (.t 28), none⟩])
    (.seq
     (.reg [⟨(.t 30), .mv (.x 1), none⟩,
       ⟨(.t 31), .call 7 [(.t 30)], none⟩,
       ⟨(.t 29), .mv (.t 31), none⟩,
       ⟨(.t 32), .ext (.t 29) 0, none⟩,
       ⟨(.t 33), .ext (.t 29) 1, none⟩,
       ⟨(.x 7), .mv (.t 32), none⟩,
       ⟨(.x 8), .mv (.t 33), none⟩])
     (.seq
      (.seq
       (.reg [⟨(.t 34), .mv (.x 6), none⟩,
         ⟨(.t 35), .un .not (.t 34), none⟩,
         ⟨(.t 36), .mv (.t 35), none⟩,
         ⟨(.t 37), .mv (.x 0), (some ((.t 36), false))⟩,
         ⟨(.t 38), .mv (.x 5), (some ((.t 36), false))⟩,
         ⟨(.t 39), .call 11 [(.t 37), (.t 38)], (some ((.t 36), false))⟩,
         ⟨(.t 40), .un .not (.t 39), (some ((.t 36), false))⟩,
         ⟨(.t 41), .pick (.t 36) (.c (.bool true)) (.t 40), none⟩,
         ⟨(.t 42), .mv (.t 41), none⟩,
         ⟨(.t 43), .mv (.x 8), (some ((.t 42), false))⟩,
         ⟨(.t 44), .mv (.t 43), (some ((.t 42), false))⟩,
         ⟨(.t 45), .mv (.x 7), (some ((.t 44), true))⟩,
         ⟨(.t 46), .call 9 [(.t 45)], (some ((.t 44), true))⟩,
         ⟨(.t 47), .mv (.x 1), (some ((.t 44), true))⟩,
         ⟨(.t 48), .bin .neq (.t 46) (.t 47), (some ((.t 44), true))⟩,
         ⟨(.t 49), .pick (.t 44) (.t 48) (.c (.bool false)), (some ((.t 42), false))⟩,
         ⟨(.x 50), .pick (.t 42) (.c (.bool true)) (.t 49), none⟩])
       (.cond (.x 50)
        (.seq
         (.reg [⟨(.x 4), .mv (.c (.bool false)), none⟩])
         .ret)
        .skip))
      (.seq
       (.reg [⟨(.t 51), .call 6 [], none⟩,
         ⟨(.t 52), .mv (.t 51), none⟩,
         ⟨(.t 53), .mv (.x 8), (some ((.t 52), true))⟩,
         ⟨(.t 54), .mv (.t 53), (some ((.t 52), true))⟩,
         ⟨(.t 55), .mv (.x 7), (some ((.t 54), false))⟩,
         ⟨(.t 56), .len 1 (.t 55), (some ((.t 54), false))⟩,
         ⟨(.t 57), .bin .eql (.t 56) (.c (.int .i64 0)), (some ((.t 54), false))⟩,
         ⟨(.t 58), .pick (.t 54) (.c (.bool true)) (.t 57), (some ((.t 52), true))⟩,
         ⟨(.t 59), .pick (.t 52) (.t 58) (.c (.bool false)), none⟩,
         ⟨(.x 4), .mv (.t 59), none⟩])
       .ret))))))
def reslwNaturalReadsBack : List RV := [.t 4]
theorem nblwNaturalReadsBack : fnlwNaturalReadsBack.nb = 0 := rfl
theorem islwNaturalReadsBack : IsFn fnlwNaturalReadsBack 4 codelwNaturalReadsBack reslwNaturalReadsBack := ⟨⟨Tryd.f4, _, Tryd.func4, rfl, rfl, by kernel_rfl, by kernel_rfl, by kernel_rfl⟩⟩

/-- robuststats/robuststatslaw01.light -/
noncomputable def fnlight : FnD := ⟨Tryd.prog, [0, 2], [], 6, 0, false⟩
def codelight : DC :=
 (.seq
  (.reg [⟨(.x 2), .mv (.c (.bool false)), none⟩])
  (.seq
   (.reg [⟨(.t 3), .mv (.x 0), none⟩,
     ⟨(.t 4), .len 1 (.t 3), none⟩,
     ⟨(.t 5), .bin .leq (.t 4) (.c (.int .i64 12)), none⟩,
     ⟨(.x 2), .mv (.t 5), none⟩])
   .ret))
def reslight : List RV := [.t 2]
theorem nblight : fnlight.nb = 0 := rfl
theorem islight : IsFn fnlight 5 codelight reslight := ⟨⟨Tryd.f5, _, Tryd.func5, rfl, rfl, by kernel_rfl, by kernel_rfl, by kernel_rfl⟩⟩

/-- robuststats/robuststatslaw01.awake -/
noncomputable def fnawake : FnD := ⟨Tryd.prog, [0, 1, 2, 3], [], 33, 0, false⟩
def codeawake : DC :=
 (.seq
  (.reg [⟨(.x 0), .mv (.c (.bool false)), none⟩])
  (.seq
   (.reg [⟨(.t 5), .bsl 1 [(.int .u32 0)] [(0, 1, (.c (.int .u32 7)))], none⟩,
     ⟨(.t 6), .bsl 1 [(.int .u32 0)] [(0, 1, (.c (.int .u32 2)))], none⟩,
     ⟨(.t 7), .call 13 [(.t 5), (.t 6)], none⟩,
     ⟨(.t 4), .mv (.t 7), none⟩,
     ⟨(.t 8), .ext (.t 4) 0, none⟩,
     ⟨(.t 9), .ext (.t 4) 1, none⟩,
     ⟨(.t 10), .ext (.t 4) 2, none⟩,
     ⟨(.x 1), .mv (.t 8), none⟩,
     ⟨(.x 2), .mv (.t 9), none⟩,
     ⟨(.x 3), .mv (.t 10), none⟩])
   (.seq
    (.reg [⟨(.t 11), .mv (.x 3), none⟩,
      ⟨(.t 12), .mv (.t 11), none⟩,
      ⟨(.t 13), .call 14 [(.c (.int .u64 4294967296))], (some ((.t 12), true))⟩,
      ⟨(.t 14), .bsl 1 [(.int .u32 0), (.int .u32 0)] [(0, 1, (.c (.int .u32 0))), (1, 1, (.c (.int .u32 1)))], (some ((.t 12), true))⟩,
      ⟨(.t 15), .call 11 [(.t 13), (.t 14)], (some ((.t 12), true))⟩,
      ⟨(.t 16), .pick (.t 12) (.t 15) (.c (.bool false)), none⟩,
      ⟨(.t 17), .mv (.t 16), none⟩,
      ⟨(.t 18), .bsl 1 [(.int .u32 0)] [(0, 1, (.c (.int .u32 99)))], (some ((.t 17), true))⟩,
      ⟨(.t 19), .call 15 [(.t 18)], (some ((.t 17), true))⟩,
      ⟨(.t 20), .bsl 1 [(.int .u32 0)] [(0, 1, (.c (.int .u32 9)))], (some ((.t 17), true))⟩,
      ⟨(.t 21), .call 11 [(.t 19), (.t 20)], (some ((.t 17), true))⟩,
      ⟨(.t 22), .pick (.t 17) (.t 21) (.c (.bool false)), none⟩,
      ⟨(.t 23), .mv (.t 22), none⟩,
      ⟨(.t 24), .mv (.x 1), (some ((.t 23), true))⟩,
      ⟨(.t 25), .bsl 1 [(.int .u32 0)] [(0, 1, (.c (.int .u32 3)))], (some ((.t 23), true))⟩,
      ⟨(.t 26), .call 11 [(.t 24), (.t 25)], (some ((.t 23), true))⟩,
      ⟨(.t 27), .pick (.t 23) (.t 26) (.c (.bool false)), none⟩,
      ⟨(.t 28), .mv (.t 27), none⟩,
      ⟨(.t 29), .mv (.x 2), (some ((.t 28), true))⟩,
      ⟨(.t 30), .bsl 1 [(.int .u32 0)] [(0, 1, (.c (.int .u32 1)))], (some ((.t 28), true))⟩,
      ⟨(.t 31), .call 11 [(.t 29), (.t 30)], (some ((.t 28), true))⟩,
      ⟨(.t 32), .pick (.t 28) (.t 31) (.c (.bool false)), none⟩,
      ⟨(.x 0), .mv (.t 32), none⟩])
    .ret)))
def resawake : List RV := [.t 0]
theorem nbawake : fnawake.nb = 0 := rfl
theorem isawake : IsFn fnawake 6 codeawake resawake := ⟨⟨Tryd.f6, _, Tryd.func6, rfl, rfl, by kernel_rfl, by kernel_rfl, by kernel_rfl⟩⟩

/-- robuststats/natural.Parse -/
noncomputable def fnnParse : FnD := ⟨Tryd.prog, [0, 2, 3, 4, 5, 6, 7, 9, 26, 33, 41, 47, 48, 49, 50, 58], [], 74, 0, false⟩
def codenParse : DC :=
 (.seq
  (.reg [⟨(.x 2), .mv (.c .nils), none⟩,
    ⟨(.x 3), .mv (.c (.bool false)), none⟩])
  (.seq
   (.seq
    (.reg [⟨(.t 10), .mv (.x 0), none⟩,
      ⟨(.t 11), .bin .eql (.t 10) (.c (.str [])), none⟩,
      ⟨(.t 12), .mv (.t 11), none⟩,
      ⟨(.t 13), .mv (.x 0), (some ((.t 12), false))⟩,
      ⟨(.t 14), .lenS (.t 13), (some ((.t 12), false))⟩,
      ⟨(.t 15), .bin .gtr (.t 14) (.c (.int .i64 4000)), (some ((.t 12), false))⟩,
      ⟨(.t 16), .pick (.t 12) (.c (.bool true)) (.t 15), none⟩,
      ⟨(.t 17), .mv (.t 16), none⟩,
      ⟨(.t 18), .mv (.x 0), (some ((.t 17), false))⟩,
      ⟨(.t 19), .idx (.t 18) (.c (.int .i64 0)), (some ((.t 17), false))⟩,
      ⟨(.t 20), .bin .eql (.t 19) (.c (.int .u8 48)), (some ((.t 17), false))⟩,
      ⟨(.t 21), .mv (.t 20), (some ((.t 17), false))⟩,
      ⟨(.t 22), .mv (.x 0), (some ((.t 21), true))⟩,
      ⟨(.t 23), .lenS (.t 22), (some ((.t 21), true))⟩,
      ⟨(.t 24), .bin .gtr (.t 23) (.c (.int .i64 1)), (some ((.t 21), true))⟩,
      ⟨(.t 25), .pick (.t 21) (.t 24) (.c (.bool false)), (some ((.t 17), false))⟩,
      ⟨(.x 26), .pick (.t 17) (.c (.bool true)) (.t 25), none⟩])
    (.cond (.x 26)
     (.seq
      (.reg [⟨(.x 2), .mv (.c .nils), none⟩,
        ⟨(.x 3), .mv (.c (.bool false)), none⟩])
      .ret)
     .skip))
   (.seq
    (.reg [⟨(.t 27), .mv (.x 0), none⟩,
      ⟨(.t 28), .lenS (.t 27), none⟩,
      ⟨(.t 29), .bin .rem (.t 28) (.c (.int .i64 9)), none⟩,
      ⟨(.x 4), .mv (.t 29), none⟩])
    (.seq
     (.seq
      (.reg [⟨(.x 5), .mv (.c (.int .i64 0)), none⟩])
      (.block 0
       (.loop
        (.seq
         (.seq
          (.reg [⟨(.t 30), .mv (.x 5), none⟩,
            ⟨(.t 31), .mv (.x 0), none⟩,
            ⟨(.t 32), .lenS (.t 31), none⟩,
            ⟨(.x 33), .bin .lss (.t 30) (.t 32), none⟩])
          (.cond (.x 33)
           .skip
           (.exit 0)))
         (.block 1
          (.seq
           (.reg [⟨(.t 34), .mv (.x 5), none⟩,
             ⟨(.t 35), .bin .add (.t 34) (.c (.int .i64 9)), none⟩,
             ⟨(.x 6), .mv (.t 35), none⟩])
           (.seq
            (.seq
             (.reg [⟨(.t 36), .mv (.x 5), none⟩,
               ⟨(.t 37), .bin .eql (.t 36) (.c (.int .i64 0)), none⟩,
               ⟨(.t 38), .mv (.t 37), none⟩,
               ⟨(.t 39), .mv (.x 4), (some ((.t 38), true))⟩,
               ⟨(.t 40), .bin .gtr (.t 39) (.c (.int .i64 0)), (some ((.t 38), true))⟩,
               ⟨(.x 41), .pick (.t 38) (.t 40) (.c (.bool false)), none⟩])
             (.cond (.x 41)
              (.reg [⟨(.t 42), .mv (.x 4), none⟩,
                ⟨(.x 6), .mv (.t 42), none⟩])
              .skip))
            (.seq
             (.reg [⟨(.x 7), .mv (.c (.int .u64 0)), none⟩])
             (.seq
              (.seq
               (.reg [⟨(.t 43), .mv (.x 0), none⟩,
                 ⟨(.t 44), .mv (.x 5), none⟩,
                 ⟨(.t 45), .mv (.x 6), none⟩,
                 ⟨(.t 46), .slcS (.t 43) (some (.t 44)) (some (.t 45)), none⟩,
                 ⟨(.x 47), .s2b (.t 46), none⟩,
                 ⟨(.x 48), .len 1 (.x 47), none⟩,
                 ⟨(.x 49), .mv (.c (.int .i64 0)), none⟩])
               (.block 2
                (.loop
                 (.seq
                  (.reg [⟨(.x 50), .bin .lss (.x 49) (.x 48), none⟩])
                  (.seq
                   (.cond (.x 50)
                    .skip
                    (.exit 2))
                   (.seq
                    (.block 3
                     (.seq
                      (.reg [⟨(.t 51), .iad 1 (.x 47) (.x 49), none⟩,
                        ⟨(.t 52), .ld (.t 51), none⟩,
                        ⟨(.x 9), .mv (.t 52), none⟩])
                      (.seq
                       (.seq
                        (.reg [⟨(.t 53), .mv (.x 9), none⟩,
                          ⟨(.t 54), .bin .lss (.t 53) (.c (.int .u8 48)), none⟩,
                          ⟨(.t 55), .mv (.t 54), none⟩,
                          ⟨(.t 56), .mv (.x 9), (some ((.t 55), false))⟩,
                          ⟨(.t 57), .bin .gtr (.t 56) (.c (.int .u8 57)), (some ((.t 55), false))⟩,
                          ⟨(.x 58), .pick (.t 55) (.c (.bool true)) (.t 57), none⟩])
                        (.cond (.x 58)
                         (.seq
                          (.reg [⟨(.x 2), .mv (.c .nils), none⟩,
                            ⟨(.x 3), .mv (.c (.bool false)), none⟩])
                          .ret)
                         .skip))
                       (.reg [⟨(.t 59), .mv (.x 7), none⟩,
                         ⟨(.t 60), .bin .mul (.c (.int .u64 10)) (.t 59), none⟩,
                         ⟨(.t 61), .mv (.x 9), none⟩,
                         ⟨(.t 62), .bin .sub (.t 61) (.c (.int .u8 48)), none⟩,
                         ⟨(.t 63), .conv .u64 (.t 62), none⟩,
                         ⟨(.t 64), .bin .add (.t 60) (.t 63), none⟩,
                         ⟨(.x 7), .mv (.t 64), none⟩]))))
                    (.reg [⟨(.t 65), .bin .add (.x 49) (.c (.int .i64 1)), none⟩,
                      ⟨(.x 49), .mv (.t 65), none⟩])))))))
              (.seq
               (.reg [⟨(.t 66), .mv (.x 2), none⟩,
                 ⟨(.t 67), .bsl 1 [(.int .u32 0)] [(0, 1, (.c (.int .u32 1000000000)))], none⟩,
                 ⟨(.t 68), .call 17 [(.t 66), (.t 67)], none⟩,
                 ⟨(.t 69), .mv (.x 7), none⟩,
                 ⟨(.t 70), .call 14 [(.t 69)], none⟩,
                 ⟨(.t 71), .call 16 [(.t 68), (.t 70)], none⟩,
                 ⟨(.x 2), .mv (.t 71), none⟩])
               (.reg [⟨(.t 72), .mv (.x 6), none⟩,
                 ⟨(.x 5), .mv (.t 72), none⟩])))))))))))
     (.seq
      (.reg [⟨(.t 73), .mv (.x 2), none⟩,
        ⟨(.x 2), .mv (.t 73), none⟩,
        ⟨(.x 3), .mv (.c (.bool true)), none⟩])
      .ret)))))
def resnParse : List RV := [.t 2, .t 3]
theorem nbnParse : fnnParse.nb = 0 := rfl
theorem isnParse : IsFn fnnParse 7 codenParse resnParse := ⟨⟨Tryd.f7, _, Tryd.func7, rfl, rfl, by kernel_rfl, by kernel_rfl, by kernel_rfl⟩⟩

/-- robuststats/robuststatsref01.Parse -/
noncomputable def fnrParse : FnD := ⟨Tryd.prog, [0, 2, 3, 4, 5, 22, 26, 38], [], 49, 0, false⟩
def coderParse : DC :=
 (.seq
  (.reg [⟨(.x 2), .mv (.c .nils), none⟩,
    ⟨(.x 3), .mv (.c (.bool false)), none⟩])
  (.seq
   (.seq
    (.reg [⟨(.t 6), .mv (.x 0), none⟩,
      ⟨(.t 7), .bin .eql (.t 6) (.c (.str [])), none⟩,
      ⟨(.t 8), .mv (.t 7), none⟩,
      ⟨(.t 9), .mv (.x 0), (some ((.t 8), false))⟩,
      ⟨(.t 10), .lenS (.t 9), (some ((.t 8), false))⟩,
      ⟨(.t 11), .bin .gtr (.t 10) (.c (.int .i64 4000)), (some ((.t 8), false))⟩,
      ⟨(.t 12), .pick (.t 8) (.c (.bool true)) (.t 11), none⟩,
      ⟨(.t 13), .mv (.t 12), none⟩,
      ⟨(.t 14), .mv (.x 0), (some ((.t 13), false))⟩,
      ⟨(.t 15), .lenS (.t 14), (some ((.t 13), false))⟩,
      ⟨(.t 16), .bin .gtr (.t 15) (.c (.int .i64 1)), (some ((.t 13), false))⟩,
      ⟨(.t 17), .mv (.t 16), (some ((.t 13), false))⟩,
      ⟨(.t 18), .mv (.x 0), (some ((.t 17), true))⟩,
      ⟨(.t 19), .idx (.t 18) (.c (.int .i64 0)), (some ((.t 17), true))⟩,
      ⟨(.t 20), .bin .eql (.t 19) (.c (.int .u8 48)), (some ((.t 17), true))⟩,
      ⟨(.t 21), .pick (.t 17) (.t 20) (.c (.bool false)), (some ((.t 13), false))⟩,
      ⟨(.x 22), .pick (.t 13) (.c (.bool true)) (.t 21), none⟩])
    (.cond (.x 22)
     (.seq
      (.reg [⟨(.x 2), .mv (.c .nils), none⟩,
        ⟨(.x 3), .mv (.c (.bool false)), none⟩])
      .ret)
     .skip))
   (.seq
    (.reg [⟨(.x 4), .mv (.c .nils), none⟩])
    (.seq
     (.seq
      (.reg [⟨(.x 5), .mv (.c (.int .i64 0)), none⟩])
      (.block 0
       (.loop
        (.seq
         (.seq
          (.reg [⟨(.t 23), .mv (.x 5), none⟩,
            ⟨(.t 24), .mv (.x 0), none⟩,
            ⟨(.t 25), .lenS (.t 24), none⟩,
            ⟨(.x 26), .bin .lss (.t 23) (.t 25), none⟩])
          (.cond (.x 26)
           .skip
           (.exit 0)))
         (.seq
          (.block 1
           (.seq
            (.seq
             (.reg [⟨(.t 29), .mv (.x 0), none⟩,
               ⟨(.t 30), .mv (.x 5), none⟩,
               ⟨(.t 31), .idx (.t 29) (.t 30), none⟩,
               ⟨(.t 32), .bin .lss (.t 31) (.c (.int .u8 48)), none⟩,
               ⟨(.t 33), .mv (.t 32), none⟩,
               ⟨(.t 34), .mv (.x 0), (some ((.t 33), false))⟩,
               ⟨(.t 35), .mv (.x 5), (some ((.t 33), false))⟩,
               ⟨(.t 36), .idx (.t 34) (.t 35), (some ((.t 33), false))⟩,
               ⟨(.t 37), .bin .gtr (.t 36) (.c (.int .u8 57)), (some ((.t 33), false))⟩,
               ⟨(.x 38), .pick (.t 33) (.c (.bool true)) (.t 37), none⟩])
             (.cond (.x 38)
              (.seq
               (.reg [⟨(.x 2), .mv (.c .nils), none⟩,
                 ⟨(.x 3), .mv (.c (.bool false)), none⟩])
               .ret)
              .skip))
            (.regd [⟨(.t 39), .mv (.x 4), none⟩,
              ⟨(.t 40), .call 19 [(.t 39), (.c (.int .u32 10)), (.c (.int .i64 0))], none⟩,
              ⟨(.t 41), .mv (.x 0), none⟩,
              ⟨(.t 42), .mv (.x 5), none⟩,
              ⟨(.t 43), .idx (.t 41) (.t 42), none⟩,
              ⟨(.t 44), .bin .sub (.t 43) (.c (.int .u8 48)), none⟩,
              ⟨(.t 45), .conv .u64 (.t 44), none⟩,
              ⟨(.t 46), .call 20 [(.t 45)], none⟩,
              ⟨(.t 47), .call 18 [(.t 40), (.t 46)], none⟩,
              ⟨(.x 4), .mv (.t 47), none⟩])))
          (.reg [⟨(.t 27), .mv (.x 5), none⟩,
            ⟨(.t 28), .bin .add (.t 27) (.c (.int .i64 1)), none⟩,
            ⟨(.x 5), .mv (.t 28), none⟩]))))))
     (.seq
      (.reg [⟨(.t 48), .mv (.x 4), none⟩,
        ⟨(.x 2), .mv (.t 48), none⟩,
        ⟨(.x 3), .mv (.c (.bool true)), none⟩])
      .ret)))))
def resrParse : List RV := [.t 2, .t 3]
theorem nbrParse : fnrParse.nb = 0 := rfl
theorem isrParse : IsFn fnrParse 8 coderParse resrParse := ⟨⟨Tryd.f8, _, Tryd.func8, rfl, rfl, by kernel_rfl, by kernel_rfl, by kernel_rfl⟩⟩

/-- robuststats/natural.Format -/
noncomputable def fnnFormat : FnD := ⟨Tryd.prog, [0, 2, 3, 4, 5, 6, 11, 14, 25], [], 41, 0, false⟩
def codenFormat : DC :=
 (.seq
  (.reg [⟨(.x 2), .mv (.c (.str [])), none⟩])
  (.seq
   (.reg [⟨(.t 7), .mv (.x 0), none⟩,
     ⟨(.t 8), .call 21 [(.t 7)], none⟩,
     ⟨(.x 0), .mv (.t 8), none⟩])
   (.seq
    (.seq
     (.reg [⟨(.t 9), .mv (.x 0), none⟩,
       ⟨(.t 10), .len 1 (.t 9), none⟩,
       ⟨(.x 11), .bin .eql (.t 10) (.c (.int .i64 0)), none⟩])
     (.cond (.x 11)
      (.seq
       (.reg [⟨(.x 2), .mv (.c (.str [48])), none⟩])
       .ret)
      .skip))
    (.seq
     (.reg [⟨(.x 3), .mv (.c .nils), none⟩])
     (.seq
      (.block 0
       (.loop
        (.seq
         (.seq
          (.reg [⟨(.t 12), .mv (.x 0), none⟩,
            ⟨(.t 13), .len 1 (.t 12), none⟩,
            ⟨(.x 14), .bin .gtr (.t 13) (.c (.int .i64 0)), none⟩])
          (.cond (.x 14)
           .skip
           (.exit 0)))
         (.block 1
          (.seq
           (.reg [⟨(.t 16), .mv (.x 0), none⟩,
             ⟨(.t 17), .call 22 [(.t 16), (.c (.int .u32 1000000000))], none⟩,
             ⟨(.t 15), .mv (.t 17), none⟩,
             ⟨(.t 18), .ext (.t 15) 0, none⟩,
             ⟨(.t 19), .ext (.t 15) 1, none⟩,
             ⟨(.x 4), .mv (.t 18), none⟩,
             ⟨(.x 5), .mv (.t 19), none⟩])
           (.seq
            (.reg [⟨(.t 20), .mv (.x 5), none⟩,
              ⟨(.t 21), .conv .i64 (.t 20), none⟩,
              ⟨(.t 22), .call 23 [(.t 21)], none⟩,
              ⟨(.x 6), .mv (.t 22), none⟩])
            (.seq
             (.seq
              (.reg [⟨(.t 23), .mv (.x 4), none⟩,
                ⟨(.t 24), .len 1 (.t 23), none⟩,
                ⟨(.x 25), .bin .gtr (.t 24) (.c (.int .i64 0)), none⟩])
              (.cond (.x 25)
               (.reg [⟨(.t 26), .mv (.x 6), none⟩,
                 ⟨(.t 27), .lenS (.t 26), none⟩,
                 ⟨(.t 28), .bin .sub (.c (.int .i64 9)) (.t 27), none⟩,
                 ⟨(.t 29), .call 24 [(.c (.str [48])), (.t 28)], none⟩,
                 ⟨(.t 30), .mv (.x 6), none⟩,
                 ⟨(.t 31), .bin .add (.t 29) (.t 30), none⟩,
                 ⟨(.x 6), .mv (.t 31), none⟩])
               .skip))
             (.seq
              (.reg [⟨(.t 32), .mv (.x 3), none⟩,
                ⟨(.t 33), .mv (.x 6), none⟩,
                ⟨(.t 34), .bsl 1 [(.str [])] [(0, 1, (.t 33))], none⟩,
                ⟨(.t 35), .app 1 16 (.t 32) (.t 34), none⟩,
                ⟨(.x 3), .mv (.t 35), none⟩])
              (.reg [⟨(.t 36), .mv (.x 4), none⟩,
                ⟨(.x 0), .mv (.t 36), none⟩])))))))))
      (.seq
       (.reg [⟨(.t 37), .mv (.x 3), none⟩,
         ⟨(.t 38), .call 25 [(.t 37)], none⟩])
       (.seq
        (.reg [⟨(.t 39), .mv (.x 3), none⟩,
          ⟨(.t 40), .call 26 [(.t 39), (.c (.str []))], none⟩,
          ⟨(.x 2), .mv (.t 40), none⟩])
        .ret)))))))
def resnFormat : List RV := [.t 2]
theorem nbnFormat : fnnFormat.nb = 0 := rfl
theorem isnFormat : IsFn fnnFormat 9 codenFormat resnFormat := ⟨⟨Tryd.f9, _, Tryd.func9, rfl, rfl, by kernel_rfl, by kernel_rfl, by kernel_rfl⟩⟩

/-- robuststats/robuststatsref01.Format -/
noncomputable def fnrFormat : FnD := ⟨Tryd.prog, [0, 2, 3, 4, 5, 26], [], 29, 0, false⟩
def coderFormat : DC :=
 (.seq
  (.reg [⟨(.x 2), .mv (.c (.str [])), none⟩])
  (.seq
   (.reg [⟨(.t 7), .mv (.x 0), none⟩,
     ⟨(.t 8), .call 27 [(.t 7)], none⟩,
     ⟨(.x 0), .mv (.t 8), none⟩])
   (.seq
    (.reg [⟨(.x 3), .mv (.c (.str [])), none⟩])
    (.block 0
     (.loop
      (.block 1
       (.seq
        (.reg [⟨(.t 10), .mv (.x 0), none⟩,
          ⟨(.t 11), .bsl 1 [(.int .u32 0)] [(0, 1, (.c (.int .u32 10)))], none⟩,
          ⟨(.t 12), .call 28 [(.t 10), (.t 11)], none⟩,
          ⟨(.t 9), .mv (.t 12), none⟩,
          ⟨(.t 13), .ext (.t 9) 0, none⟩,
          ⟨(.t 14), .ext (.t 9) 1, none⟩,
          ⟨(.t 15), .ext (.t 9) 2, none⟩,
          ⟨(.x 4), .mv (.t 13), none⟩,
          ⟨(.x 5), .mv (.t 14), none⟩,
          ⟨(.t 6), .mv (.t 15), none⟩])
        (.seq
         (.reg [⟨(.t 16), .mv (.x 5), none⟩,
           ⟨(.t 17), .call 29 [(.t 16), (.c (.int .i64 0))], none⟩,
           ⟨(.t 18), .bin .add (.c (.int .u64 48)) (.t 17), none⟩,
           ⟨(.t 19), .conv .u8 (.t 18), none⟩,
           ⟨(.t 20), .bsl 1 [(.int .u8 0)] [(0, 1, (.t 19))], none⟩,
           ⟨(.t 21), .b2s (.t 20), none⟩,
           ⟨(.t 22), .mv (.x 3), none⟩,
           ⟨(.t 23), .bin .add (.t 21) (.t 22), none⟩,
           ⟨(.x 3), .mv (.t 23), none⟩])
         (.seq
          (.seq
           (.reg [⟨(.t 24), .mv (.x 4), none⟩,
             ⟨(.t 25), .len 1 (.t 24), none⟩,
             ⟨(.x 26), .bin .eql (.t 25) (.c (.int .i64 0)), none⟩])
           (.cond (.x 26)
            (.seq
             (.reg [⟨(.t 27), .mv (.x 3), none⟩,
               ⟨(.x 2), .mv (.t 27), none⟩])
             .ret)
            .skip))
          (.reg [⟨(.t 28), .mv (.x 4), none⟩,
            ⟨(.x 0), .mv (.t 28), none⟩]))))))))))
def resrFormat : List RV := [.t 2]
theorem nbrFormat : fnrFormat.nb = 0 := rfl
theorem isrFormat : IsFn fnrFormat 10 coderFormat resrFormat := ⟨⟨Tryd.f10, _, Tryd.func10, rfl, rfl, by kernel_rfl, by kernel_rfl, by kernel_rfl⟩⟩

/-- robuststats/robuststatsref01.Same -/
noncomputable def fnrSame : FnD := ⟨Tryd.prog, [0, 1, 4, 5, 10, 14, 25], [], 26, 0, false⟩
def coderSame : DC :=
 (.seq
  (.reg [⟨(.x 4), .mv (.c (.bool false)), none⟩])
  (.seq
   (.seq
    (.reg [⟨(.t 6), .mv (.x 0), none⟩,
      ⟨(.t 7), .len 1 (.t 6), none⟩,
      ⟨(.t 8), .mv (.x 1), none⟩,
      ⟨(.t 9), .len 1 (.t 8), none⟩,
      ⟨(.x 10), .bin .neq (.t 7) (.t 9), none⟩])
    (.cond (.x 10)
     (.seq
      (.reg [⟨(.x 4), .mv (.c (.bool false)), none⟩])
      .ret)
     .skip))
   (.seq
    (.seq
     (.reg [⟨(.x 5), .mv (.c (.int .i64 0)), none⟩])
     (.block 0
      (.loop
       (.seq
        (.seq
         (.reg [⟨(.t 11), .mv (.x 5), none⟩,
           ⟨(.t 12), .mv (.x 0), none⟩,
           ⟨(.t 13), .len 1 (.t 12), none⟩,
           ⟨(.x 14), .bin .lss (.t 11) (.t 13), none⟩])
         (.cond (.x 14)
          .skip
          (.exit 0)))
        (.seq
         (.block 1
          (.seq
           (.regd [⟨(.t 17), .mv (.x 0), none⟩,
             ⟨(.t 18), .mv (.x 5), none⟩,
             ⟨(.t 19), .iad 1 (.t 17) (.t 18), none⟩,
             ⟨(.t 20), .ld (.t 19), none⟩,
             ⟨(.t 21), .mv (.x 1), none⟩,
             ⟨(.t 22), .mv (.x 5), none⟩,
             ⟨(.t 23), .iad 1 (.t 21) (.t 22), none⟩,
             ⟨(.t 24), .ld (.t 23), none⟩,
             ⟨(.x 25), .bin .neq (.t 20) (.t 24), none⟩])
           (.cond (.x 25)
            (.seq
             (.reg [⟨(.x 4), .mv (.c (.bool false)), none⟩])
             .ret)
            .skip)))
         (.reg [⟨(.t 15), .mv (.x 5), none⟩,
           ⟨(.t 16), .bin .add (.t 15) (.c (.int .i64 1)), none⟩,
           ⟨(.x 5), .mv (.t 16), none⟩]))))))
    (.seq
     (.reg [⟨(.x 4), .mv (.c (.bool true)), none⟩])
     .ret))))
def resrSame : List RV := [.t 4]
theorem nbrSame : fnrSame.nb = 0 := rfl
theorem isrSame : IsFn fnrSame 11 coderSame resrSame := ⟨⟨Tryd.f11, _, Tryd.func11, rfl, rfl, by kernel_rfl, by kernel_rfl, by kernel_rfl⟩⟩

/-- robuststats/robuststatsref01.Valid -/
noncomputable def fnrValid : FnD := ⟨Tryd.prog, [0, 2], [], 15, 0, false⟩
def coderValid : DC :=
 (.seq
  (.reg [⟨(.x 2), .mv (.c (.bool false)), none⟩])
  (.seq
   (.reg [⟨(.t 3), .mv (.x 0), none⟩,
     ⟨(.t 4), .len 1 (.t 3), none⟩,
     ⟨(.t 5), .bin .eql (.t 4) (.c (.int .i64 0)), none⟩,
     ⟨(.t 6), .mv (.t 5), none⟩,
     ⟨(.t 7), .mv (.x 0), (some ((.t 6), false))⟩,
     ⟨(.t 8), .mv (.x 0), (some ((.t 6), false))⟩,
     ⟨(.t 9), .len 1 (.t 8), (some ((.t 6), false))⟩,
     ⟨(.t 10), .bin .sub (.t 9) (.c (.int .i64 1)), (some ((.t 6), false))⟩,
     ⟨(.t 11), .iad 1 (.t 7) (.t 10), (some ((.t 6), false))⟩,
     ⟨(.t 12), .ld (.t 11), (some ((.t 6), false))⟩,
     ⟨(.t 13), .bin .neq (.t 12) (.c (.int .u32 0)), (some ((.t 6), false))⟩,
     ⟨(.t 14), .pick (.t 6) (.c (.bool true)) (.t 13), none⟩,
     ⟨(.x 2), .mv (.t 14), none⟩])
   .ret))
def resrValid : List RV := [.t 2]
theorem nbrValid : fnrValid.nb = 0 := rfl
theorem isrValid : IsFn fnrValid 12 coderValid resrValid := ⟨⟨Tryd.f12, _, Tryd.func12, rfl, rfl, by kernel_rfl, by kernel_rfl, by kernel_rfl⟩⟩

/-- robuststats/natural.Div -/
noncomputable def fnnDiv : FnD := ⟨Tryd.prog, [0, 1, 4, 5, 6, 7, 8, 13, 17, 24], [], 48, 0, false⟩
def codenDiv : DC :=
 (.seq
  (.reg [⟨(.x 4), .mv (.c .nils), none⟩,
    ⟨(.x 5), .mv (.c .nils), none⟩,
    ⟨(.x 6), .mv (.c (.bool false)), none⟩])
  (.seq
   (.reg [⟨(.t 9), .mv (.x 0), none⟩,
     ⟨(.t 10), .call 21 [(.t 9)], none⟩,
     ⟨(.t 11), .mv (.x 1), none⟩,
     ⟨(.t 12), .call 21 [(.t 11)], none⟩,
     ⟨(.x 0), .mv (.t 10), none⟩,
     ⟨(.x 1), .mv (.t 12), none⟩])
   (.seq
    (.block 0
     (.seq
      (.reg [⟨(.t 14), .mv (.x 1), none⟩,
        ⟨(.t 15), .len 1 (.t 14), none⟩,
        ⟨(.t 16), .bin .eql (.t 15) (.c (.int .i64 0)), none⟩,
        ⟨(.x 13), .mv (.t 16), none⟩])
      (.cond (.x 13)
       (.seq
        (.reg [⟨(.x 4), .mv (.c .nils), none⟩,
          ⟨(.x 5), .mv (.c .nils), none⟩,
          ⟨(.x 6), .mv (.c (.bool false)), none⟩])
        .ret)
       (.seq
        (.reg [⟨(.t 18), .mv (.x 0), none⟩,
          ⟨(.t 19), .mv (.x 1), none⟩,
          ⟨(.t 20), .call 30 [(.t 18), (.t 19)], none⟩,
          ⟨(.t 21), .bin .lss (.t 20) (.c (.int .i64 0)), none⟩,
          ⟨(.x 17), .mv (.t 21), none⟩])
        (.cond (.x 17)
         (.seq
          (.reg [⟨(.t 22), .mv (.x 0), none⟩,
            ⟨(.t 23), .call 31 [(.t 22)], none⟩,
            ⟨(.x 4), .mv (.c .nils), none⟩,
            ⟨(.x 5), .mv (.t 23), none⟩,
            ⟨(.x 6), .mv (.c (.bool true)), none⟩])
          .ret)
         (.seq
          (.reg [⟨(.t 25), .mv (.x 1), none⟩,
            ⟨(.t 26), .len 1 (.t 25), none⟩,
            ⟨(.t 27), .bin .eql (.t 26) (.c (.int .i64 1)), none⟩,
            ⟨(.x 24), .mv (.t 27), none⟩])
          (.cond (.x 24)
           (.seq
            (.reg [⟨(.t 29), .mv (.x 0), none⟩,
              ⟨(.t 30), .mv (.x 1), none⟩,
              ⟨(.t 31), .iad 1 (.t 30) (.c (.int .i64 0)), none⟩,
              ⟨(.t 32), .ld (.t 31), none⟩,
              ⟨(.t 33), .call 22 [(.t 29), (.t 32)], none⟩,
              ⟨(.t 28), .mv (.t 33), none⟩,
              ⟨(.t 34), .ext (.t 28) 0, none⟩,
              ⟨(.t 35), .ext (.t 28) 1, none⟩,
              ⟨(.x 7), .mv (.t 34), none⟩,
              ⟨(.x 8), .mv (.t 35), none⟩])
            (.seq
             (.reg [⟨(.t 36), .mv (.x 7), none⟩,
               ⟨(.t 37), .mv (.x 8), none⟩,
               ⟨(.t 38), .conv .u64 (.t 37), none⟩,
               ⟨(.t 39), .call 14 [(.t 38)], none⟩,
               ⟨(.x 4), .mv (.t 36), none⟩,
               ⟨(.x 5), .mv (.t 39), none⟩,
               ⟨(.x 6), .mv (.c (.bool true)), none⟩])
             .ret))
           .skip)))))))
    (.seq
     (.reg [⟨(.t 41), .mv (.x 0), none⟩,
       ⟨(.t 42), .mv (.x 1), none⟩,
       ⟨(.t 43), .call 32 [(.t 41), (.t 42)], none⟩,
       ⟨(.t 40), .mv (.t 43), none⟩,
       ⟨(.t 44), .ext (.t 40) 0, none⟩,
       ⟨(.t 45), .ext (.t 40) 1, none⟩,
       ⟨(.x 4), .mv (.t 44), none⟩,
       ⟨(.x 5), .mv (.t 45), none⟩])
     (.seq
      (.reg [⟨(.t 46), .mv (.x 4), none⟩,
        ⟨(.t 47), .mv (.x 5), none⟩,
        ⟨(.x 4), .mv (.t 46), none⟩,
        ⟨(.x 5), .mv (.t 47), none⟩,
        ⟨(.x 6), .mv (.c (.bool true)), none⟩])
      .ret)))))
def resnDiv : List RV := [.t 4, .t 5, .t 6]
theorem nbnDiv : fnnDiv.nb = 0 := rfl
theorem isnDiv : IsFn fnnDiv 13 codenDiv resnDiv := ⟨⟨Tryd.f13, _, Tryd.func13, rfl, rfl, by kernel_rfl, by kernel_rfl, by kernel_rfl⟩⟩

/-- robuststats/natural.FromUint -/
noncomputable def fnnFromUint : FnD := ⟨Tryd.prog, [0, 2], [], 10, 0, false⟩
def codenFromUint : DC :=
 (.seq
  (.reg [⟨(.x 2), .mv (.c .nils), none⟩])
  (.seq
   (.reg [⟨(.t 3), .mv (.x 0), none⟩,
     ⟨(.t 4), .conv .u32 (.t 3), none⟩,
     ⟨(.t 5), .mv (.x 0), none⟩,
     ⟨(.t 6), .bin .shr (.t 5) (.c (.int .u64 32)), none⟩,
     ⟨(.t 7), .conv .u32 (.t 6), none⟩,
     ⟨(.t 8), .bsl 1 [(.int .u32 0), (.int .u32 0)] [(0, 1, (.t 4)), (1, 1, (.t 7))], none⟩,
     ⟨(.t 9), .call 33 [(.t 8)], none⟩,
     ⟨(.x 2), .mv (.t 9), none⟩])
   .ret))
def resnFromUint : List RV := [.t 2]
theorem nbnFromUint : fnnFromUint.nb = 0 := rfl
theorem isnFromUint : IsFn fnnFromUint 14 codenFromUint resnFromUint := ⟨⟨Tryd.f14, _, Tryd.func14, rfl, rfl, by kernel_rfl, by kernel_rfl, by kernel_rfl⟩⟩

/-- robuststats/natural.Root -/
noncomputable def fnnRoot : FnD := ⟨Tryd.prog, [0, 2, 3, 4, 5, 8, 14, 56], [], 59, 0, false⟩
def codenRoot : DC :=
 (.seq
  (.reg [⟨(.x 2), .mv (.c .nils), none⟩])
  (.seq
   (.reg [⟨(.t 10), .mv (.x 0), none⟩,
     ⟨(.t 11), .call 21 [(.t 10)], none⟩,
     ⟨(.x 0), .mv (.t 11), none⟩])
   (.seq
    (.seq
     (.reg [⟨(.t 12), .mv (.x 0), none⟩,
       ⟨(.t 13), .len 1 (.t 12), none⟩,
       ⟨(.x 14), .bin .eql (.t 13) (.c (.int .i64 0)), none⟩])
     (.cond (.x 14)
      (.seq
       (.reg [⟨(.x 2), .mv (.c .nils), none⟩])
       .ret)
      .skip))
    (.seq
     (.reg [⟨(.t 15), .mv (.x 0), none⟩,
       ⟨(.t 16), .len 1 (.t 15), none⟩,
       ⟨(.t 17), .bin .mul (.c (.int .i64 32)) (.t 16), none⟩,
       ⟨(.t 18), .mv (.x 0), none⟩,
       ⟨(.t 19), .mv (.x 0), none⟩,
       ⟨(.t 20), .len 1 (.t 19), none⟩,
       ⟨(.t 21), .bin .sub (.t 20) (.c (.int .i64 1)), none⟩,
       ⟨(.t 22), .iad 1 (.t 18) (.t 21), none⟩,
       ⟨(.t 23), .ld (.t 22), none⟩,
       ⟨(.t 24), .call 34 [(.t 23)], none⟩,
       ⟨(.t 25), .bin .sub (.t 17) (.t 24), none⟩,
       ⟨(.t 26), .bin .add (.t 25) (.c (.int .i64 1)), none⟩,
       ⟨(.t 27), .bin .quo (.t 26) (.c (.int .i64 2)), none⟩,
       ⟨(.x 3), .mv (.t 27), none⟩])
     (.seq
      (.reg [⟨(.t 28), .mv (.x 3), none⟩,
        ⟨(.t 29), .bin .quo (.t 28) (.c (.int .i64 32)), none⟩,
        ⟨(.t 30), .bin .add (.t 29) (.c (.int .i64 1)), none⟩,
        ⟨(.t 31), .mks 1 4 [(.int .u32 0)] (.t 30) (.t 30), none⟩,
        ⟨(.x 4), .mv (.t 31), none⟩])
      (.seq
       (.reg [⟨(.t 32), .mv (.x 4), none⟩,
         ⟨(.t 33), .mv (.x 3), none⟩,
         ⟨(.t 34), .bin .quo (.t 33) (.c (.int .i64 32)), none⟩,
         ⟨(.t 35), .mv (.x 3), none⟩,
         ⟨(.t 36), .bin .rem (.t 35) (.c (.int .i64 32)), none⟩,
         ⟨(.t 37), .bin .shl (.c (.int .u32 1)) (.t 36), none⟩,
         ⟨(.t 38), .iad 1 (.t 32) (.t 34), none⟩,
         ⟨.no, .st (.t 38) (.t 37), none⟩])
       (.block 0
        (.loop
         (.block 1
          (.seq
           (.reg [⟨(.t 40), .mv (.x 0), none⟩,
             ⟨(.t 41), .mv (.x 4), none⟩,
             ⟨(.t 42), .call 13 [(.t 40), (.t 41)], none⟩,
             ⟨(.t 39), .mv (.t 42), none⟩,
             ⟨(.t 43), .ext (.t 39) 0, none⟩,
             ⟨(.t 44), .ext (.t 39) 1, none⟩,
             ⟨(.t 45), .ext (.t 39) 2, none⟩,
             ⟨(.x 5), .mv (.t 43), none⟩,
             ⟨(.t 6), .mv (.t 44), none⟩,
             ⟨(.t 7), .mv (.t 45), none⟩])
           (.seq
            (.reg [⟨(.t 47), .mv (.x 4), none⟩,
              ⟨(.t 48), .mv (.x 5), none⟩,
              ⟨(.t 49), .call 16 [(.t 47), (.t 48)], none⟩,
              ⟨(.t 50), .call 22 [(.t 49), (.c (.int .u32 2))], none⟩,
              ⟨(.t 46), .mv (.t 50), none⟩,
              ⟨(.t 51), .ext (.t 46) 0, none⟩,
              ⟨(.t 52), .ext (.t 46) 1, none⟩,
              ⟨(.x 8), .mv (.t 51), none⟩,
              ⟨(.t 9), .mv (.t 52), none⟩])
            (.seq
             (.seq
              (.reg [⟨(.t 53), .mv (.x 8), none⟩,
                ⟨(.t 54), .mv (.x 4), none⟩,
                ⟨(.t 55), .call 30 [(.t 53), (.t 54)], none⟩,
                ⟨(.x 56), .bin .geq (.t 55) (.c (.int .i64 0)), none⟩])
              (.cond (.x 56)
               (.seq
                (.reg [⟨(.t 57), .mv (.x 4), none⟩,
                  ⟨(.x 2), .mv (.t 57), none⟩])
                .ret)
               .skip))
             (.reg [⟨(.t 58), .mv (.x 8), none⟩,
               ⟨(.x 4), .mv (.t 58), none⟩])))))))))))))
def resnRoot : List RV := [.t 2]
theorem nbnRoot : fnnRoot.nb = 0 := rfl
theorem isnRoot : IsFn fnnRoot 15 codenRoot resnRoot := ⟨⟨Tryd.f15, _, Tryd.func15, rfl, rfl, by kernel_rfl, by kernel_rfl, by kernel_rfl⟩⟩

/-- robuststats/natural.Add -/
noncomputable def fnnAdd : FnD := ⟨Tryd.prog, [0, 1, 4, 5, 6, 7, 8, 9, 18, 25, 26, 27, 28, 35], [], 58, 0, false⟩
def codenAdd : DC :=
 (.seq
  (.reg [⟨(.x 4), .mv (.c .nils), none⟩])
  (.seq
   (.reg [⟨(.t 10), .mv (.x 0), none⟩,
     ⟨(.t 11), .call 21 [(.t 10)], none⟩,
     ⟨(.t 12), .mv (.x 1), none⟩,
     ⟨(.t 13), .call 21 [(.t 12)], none⟩,
     ⟨(.x 0), .mv (.t 11), none⟩,
     ⟨(.x 1), .mv (.t 13), none⟩])
   (.seq
    (.seq
     (.reg [⟨(.t 14), .mv (.x 0), none⟩,
       ⟨(.t 15), .len 1 (.t 14), none⟩,
       ⟨(.t 16), .mv (.x 1), none⟩,
       ⟨(.t 17), .len 1 (.t 16), none⟩,
       ⟨(.x 18), .bin .lss (.t 15) (.t 17), none⟩])
     (.cond (.x 18)
      (.reg [⟨(.t 19), .mv (.x 1), none⟩,
        ⟨(.t 20), .mv (.x 0), none⟩,
        ⟨(.x 0), .mv (.t 19), none⟩,
        ⟨(.x 1), .mv (.t 20), none⟩])
      .skip))
    (.seq
     (.reg [⟨(.t 21), .mv (.x 0), none⟩,
       ⟨(.t 22), .len 1 (.t 21), none⟩,
       ⟨(.t 23), .bin .add (.t 22) (.c (.int .i64 1)), none⟩,
       ⟨(.t 24), .mks 1 4 [(.int .u32 0)] (.t 23) (.t 23), none⟩,
       ⟨(.x 5), .mv (.t 24), none⟩])
     (.seq
      (.reg [⟨(.x 6), .mv (.c (.int .u32 0)), none⟩])
      (.seq
       (.seq
        (.reg [⟨(.x 25), .mv (.x 0), none⟩,
          ⟨(.x 26), .len 1 (.x 25), none⟩,
          ⟨(.x 27), .mv (.c (.int .i64 0)), none⟩])
        (.block 0
         (.loop
          (.seq
           (.reg [⟨(.x 28), .bin .lss (.x 27) (.x 26), none⟩])
           (.seq
            (.cond (.x 28)
             .skip
             (.exit 0))
            (.seq
             (.block 1
              (.seq
               (.reg [⟨(.t 29), .mv (.x 27), none⟩,
                 ⟨(.t 30), .iad 1 (.x 25) (.x 27), none⟩,
                 ⟨(.t 31), .ld (.t 30), none⟩,
                 ⟨(.x 7), .mv (.t 29), none⟩,
                 ⟨(.x 8), .mv (.t 31), none⟩])
               (.seq
                (.reg [⟨(.x 9), .mv (.c (.int .u32 0)), none⟩])
                (.seq
                 (.seq
                  (.reg [⟨(.t 32), .mv (.x 7), none⟩,
                    ⟨(.t 33), .mv (.x 1), none⟩,
                    ⟨(.t 34), .len 1 (.t 33), none⟩,
                    ⟨(.x 35), .bin .lss (.t 32) (.t 34), none⟩])
                  (.cond (.x 35)
                   (.reg [⟨(.t 36), .mv (.x 1), none⟩,
                     ⟨(.t 37), .mv (.x 7), none⟩,
                     ⟨(.t 38), .iad 1 (.t 36) (.t 37), none⟩,
                     ⟨(.t 39), .ld (.t 38), none⟩,
                     ⟨(.x 9), .mv (.t 39), none⟩])
                   .skip))
                 (.reg [⟨(.t 41), .mv (.x 5), none⟩,
                   ⟨(.t 42), .mv (.x 7), none⟩,
                   ⟨(.t 43), .mv (.x 8), none⟩,
                   ⟨(.t 44), .mv (.x 9), none⟩,
                   ⟨(.t 45), .mv (.x 6), none⟩,
                   ⟨(.t 46), .call 35 [(.t 43), (.t 44), (.t 45)], none⟩,
                   ⟨(.t 40), .mv (.t 46), none⟩,
                   ⟨(.t 47), .ext (.t 40) 0, none⟩,
                   ⟨(.t 48), .ext (.t 40) 1, none⟩,
                   ⟨(.t 49), .iad 1 (.t 41) (.t 42), none⟩,
                   ⟨.no, .st (.t 49) (.t 47), none⟩,
                   ⟨(.x 6), .mv (.t 48), none⟩])))))
             (.reg [⟨(.t 50), .bin .add (.x 27) (.c (.int .i64 1)), none⟩,
               ⟨(.x 27), .mv (.t 50), none⟩])))))))
       (.seq
        (.reg [⟨(.t 51), .mv (.x 5), none⟩,
          ⟨(.t 52), .mv (.x 0), none⟩,
          ⟨(.t 53), .len 1 (.t 52), none⟩,
          ⟨(.t 54), .mv (.x 6), none⟩,
          ⟨(.t 55), .iad 1 (.t 51) (.t 53), none⟩,
          ⟨.no, .st (.t 55) (.t 54), none⟩])
        (.seq
         (.reg [⟨(.t 56), .mv (.x 5), none⟩,
           ⟨(.t 57), .call 33 [(.t 56)], none⟩,
           ⟨(.x 4), .mv (.t 57), none⟩])
         .ret))))))))
def resnAdd : List RV := [.t 4]
theorem nbnAdd : fnnAdd.nb = 0 := rfl
theorem isnAdd : IsFn fnnAdd 16 codenAdd resnAdd := ⟨⟨Tryd.f16, _, Tryd.func16, rfl, rfl, by kernel_rfl, by kernel_rfl, by kernel_rfl⟩⟩

/-- robuststats/natural.Mul -/
noncomputable def fnnMul : FnD := ⟨Tryd.prog, [0, 1, 4, 5, 6, 7, 8, 9, 10, 21, 22, 23, 24, 28, 29, 30, 31], [], 71, 0, false⟩
def codenMul : DC :=
 (.seq
  (.reg [⟨(.x 4), .mv (.c .nils), none⟩])
  (.seq
   (.reg [⟨(.t 11), .mv (.x 0), none⟩,
     ⟨(.t 12), .call 21 [(.t 11)], none⟩,
     ⟨(.t 13), .mv (.x 1), none⟩,
     ⟨(.t 14), .call 21 [(.t 13)], none⟩,
     ⟨(.x 0), .mv (.t 12), none⟩,
     ⟨(.x 1), .mv (.t 14), none⟩])
   (.seq
    (.reg [⟨(.t 15), .mv (.x 0), none⟩,
      ⟨(.t 16), .len 1 (.t 15), none⟩,
      ⟨(.t 17), .mv (.x 1), none⟩,
      ⟨(.t 18), .len 1 (.t 17), none⟩,
      ⟨(.t 19), .bin .add (.t 16) (.t 18), none⟩,
      ⟨(.t 20), .mks 1 4 [(.int .u32 0)] (.t 19) (.t 19), none⟩,
      ⟨(.x 5), .mv (.t 20), none⟩])
    (.seq
     (.seq
      (.reg [⟨(.x 21), .mv (.x 0), none⟩,
        ⟨(.x 22), .len 1 (.x 21), none⟩,
        ⟨(.x 23), .mv (.c (.int .i64 0)), none⟩])
      (.block 0
       (.loop
        (.seq
         (.reg [⟨(.x 24), .bin .lss (.x 23) (.x 22), none⟩])
         (.seq
          (.cond (.x 24)
           .skip
           (.exit 0))
          (.seq
           (.block 1
            (.seq
             (.reg [⟨(.t 25), .mv (.x 23), none⟩,
               ⟨(.t 26), .iad 1 (.x 21) (.x 23), none⟩,
               ⟨(.t 27), .ld (.t 26), none⟩,
               ⟨(.x 6), .mv (.t 25), none⟩,
               ⟨(.x 7), .mv (.t 27), none⟩])
             (.seq
              (.reg [⟨(.x 8), .mv (.c (.int .u64 0)), none⟩])
              (.seq
               (.seq
                (.reg [⟨(.x 28), .mv (.x 1), none⟩,
                  ⟨(.x 29), .len 1 (.x 28), none⟩,
                  ⟨(.x 30), .mv (.c (.int .i64 0)), none⟩])
                (.block 2
                 (.loop
                  (.seq
                   (.reg [⟨(.x 31), .bin .lss (.x 30) (.x 29), none⟩])
                   (.seq
                    (.cond (.x 31)
                     .skip
                     (.exit 2))
                    (.seq
                     (.block 3
                      (.seq
                       (.reg [⟨(.t 32), .mv (.x 30), none⟩,
                         ⟨(.t 33), .iad 1 (.x 28) (.x 30), none⟩,
                         ⟨(.t 34), .ld (.t 33), none⟩,
                         ⟨(.x 9), .mv (.t 32), none⟩,
                         ⟨(.x 10), .mv (.t 34), none⟩])
                       (.seq
                        (.reg [⟨(.t 35), .mv (.x 8), none⟩,
                          ⟨(.t 36), .mv (.x 7), none⟩,
                          ⟨(.t 37), .conv .u64 (.t 36), none⟩,
                          ⟨(.t 38), .mv (.x 10), none⟩,
                          ⟨(.t 39), .conv .u64 (.t 38), none⟩,
                          ⟨(.t 40), .bin .mul (.t 37) (.t 39), none⟩,
                          ⟨(.t 41), .mv (.x 5), none⟩,
                          ⟨(.t 42), .mv (.x 6), none⟩,
                          ⟨(.t 43), .mv (.x 9), none⟩,
                          ⟨(.t 44), .bin .add (.t 42) (.t 43), none⟩,
                          ⟨(.t 45), .iad 1 (.t 41) (.t 44), none⟩,
                          ⟨(.t 46), .ld (.t 45), none⟩,
                          ⟨(.t 47), .conv .u64 (.t 46), none⟩,
                          ⟨(.t 48), .bin .add (.t 40) (.t 47), none⟩,
                          ⟨(.t 49), .bin .add (.t 35) (.t 48), none⟩,
                          ⟨(.x 8), .mv (.t 49), none⟩])
                        (.seq
                         (.reg [⟨(.t 50), .mv (.x 5), none⟩,
                           ⟨(.t 51), .mv (.x 6), none⟩,
                           ⟨(.t 52), .mv (.x 9), none⟩,
                           ⟨(.t 53), .bin .add (.t 51) (.t 52), none⟩,
                           ⟨(.t 54), .mv (.x 8), none⟩,
                           ⟨(.t 55), .conv .u32 (.t 54), none⟩,
                           ⟨(.t 56), .iad 1 (.t 50) (.t 53), none⟩,
                           ⟨.no, .st (.t 56) (.t 55), none⟩])
                         (.reg [⟨(.t 57), .mv (.x 8), none⟩,
                           ⟨(.t 58), .bin .shr (.t 57) (.c (.int .u64 32)), none⟩,
                           ⟨(.x 8), .mv (.t 58), none⟩])))))
                     (.reg [⟨(.t 59), .bin .add (.x 30) (.c (.int .i64 1)), none⟩,
                       ⟨(.x 30), .mv (.t 59), none⟩])))))))
               (.reg [⟨(.t 60), .mv (.x 5), none⟩,
                 ⟨(.t 61), .mv (.x 6), none⟩,
                 ⟨(.t 62), .mv (.x 1), none⟩,
                 ⟨(.t 63), .len 1 (.t 62), none⟩,
                 ⟨(.t 64), .bin .add (.t 61) (.t 63), none⟩,
                 ⟨(.t 65), .mv (.x 8), none⟩,
                 ⟨(.t 66), .conv .u32 (.t 65), none⟩,
                 ⟨(.t 67), .iad 1 (.t 60) (.t 64), none⟩,
                 ⟨.no, .st (.t 67) (.t 66), none⟩])))))
           (.reg [⟨(.t 68), .bin .add (.x 23) (.c (.int .i64 1)), none⟩,
             ⟨(.x 23), .mv (.t 68), none⟩])))))))
     (.seq
      (.reg [⟨(.t 69), .mv (.x 5), none⟩,
        ⟨(.t 70), .call 33 [(.t 69)], none⟩,
        ⟨(.x 4), .mv (.t 70), none⟩])
      .ret)))))
def resnMul : List RV := [.t 4]
theorem nbnMul : fnnMul.nb = 0 := rfl
theorem isnMul : IsFn fnnMul 17 codenMul resnMul := ⟨⟨Tryd.f17, _, Tryd.func17, rfl, rfl, by kernel_rfl, by kernel_rfl, by kernel_rfl⟩⟩

/-- robuststats/robuststatsref01.Add -/
noncomputable def fnrAdd : FnD := ⟨Tryd.prog, [0, 1, 4, 5, 6, 7, 8, 19], [], 40, 0, false⟩
def coderAdd : DC :=
 (.seq
  (.reg [⟨(.x 4), .mv (.c .nils), none⟩])
  (.seq
   (.reg [⟨(.t 9), .mv (.x 0), none⟩,
     ⟨(.t 10), .call 27 [(.t 9)], none⟩,
     ⟨(.t 11), .mv (.x 1), none⟩,
     ⟨(.t 12), .call 27 [(.t 11)], none⟩,
     ⟨(.x 0), .mv (.t 10), none⟩,
     ⟨(.x 1), .mv (.t 12), none⟩])
   (.seq
    (.reg [⟨(.x 5), .mv (.c .nils), none⟩])
    (.seq
     (.reg [⟨(.x 6), .mv (.c (.int .u64 0)), none⟩])
     (.seq
      (.seq
       (.reg [⟨(.x 7), .mv (.c (.int .i64 0)), none⟩])
       (.block 0
        (.loop
         (.seq
          (.seq
           (.reg [⟨(.t 13), .mv (.x 7), none⟩,
             ⟨(.t 14), .mv (.x 0), none⟩,
             ⟨(.t 15), .len 1 (.t 14), none⟩,
             ⟨(.t 16), .mv (.x 1), none⟩,
             ⟨(.t 17), .len 1 (.t 16), none⟩,
             ⟨(.t 18), .max2 (.t 15) (.t 17), none⟩,
             ⟨(.x 19), .bin .leq (.t 13) (.t 18), none⟩])
           (.cond (.x 19)
            .skip
            (.exit 0)))
          (.seq
           (.block 1
            (.seq
             (.reg [⟨(.t 22), .mv (.x 0), none⟩,
               ⟨(.t 23), .mv (.x 7), none⟩,
               ⟨(.t 24), .call 29 [(.t 22), (.t 23)], none⟩,
               ⟨(.t 25), .mv (.x 1), none⟩,
               ⟨(.t 26), .mv (.x 7), none⟩,
               ⟨(.t 27), .call 29 [(.t 25), (.t 26)], none⟩,
               ⟨(.t 28), .bin .add (.t 24) (.t 27), none⟩,
               ⟨(.t 29), .mv (.x 6), none⟩,
               ⟨(.t 30), .bin .add (.t 28) (.t 29), none⟩,
               ⟨(.x 8), .mv (.t 30), none⟩])
             (.reg [⟨(.t 31), .mv (.x 5), none⟩,
               ⟨(.t 32), .mv (.x 8), none⟩,
               ⟨(.t 33), .conv .u32 (.t 32), none⟩,
               ⟨(.t 34), .bsl 1 [(.int .u32 0)] [(0, 1, (.t 33))], none⟩,
               ⟨(.t 35), .app 1 4 (.t 31) (.t 34), none⟩,
               ⟨(.t 36), .mv (.x 8), none⟩,
               ⟨(.t 37), .bin .shr (.t 36) (.c (.int .u64 32)), none⟩,
               ⟨(.x 5), .mv (.t 35), none⟩,
               ⟨(.x 6), .mv (.t 37), none⟩])))
           (.reg [⟨(.t 20), .mv (.x 7), none⟩,
             ⟨(.t 21), .bin .add (.t 20) (.c (.int .i64 1)), none⟩,
             ⟨(.x 7), .mv (.t 21), none⟩]))))))
      (.seq
       (.reg [⟨(.t 38), .mv (.x 5), none⟩,
         ⟨(.t 39), .call 36 [(.t 38)], none⟩,
         ⟨(.x 4), .mv (.t 39), none⟩])
       .ret))))))
def resrAdd : List RV := [.t 4]
theorem nbrAdd : fnrAdd.nb = 0 := rfl
theorem isrAdd : IsFn fnrAdd 18 coderAdd resrAdd := ⟨⟨Tryd.f18, _, Tryd.func18, rfl, rfl, by kernel_rfl, by kernel_rfl, by kernel_rfl⟩⟩

/-- robuststats/robuststatsref01.times -/
noncomputable def fnrTimes : FnD := ⟨Tryd.prog, [0, 1, 2, 6, 7, 8, 9, 10, 16], [], 36, 0, false⟩
def coderTimes : DC :=
 (.seq
  (.reg [⟨(.x 6), .mv (.c .nils), none⟩])
  (.seq
   (.reg [⟨(.t 11), .mv (.x 2), none⟩,
     ⟨(.t 12), .mks 1 4 [(.int .u32 0)] (.t 11) (.t 11), none⟩,
     ⟨(.x 7), .mv (.t 12), none⟩])
   (.seq
    (.reg [⟨(.x 8), .mv (.c (.int .u64 0)), none⟩])
    (.seq
     (.seq
      (.reg [⟨(.x 9), .mv (.c (.int .i64 0)), none⟩])
      (.block 0
       (.loop
        (.seq
         (.seq
          (.reg [⟨(.t 13), .mv (.x 9), none⟩,
            ⟨(.t 14), .mv (.x 0), none⟩,
            ⟨(.t 15), .len 1 (.t 14), none⟩,
            ⟨(.x 16), .bin .leq (.t 13) (.t 15), none⟩])
          (.cond (.x 16)
           .skip
           (.exit 0)))
         (.seq
          (.block 1
           (.seq
            (.reg [⟨(.t 19), .mv (.x 0), none⟩,
              ⟨(.t 20), .mv (.x 9), none⟩,
              ⟨(.t 21), .call 29 [(.t 19), (.t 20)], none⟩,
              ⟨(.t 22), .mv (.x 1), none⟩,
              ⟨(.t 23), .conv .u64 (.t 22), none⟩,
              ⟨(.t 24), .bin .mul (.t 21) (.t 23), none⟩,
              ⟨(.t 25), .mv (.x 8), none⟩,
              ⟨(.t 26), .bin .add (.t 24) (.t 25), none⟩,
              ⟨(.x 10), .mv (.t 26), none⟩])
            (.reg [⟨(.t 27), .mv (.x 7), none⟩,
              ⟨(.t 28), .mv (.x 10), none⟩,
              ⟨(.t 29), .conv .u32 (.t 28), none⟩,
              ⟨(.t 30), .bsl 1 [(.int .u32 0)] [(0, 1, (.t 29))], none⟩,
              ⟨(.t 31), .app 1 4 (.t 27) (.t 30), none⟩,
              ⟨(.t 32), .mv (.x 10), none⟩,
              ⟨(.t 33), .bin .shr (.t 32) (.c (.int .u64 32)), none⟩,
              ⟨(.x 7), .mv (.t 31), none⟩,
              ⟨(.x 8), .mv (.t 33), none⟩])))
          (.reg [⟨(.t 17), .mv (.x 9), none⟩,
            ⟨(.t 18), .bin .add (.t 17) (.c (.int .i64 1)), none⟩,
            ⟨(.x 9), .mv (.t 18), none⟩]))))))
     (.seq
      (.reg [⟨(.t 34), .mv (.x 7), none⟩,
        ⟨(.t 35), .call 36 [(.t 34)], none⟩,
        ⟨(.x 6), .mv (.t 35), none⟩])
      .ret)))))
def resrTimes : List RV := [.t 6]
theorem nbrTimes : fnrTimes.nb = 0 := rfl
theorem isrTimes : IsFn fnrTimes 19 coderTimes resrTimes := ⟨⟨Tryd.f19, _, Tryd.func19, rfl, rfl, by kernel_rfl, by kernel_rfl, by kernel_rfl⟩⟩

/-- robuststats/robuststatsref01.FromUint -/
noncomputable def fnrFromUint : FnD := ⟨Tryd.prog, [0, 2], [], 10, 0, false⟩
def coderFromUint : DC :=
 (.seq
  (.reg [⟨(.x 2), .mv (.c .nils), none⟩])
  (.seq
   (.reg [⟨(.t 3), .mv (.x 0), none⟩,
     ⟨(.t 4), .conv .u32 (.t 3), none⟩,
     ⟨(.t 5), .mv (.x 0), none⟩,
     ⟨(.t 6), .bin .shr (.t 5) (.c (.int .u64 32)), none⟩,
     ⟨(.t 7), .conv .u32 (.t 6), none⟩,
     ⟨(.t 8), .bsl 1 [(.int .u32 0), (.int .u32 0)] [(0, 1, (.t 4)), (1, 1, (.t 7))], none⟩,
     ⟨(.t 9), .call 36 [(.t 8)], none⟩,
     ⟨(.x 2), .mv (.t 9), none⟩])
   .ret))
def resrFromUint : List RV := [.t 2]
theorem nbrFromUint : fnrFromUint.nb = 0 := rfl
theorem isrFromUint : IsFn fnrFromUint 20 coderFromUint resrFromUint := ⟨⟨Tryd.f20, _, Tryd.func20, rfl, rfl, by kernel_rfl, by kernel_rfl, by kernel_rfl⟩⟩

/-- robuststats/natural.value -/
noncomputable def fnnValue : FnD := ⟨Tryd.prog, [0, 2, 4], [], 6, 0, false⟩
def codenValue : DC :=
 (.seq
  (.reg [⟨(.x 2), .mv (.c .nils), none⟩])
  (.seq
   (.seq
    (.reg [⟨(.t 3), .mv (.x 0), none⟩,
      ⟨(.x 4), .call 37 [(.t 3)], none⟩])
    (.cond (.x 4)
     (.seq
      (.reg [⟨(.t 5), .mv (.x 0), none⟩,
        ⟨(.x 2), .mv (.t 5), none⟩])
      .ret)
     .skip))
   (.seq
    (.reg [⟨(.x 2), .mv (.c .nils), none⟩])
    .ret)))
def resnValue : List RV := [.t 2]
theorem nbnValue : fnnValue.nb = 0 := rfl
theorem isnValue : IsFn fnnValue 21 codenValue resnValue := ⟨⟨Tryd.f21, _, Tryd.func21, rfl, rfl, by kernel_rfl, by kernel_rfl, by kernel_rfl⟩⟩

/-- robuststats/natural.short -/
noncomputable def fnnShort : FnD := ⟨Tryd.prog, [0, 1, 4, 5, 6, 14], [], 33, 0, false⟩
def codenShort : DC :=
 (.seq
  (.reg [⟨(.x 4), .mv (.c .nils), none⟩,
    ⟨(.x 5), .mv (.c (.int .u32 0)), none⟩])
  (.seq
   (.reg [⟨(.t 7), .mv (.x 0), none⟩,
     ⟨(.t 8), .len 1 (.t 7), none⟩,
     ⟨(.t 9), .mks 1 4 [(.int .u32 0)] (.t 8) (.t 8), none⟩,
     ⟨(.x 4), .mv (.t 9), none⟩])
   (.seq
    (.seq
     (.reg [⟨(.t 10), .mv (.x 0), none⟩,
       ⟨(.t 11), .len 1 (.t 10), none⟩,
       ⟨(.t 12), .bin .sub (.t 11) (.c (.int .i64 1)), none⟩,
       ⟨(.x 6), .mv (.t 12), none⟩])
     (.block 0
      (.loop
       (.seq
        (.seq
         (.reg [⟨(.t 13), .mv (.x 6), none⟩,
           ⟨(.x 14), .bin .geq (.t 13) (.c (.int .i64 0)), none⟩])
         (.cond (.x 14)
          .skip
          (.exit 0)))
        (.seq
         (.block 1
          (.reg [⟨(.t 18), .mv (.x 4), none⟩,
            ⟨(.t 19), .mv (.x 6), none⟩,
            ⟨(.t 20), .mv (.x 5), none⟩,
            ⟨(.t 21), .mv (.x 0), none⟩,
            ⟨(.t 22), .mv (.x 6), none⟩,
            ⟨(.t 23), .iad 1 (.t 21) (.t 22), none⟩,
            ⟨(.t 24), .ld (.t 23), none⟩,
            ⟨(.t 25), .mv (.x 1), none⟩,
            ⟨(.t 26), .call 38 [(.t 20), (.t 24), (.t 25)], none⟩,
            ⟨(.t 17), .mv (.t 26), none⟩,
            ⟨(.t 27), .ext (.t 17) 0, none⟩,
            ⟨(.t 28), .ext (.t 17) 1, none⟩,
            ⟨(.t 29), .iad 1 (.t 18) (.t 19), none⟩,
            ⟨.no, .st (.t 29) (.t 27), none⟩,
            ⟨(.x 5), .mv (.t 28), none⟩]))
         (.reg [⟨(.t 15), .mv (.x 6), none⟩,
           ⟨(.t 16), .bin .sub (.t 15) (.c (.int .i64 1)), none⟩,
           ⟨(.x 6), .mv (.t 16), none⟩]))))))
    (.seq
     (.reg [⟨(.t 30), .mv (.x 4), none⟩,
       ⟨(.t 31), .call 33 [(.t 30)], none⟩,
       ⟨(.t 32), .mv (.x 5), none⟩,
       ⟨(.x 4), .mv (.t 31), none⟩,
       ⟨(.x 5), .mv (.t 32), none⟩])
     .ret))))
def resnShort : List RV := [.t 4, .t 5]
theorem nbnShort : fnnShort.nb = 0 := rfl
theorem isnShort : IsFn fnnShort 22 codenShort resnShort := ⟨⟨Tryd.f22, _, Tryd.func22, rfl, rfl, by kernel_rfl, by kernel_rfl, by kernel_rfl⟩⟩

/-- strconv.Itoa -/
noncomputable def fnscItoa : FnD := ⟨Tryd.prog, [0, 2], [], 5, 0, false⟩
def codescItoa : DC :=
 (.seq
  (.reg [⟨(.x 2), .mv (.c (.str [])), none⟩])
  (.seq
   (.reg [⟨(.t 3), .mv (.x 0), none⟩,
     ⟨(.t 4), .call 39 [(.t 3)], none⟩,
     ⟨(.x 2), .mv (.t 4), none⟩])
   .ret))
def resscItoa : List RV := [.t 2]
theorem nbscItoa : fnscItoa.nb = 0 := rfl
theorem isscItoa : IsFn fnscItoa 23 codescItoa resscItoa := ⟨⟨Tryd.f23, _, Tryd.func23, rfl, rfl, by kernel_rfl, by kernel_rfl, by kernel_rfl⟩⟩

/-- slices.Reverse[[]string,string] -/
noncomputable def fnslReverse : FnD := ⟨Tryd.prog, [0, 2, 3, 9], [], 28, 0, false⟩
def codeslReverse : DC :=
 (.seq
  (.reg [⟨(.t 4), .mv (.x 0), none⟩,
    ⟨(.t 5), .len 1 (.t 4), none⟩,
    ⟨(.t 6), .bin .sub (.t 5) (.c (.int .i64 1)), none⟩,
    ⟨(.x 2), .mv (.c (.int .i64 0)), none⟩,
    ⟨(.x 3), .mv (.t 6), none⟩])
  (.block 0
   (.loop
    (.seq
     (.seq
      (.reg [⟨(.t 7), .mv (.x 2), none⟩,
        ⟨(.t 8), .mv (.x 3), none⟩,
        ⟨(.x 9), .bin .lss (.t 7) (.t 8), none⟩])
      (.cond (.x 9)
       .skip
       (.exit 0)))
     (.seq
      (.block 1
       (.regd [⟨(.t 14), .mv (.x 0), none⟩,
         ⟨(.t 15), .mv (.x 2), none⟩,
         ⟨(.t 16), .mv (.x 0), none⟩,
         ⟨(.t 17), .mv (.x 3), none⟩,
         ⟨(.t 18), .mv (.x 0), none⟩,
         ⟨(.t 19), .mv (.x 3), none⟩,
         ⟨(.t 20), .iad 1 (.t 18) (.t 19), none⟩,
         ⟨(.t 21), .ld (.t 20), none⟩,
         ⟨(.t 22), .mv (.x 0), none⟩,
         ⟨(.t 23), .mv (.x 2), none⟩,
         ⟨(.t 24), .iad 1 (.t 22) (.t 23), none⟩,
         ⟨(.t 25), .ld (.t 24), none⟩,
         ⟨(.t 26), .iad 1 (.t 14) (.t 15), none⟩,
         ⟨.no, .st (.t 26) (.t 21), none⟩,
         ⟨(.t 27), .iad 1 (.t 16) (.t 17), none⟩,
         ⟨.no, .st (.t 27) (.t 25), none⟩]))
      (.reg [⟨(.t 10), .mv (.x 2), none⟩,
        ⟨(.t 11), .bin .add (.t 10) (.c (.int .i64 1)), none⟩,
        ⟨(.t 12), .mv (.x 3), none⟩,
        ⟨(.t 13), .bin .sub (.t 12) (.c (.int .i64 1)), none⟩,
        ⟨(.x 2), .mv (.t 11), none⟩,
        ⟨(.x 3), .mv (.t 13), none⟩]))))))
def resslReverse : List RV := []
theorem nbslReverse : fnslReverse.nb = 0 := rfl
theorem isslReverse : IsFn fnslReverse 25 codeslReverse resslReverse := ⟨⟨Tryd.f25, _, Tryd.func25, rfl, rfl, by kernel_rfl, by kernel_rfl, by kernel_rfl⟩⟩

/-- strings.Join -/
noncomputable def fnstrJoin : FnD := ⟨Tryd.prog, [0, 1, 4, 5, 7, 8, 10, 12, 13, 15, 22, 29, 39, 40, 41, 42, 49, 63, 64, 65, 66], [], 75, 0, false⟩
def codestrJoin : DC :=
 (.seq
  (.reg [⟨(.x 4), .mv (.c (.str [])), none⟩])
  (.seq
   (.seq
    (.reg [⟨(.t 11), .mv (.x 0), none⟩,
      ⟨(.x 12), .len 1 (.t 11), none⟩])
    (.block 0
     (.seq
      (.reg [⟨(.t 14), .bin .eql (.x 12) (.c (.int .i64 0)), none⟩,
        ⟨(.x 13), .mv (.t 14), none⟩])
      (.cond (.x 13)
       (.seq
        (.reg [⟨(.x 4), .mv (.c (.str [])), none⟩])
        .ret)
       (.seq
        (.reg [⟨(.t 16), .bin .eql (.x 12) (.c (.int .i64 1)), none⟩,
          ⟨(.x 15), .mv (.t 16), none⟩])
        (.cond (.x 15)
         (.seq
          (.reg [⟨(.t 17), .mv (.x 0), none⟩,
            ⟨(.t 18), .iad 1 (.t 17) (.c (.int .i64 0)), none⟩,
            ⟨(.t 19), .ld (.t 18), none⟩,
            ⟨(.x 4), .mv (.t 19), none⟩])
          .ret)
         .skip))))))
   (.seq
    (.reg [⟨(.x 5), .mv (.c (.int .i64 0)), none⟩])
    (.seq
     (.seq
      (.reg [⟨(.t 20), .mv (.x 1), none⟩,
        ⟨(.t 21), .lenS (.t 20), none⟩,
        ⟨(.x 22), .bin .gtr (.t 21) (.c (.int .i64 0)), none⟩])
      (.cond (.x 22)
       (.seq
        (.seq
         (.reg [⟨(.t 23), .mv (.x 1), none⟩,
           ⟨(.t 24), .lenS (.t 23), none⟩,
           ⟨(.t 25), .mv (.x 0), none⟩,
           ⟨(.t 26), .len 1 (.t 25), none⟩,
           ⟨(.t 27), .bin .sub (.t 26) (.c (.int .i64 1)), none⟩,
           ⟨(.t 28), .bin .quo (.c (.int .i64 9223372036854775807)) (.t 27), none⟩,
           ⟨(.x 29), .bin .geq (.t 24) (.t 28), none⟩])
         (.cond (.x 29)
          (.reg [⟨(.t 30), .mki 9 (.c (.str [115, 116, 114, 105, 110, 103, 115, 58, 32, 74, 111, 105, 110, 32, 111, 117, 116, 112, 117, 116, 32, 108, 101, 110, 103, 116, 104, 32, 111, 118, 101, 114, 102, 108, 111, 119])), none⟩,
            ⟨.no, .pan (.t 30), none⟩])
          .skip))
        (.reg [⟨(.t 31), .mv (.x 5), none⟩,
          ⟨(.t 32), .mv (.x 1), none⟩,
          ⟨(.t 33), .lenS (.t 32), none⟩,
          ⟨(.t 34), .mv (.x 0), none⟩,
          ⟨(.t 35), .len 1 (.t 34), none⟩,
          ⟨(.t 36), .bin .sub (.t 35) (.c (.int .i64 1)), none⟩,
          ⟨(.t 37), .bin .mul (.t 33) (.t 36), none⟩,
          ⟨(.t 38), .bin .add (.t 31) (.t 37), none⟩,
          ⟨(.x 5), .mv (.t 38), none⟩]))
       .skip))
     (.seq
      (.seq
       (.reg [⟨(.x 39), .mv (.x 0), none⟩,
         ⟨(.x 40), .len 1 (.x 39), none⟩,
         ⟨(.x 41), .mv (.c (.int .i64 0)), none⟩])
       (.block 1
        (.loop
         (.seq
          (.reg [⟨(.x 42), .bin .lss (.x 41) (.x 40), none⟩])
          (.seq
           (.cond (.x 42)
            .skip
            (.exit 1))
           (.seq
            (.block 2
             (.seq
              (.reg [⟨(.t 43), .iad 1 (.x 39) (.x 41), none⟩,
                ⟨(.t 44), .ld (.t 43), none⟩,
                ⟨(.x 7), .mv (.t 44), none⟩])
              (.seq
               (.seq
                (.reg [⟨(.t 45), .mv (.x 7), none⟩,
                  ⟨(.t 46), .lenS (.t 45), none⟩,
                  ⟨(.t 47), .mv (.x 5), none⟩,
                  ⟨(.t 48), .bin .sub (.c (.int .i64 9223372036854775807)) (.t 47), none⟩,
                  ⟨(.x 49), .bin .gtr (.t 46) (.t 48), none⟩])
                (.cond (.x 49)
                 (.reg [⟨(.t 50), .mki 9 (.c (.str [115, 116, 114, 105, 110, 103, 115, 58, 32, 74, 111, 105, 110, 32, 111, 117, 116, 112, 117, 116, 32, 108, 101, 110, 103, 116, 104, 32, 111, 118, 101, 114, 102, 108, 111, 119])), none⟩,
                   ⟨.no, .pan (.t 50), none⟩])
                 .skip))
               (.reg [⟨(.t 51), .mv (.x 5), none⟩,
                 ⟨(.t 52), .mv (.x 7), none⟩,
                 ⟨(.t 53), .lenS (.t 52), none⟩,
                 ⟨(.t 54), .bin .add (.t 51) (.t 53), none⟩,
                 ⟨(.x 5), .mv (.t 54), none⟩]))))
            (.reg [⟨(.t 55), .bin .add (.x 41) (.c (.int .i64 1)), none⟩,
              ⟨(.x 41), .mv (.t 55), none⟩])))))))
      (.seq
       (.reg [⟨(.x 8), .alloc [.nilp, .nils], none⟩])
       (.seq
        (.reg [⟨(.t 56), .mv (.x 5), none⟩,
          ⟨(.t 57), .call 42 [(.x 8), (.t 56)], none⟩])
        (.seq
         (.reg [⟨(.t 58), .mv (.x 0), none⟩,
           ⟨(.t 59), .iad 1 (.t 58) (.c (.int .i64 0)), none⟩,
           ⟨(.t 60), .ld (.t 59), none⟩,
           ⟨(.t 61), .call 43 [(.x 8), (.t 60)], none⟩])
         (.seq
          (.seq
           (.reg [⟨(.t 62), .mv (.x 0), none⟩,
             ⟨(.x 63), .slc 1 (.t 62) (some (.c (.int .i64 1))) none, none⟩,
             ⟨(.x 64), .len 1 (.x 63), none⟩,
             ⟨(.x 65), .mv (.c (.int .i64 0)), none⟩])
           (.block 3
            (.loop
             (.seq
              (.reg [⟨(.x 66), .bin .lss (.x 65) (.x 64), none⟩])
              (.seq
               (.cond (.x 66)
                .skip
                (.exit 3))
               (.seq
                (.block 4
                 (.seq
                  (.reg [⟨(.t 67), .iad 1 (.x 63) (.x 65), none⟩,
                    ⟨(.t 68), .ld (.t 67), none⟩,
                    ⟨(.x 10), .mv (.t 68), none⟩])
                  (.seq
                   (.reg [⟨(.t 69), .mv (.x 1), none⟩,
                     ⟨(.t 70), .call 43 [(.x 8), (.t 69)], none⟩])
                   (.reg [⟨(.t 71), .mv (.x 10), none⟩,
                     ⟨(.t 72), .call 43 [(.x 8), (.t 71)], none⟩]))))
                (.reg [⟨(.t 73), .bin .add (.x 65) (.c (.int .i64 1)), none⟩,
                  ⟨(.x 65), .mv (.t 73), none⟩])))))))
          (.seq
           (.reg [⟨(.t 74), .call 45 [(.x 8)], none⟩,
             ⟨(.x 4), .mv (.t 74), none⟩])
           .ret))))))))))
def resstrJoin : List RV := [.t 4]
theorem nbstrJoin : fnstrJoin.nb = 0 := rfl
theorem isstrJoin : IsFn fnstrJoin 26 codestrJoin resstrJoin := ⟨⟨Tryd.f26, _, Tryd.func26, rfl, rfl, by kernel_rfl, by kernel_rfl, by kernel_rfl⟩⟩

/-- robuststats/robuststatsref01.Take -/
noncomputable def fnrTake : FnD := ⟨Tryd.prog, [0, 2, 5], [], 8, 0, false⟩
def coderTake : DC :=
 (.seq
  (.reg [⟨(.x 2), .mv (.c .nils), none⟩])
  (.seq
   (.seq
    (.reg [⟨(.t 3), .mv (.x 0), none⟩,
      ⟨(.t 4), .call 12 [(.t 3)], none⟩,
      ⟨(.x 5), .un .not (.t 4), none⟩])
    (.cond (.x 5)
     (.seq
      (.reg [⟨(.x 2), .mv (.c .nils), none⟩])
      .ret)
     .skip))
   (.seq
    (.reg [⟨(.t 6), .mv (.x 0), none⟩,
      ⟨(.t 7), .app 1 4 (.c .nils) (.t 6), none⟩,
      ⟨(.x 2), .mv (.t 7), none⟩])
    .ret)))
def resrTake : List RV := [.t 2]
theorem nbrTake : fnrTake.nb = 0 := rfl
theorem isrTake : IsFn fnrTake 27 coderTake resrTake := ⟨⟨Tryd.f27, _, Tryd.func27, rfl, rfl, by kernel_rfl, by kernel_rfl, by kernel_rfl⟩⟩

/-- robuststats/robuststatsref01.Div -/
noncomputable def fnrDiv : FnD := ⟨Tryd.prog, [0, 1, 4, 5, 6, 7, 8, 9, 10, 11, 18, 24, 38], [], 46, 0, false⟩
def coderDiv : DC :=
 (.seq
  (.reg [⟨(.x 4), .mv (.c .nils), none⟩,
    ⟨(.x 5), .mv (.c .nils), none⟩,
    ⟨(.x 6), .mv (.c (.bool false)), none⟩])
  (.seq
   (.reg [⟨(.t 12), .mv (.x 0), none⟩,
     ⟨(.t 13), .call 27 [(.t 12)], none⟩,
     ⟨(.t 14), .mv (.x 1), none⟩,
     ⟨(.t 15), .call 27 [(.t 14)], none⟩,
     ⟨(.x 0), .mv (.t 13), none⟩,
     ⟨(.x 1), .mv (.t 15), none⟩])
   (.seq
    (.seq
     (.reg [⟨(.t 16), .mv (.x 1), none⟩,
       ⟨(.t 17), .len 1 (.t 16), none⟩,
       ⟨(.x 18), .bin .eql (.t 17) (.c (.int .i64 0)), none⟩])
     (.cond (.x 18)
      (.seq
       (.reg [⟨(.x 4), .mv (.c .nils), none⟩,
         ⟨(.x 5), .mv (.c .nils), none⟩,
         ⟨(.x 6), .mv (.c (.bool false)), none⟩])
       .ret)
      .skip))
    (.seq
     (.reg [⟨(.x 7), .mv (.c .nils), none⟩,
       ⟨(.x 8), .mv (.c .nils), none⟩])
     (.seq
      (.seq
       (.reg [⟨(.t 19), .mv (.x 0), none⟩,
         ⟨(.t 20), .len 1 (.t 19), none⟩,
         ⟨(.t 21), .bin .mul (.c (.int .i64 32)) (.t 20), none⟩,
         ⟨(.t 22), .bin .sub (.t 21) (.c (.int .i64 1)), none⟩,
         ⟨(.x 9), .mv (.t 22), none⟩])
       (.block 0
        (.loop
         (.seq
          (.seq
           (.reg [⟨(.t 23), .mv (.x 9), none⟩,
             ⟨(.x 24), .bin .geq (.t 23) (.c (.int .i64 0)), none⟩])
           (.cond (.x 24)
            .skip
            (.exit 0)))
          (.seq
           (.block 1
            (.seq
             (.reg [⟨(.t 27), .mv (.x 8), none⟩,
               ⟨(.t 28), .mv (.x 0), none⟩,
               ⟨(.t 29), .mv (.x 9), none⟩,
               ⟨(.t 30), .call 47 [(.t 28), (.t 29)], none⟩,
               ⟨(.t 31), .call 46 [(.t 27), (.t 30)], none⟩,
               ⟨(.x 8), .mv (.t 31), none⟩])
             (.seq
              (.reg [⟨(.t 33), .mv (.x 8), none⟩,
                ⟨(.t 34), .mv (.x 1), none⟩,
                ⟨(.t 35), .call 48 [(.t 33), (.t 34)], none⟩,
                ⟨(.t 32), .mv (.t 35), none⟩,
                ⟨(.t 36), .ext (.t 32) 0, none⟩,
                ⟨(.t 37), .ext (.t 32) 1, none⟩,
                ⟨(.x 10), .mv (.t 36), none⟩,
                ⟨(.x 11), .mv (.t 37), none⟩])
              (.seq
               (.reg [⟨(.x 38), .mv (.x 11), none⟩])
               (.cond (.x 38)
                (.reg [⟨(.t 39), .mv (.x 10), none⟩,
                  ⟨(.t 40), .mv (.x 7), none⟩,
                  ⟨(.t 41), .call 46 [(.t 40), (.c (.int .u32 1))], none⟩,
                  ⟨(.x 8), .mv (.t 39), none⟩,
                  ⟨(.x 7), .mv (.t 41), none⟩])
                (.reg [⟨(.t 42), .mv (.x 7), none⟩,
                  ⟨(.t 43), .call 46 [(.t 42), (.c (.int .u32 0))], none⟩,
                  ⟨(.x 7), .mv (.t 43), none⟩]))))))
           (.reg [⟨(.t 25), .mv (.x 9), none⟩,
             ⟨(.t 26), .bin .sub (.t 25) (.c (.int .i64 1)), none⟩,
             ⟨(.x 9), .mv (.t 26), none⟩]))))))
      (.seq
       (.reg [⟨(.t 44), .mv (.x 7), none⟩,
         ⟨(.t 45), .mv (.x 8), none⟩,
         ⟨(.x 4), .mv (.t 44), none⟩,
         ⟨(.x 5), .mv (.t 45), none⟩,
         ⟨(.x 6), .mv (.c (.bool true)), none⟩])
       .ret))))))
def resrDiv : List RV := [.t 4, .t 5, .t 6]
theorem nbrDiv : fnrDiv.nb = 0 := rfl
theorem isrDiv : IsFn fnrDiv 28 coderDiv resrDiv := ⟨⟨Tryd.f28, _, Tryd.func28, rfl, rfl, by kernel_rfl, by kernel_rfl, by kernel_rfl⟩⟩

/-- robuststats/robuststatsref01.limb -/
noncomputable def fnrLimb : FnD := ⟨Tryd.prog, [0, 1, 4, 8], [], 14, 0, false⟩
def coderLimb : DC :=
 (.seq
  (.reg [⟨(.x 4), .mv (.c (.int .u64 0)), none⟩])
  (.seq
   (.seq
    (.reg [⟨(.t 5), .mv (.x 1), none⟩,
      ⟨(.t 6), .mv (.x 0), none⟩,
      ⟨(.t 7), .len 1 (.t 6), none⟩,
      ⟨(.x 8), .bin .geq (.t 5) (.t 7), none⟩])
    (.cond (.x 8)
     (.seq
      (.reg [⟨(.x 4), .mv (.c (.int .u64 0)), none⟩])
      .ret)
     .skip))
   (.seq
    (.reg [⟨(.t 9), .mv (.x 0), none⟩,
      ⟨(.t 10), .mv (.x 1), none⟩,
      ⟨(.t 11), .iad 1 (.t 9) (.t 10), none⟩,
      ⟨(.t 12), .ld (.t 11), none⟩,
      ⟨(.t 13), .conv .u64 (.t 12), none⟩,
      ⟨(.x 4), .mv (.t 13), none⟩])
    .ret)))
def resrLimb : List RV := [.t 4]
theorem nbrLimb : fnrLimb.nb = 0 := rfl
theorem isrLimb : IsFn fnrLimb 29 coderLimb resrLimb := ⟨⟨Tryd.f29, _, Tryd.func29, rfl, rfl, by kernel_rfl, by kernel_rfl, by kernel_rfl⟩⟩

/-- robuststats/natural.Compare -/
noncomputable def fnnCmp : FnD := ⟨Tryd.prog, [0, 1, 4, 5, 14, 19, 24, 27, 37], [], 47, 0, false⟩
def codenCmp : DC :=
 (.seq
  (.reg [⟨(.x 4), .mv (.c (.int .i64 0)), none⟩])
  (.seq
   (.reg [⟨(.t 6), .mv (.x 0), none⟩,
     ⟨(.t 7), .call 21 [(.t 6)], none⟩,
     ⟨(.t 8), .mv (.x 1), none⟩,
     ⟨(.t 9), .call 21 [(.t 8)], none⟩,
     ⟨(.x 0), .mv (.t 7), none⟩,
     ⟨(.x 1), .mv (.t 9), none⟩])
   (.seq
    (.seq
     (.reg [⟨(.t 10), .mv (.x 0), none⟩,
       ⟨(.t 11), .len 1 (.t 10), none⟩,
       ⟨(.t 12), .mv (.x 1), none⟩,
       ⟨(.t 13), .len 1 (.t 12), none⟩,
       ⟨(.x 14), .bin .neq (.t 11) (.t 13), none⟩])
     (.cond (.x 14)
      (.seq
       (.seq
        (.reg [⟨(.t 15), .mv (.x 0), none⟩,
          ⟨(.t 16), .len 1 (.t 15), none⟩,
          ⟨(.t 17), .mv (.x 1), none⟩,
          ⟨(.t 18), .len 1 (.t 17), none⟩,
          ⟨(.x 19), .bin .lss (.t 16) (.t 18), none⟩])
        (.cond (.x 19)
         (.seq
          (.reg [⟨(.x 4), .mv (.c (.int .i64 (-1))), none⟩])
          .ret)
         .skip))
       (.seq
        (.reg [⟨(.x 4), .mv (.c (.int .i64 1)), none⟩])
        .ret))
      .skip))
    (.seq
     (.seq
      (.reg [⟨(.t 20), .mv (.x 0), none⟩,
        ⟨(.t 21), .len 1 (.t 20), none⟩,
        ⟨(.t 22), .bin .sub (.t 21) (.c (.int .i64 1)), none⟩,
        ⟨(.x 5), .mv (.t 22), none⟩])
      (.block 0
       (.loop
        (.seq
         (.seq
          (.reg [⟨(.t 23), .mv (.x 5), none⟩,
            ⟨(.x 24), .bin .geq (.t 23) (.c (.int .i64 0)), none⟩])
          (.cond (.x 24)
           .skip
           (.exit 0)))
         (.seq
          (.block 1
           (.block 2
            (.seq
             (.regd [⟨(.t 28), .mv (.x 0), none⟩,
               ⟨(.t 29), .mv (.x 5), none⟩,
               ⟨(.t 30), .iad 1 (.t 28) (.t 29), none⟩,
               ⟨(.t 31), .ld (.t 30), none⟩,
               ⟨(.t 32), .mv (.x 1), none⟩,
               ⟨(.t 33), .mv (.x 5), none⟩,
               ⟨(.t 34), .iad 1 (.t 32) (.t 33), none⟩,
               ⟨(.t 35), .ld (.t 34), none⟩,
               ⟨(.t 36), .bin .lss (.t 31) (.t 35), none⟩,
               ⟨(.x 27), .mv (.t 36), none⟩])
             (.cond (.x 27)
              (.seq
               (.reg [⟨(.x 4), .mv (.c (.int .i64 (-1))), none⟩])
               .ret)
              (.seq
               (.regd [⟨(.t 38), .mv (.x 0), none⟩,
                 ⟨(.t 39), .mv (.x 5), none⟩,
                 ⟨(.t 40), .iad 1 (.t 38) (.t 39), none⟩,
                 ⟨(.t 41), .ld (.t 40), none⟩,
                 ⟨(.t 42), .mv (.x 1), none⟩,
                 ⟨(.t 43), .mv (.x 5), none⟩,
                 ⟨(.t 44), .iad 1 (.t 42) (.t 43), none⟩,
                 ⟨(.t 45), .ld (.t 44), none⟩,
                 ⟨(.t 46), .bin .gtr (.t 41) (.t 45), none⟩,
                 ⟨(.x 37), .mv (.t 46), none⟩])
               (.cond (.x 37)
                (.seq
                 (.reg [⟨(.x 4), .mv (.c (.int .i64 1)), none⟩])
                 .ret)
                .skip))))))
          (.reg [⟨(.t 25), .mv (.x 5), none⟩,
            ⟨(.t 26), .bin .sub (.t 25) (.c (.int .i64 1)), none⟩,
            ⟨(.x 5), .mv (.t 26), none⟩]))))))
     (.seq
      (.reg [⟨(.x 4), .mv (.c (.int .i64 0)), none⟩])
      .ret)))))
def resnCmp : List RV := [.t 4]
theorem nbnCmp : fnnCmp.nb = 0 := rfl
theorem isnCmp : IsFn fnnCmp 30 codenCmp resnCmp := ⟨⟨Tryd.f30, _, Tryd.func30, rfl, rfl, by kernel_rfl, by kernel_rfl, by kernel_rfl⟩⟩

/-- slices.Clone[[]uint32,uint32] -/
noncomputable def fnClone : FnD := ⟨Tryd.prog, [0, 2, 4], [], 8, 0, false⟩
def codeClone : DC :=
 (.seq
  (.reg [⟨(.x 2), .mv (.c .nils), none⟩])
  (.seq
   (.seq
    .bad
    (.cond (.x 4)
     (.seq
      (.reg [⟨(.x 2), .mv (.c .nils), none⟩])
      .ret)
     .skip))
   (.seq
    (.reg [⟨(.t 5), .bsl 1 [] [], none⟩,
      ⟨(.t 6), .mv (.x 0), none⟩,
      ⟨(.t 7), .app 1 4 (.t 5) (.t 6), none⟩,
      ⟨(.x 2), .mv (.t 7), none⟩])
    .ret)))
def resClone : List RV := [.t 2]
theorem nbClone : fnClone.nb = 0 := rfl
theorem isClone : IsFn fnClone 31 codeClone resClone := ⟨⟨Tryd.f31, _, Tryd.func31, rfl, rfl, by kernel_rfl, by kernel_rfl, by kernel_rfl⟩⟩

/-- robuststats/natural.divide -/
noncomputable def fnnDivide : FnD := ⟨Tryd.prog, [0, 1, 4, 5, 6, 7, 8, 9, 10, 11, 12, 39, 82, 102, 103, 104], [], 130, 0, false⟩
def codenDivide : DC :=
 (.seq
  (.reg [⟨(.x 4), .mv (.c .nils), none⟩,
    ⟨(.x 5), .mv (.c .nils), none⟩])
  (.seq
   (.reg [⟨(.t 13), .mv (.x 1), none⟩,
     ⟨(.t 14), .mv (.x 1), none⟩,
     ⟨(.t 15), .len 1 (.t 14), none⟩,
     ⟨(.t 16), .bin .sub (.t 15) (.c (.int .i64 1)), none⟩,
     ⟨(.t 17), .iad 1 (.t 13) (.t 16), none⟩,
     ⟨(.t 18), .ld (.t 17), none⟩,
     ⟨(.t 19), .call 34 [(.t 18)], none⟩,
     ⟨(.t 20), .mv (.x 1), none⟩,
     ⟨(.t 21), .len 1 (.t 20), none⟩,
     ⟨(.x 6), .mv (.t 19), none⟩,
     ⟨(.x 7), .mv (.t 21), none⟩])
   (.seq
    (.reg [⟨(.t 22), .mv (.x 0), none⟩,
      ⟨(.t 23), .mv (.x 6), none⟩,
      ⟨(.t 24), .call 49 [(.t 22), (.t 23)], none⟩,
      ⟨(.t 25), .mv (.x 1), none⟩,
      ⟨(.t 26), .mv (.x 6), none⟩,
      ⟨(.t 27), .call 49 [(.t 25), (.t 26)], none⟩,
      ⟨(.t 28), .call 33 [(.t 27)], none⟩,
      ⟨(.x 8), .mv (.t 24), none⟩,
      ⟨(.x 9), .mv (.t 28), none⟩])
    (.seq
     (.reg [⟨(.t 29), .mv (.x 0), none⟩,
       ⟨(.t 30), .len 1 (.t 29), none⟩,
       ⟨(.t 31), .mv (.x 7), none⟩,
       ⟨(.t 32), .bin .sub (.t 30) (.t 31), none⟩,
       ⟨(.t 33), .bin .add (.t 32) (.c (.int .i64 1)), none⟩,
       ⟨(.t 34), .mks 1 4 [(.int .u32 0)] (.t 33) (.t 33), none⟩,
       ⟨(.x 4), .mv (.t 34), none⟩])
     (.seq
      (.seq
       (.reg [⟨(.t 35), .mv (.x 4), none⟩,
         ⟨(.t 36), .len 1 (.t 35), none⟩,
         ⟨(.t 37), .bin .sub (.t 36) (.c (.int .i64 1)), none⟩,
         ⟨(.x 10), .mv (.t 37), none⟩])
       (.block 0
        (.loop
         (.seq
          (.seq
           (.reg [⟨(.t 38), .mv (.x 10), none⟩,
             ⟨(.x 39), .bin .geq (.t 38) (.c (.int .i64 0)), none⟩])
           (.cond (.x 39)
            .skip
            (.exit 0)))
          (.seq
           (.block 1
            (.seq
             (.regd [⟨(.t 42), .mv (.x 8), none⟩,
               ⟨(.t 43), .mv (.x 10), none⟩,
               ⟨(.t 44), .mv (.x 7), none⟩,
               ⟨(.t 45), .bin .add (.t 43) (.t 44), none⟩,
               ⟨(.t 46), .iad 1 (.t 42) (.t 45), none⟩,
               ⟨(.t 47), .ld (.t 46), none⟩,
               ⟨(.t 48), .mv (.x 8), none⟩,
               ⟨(.t 49), .mv (.x 10), none⟩,
               ⟨(.t 50), .mv (.x 7), none⟩,
               ⟨(.t 51), .bin .add (.t 49) (.t 50), none⟩,
               ⟨(.t 52), .bin .sub (.t 51) (.c (.int .i64 1)), none⟩,
               ⟨(.t 53), .iad 1 (.t 48) (.t 52), none⟩,
               ⟨(.t 54), .ld (.t 53), none⟩,
               ⟨(.t 55), .mv (.x 8), none⟩,
               ⟨(.t 56), .mv (.x 10), none⟩,
               ⟨(.t 57), .mv (.x 7), none⟩,
               ⟨(.t 58), .bin .add (.t 56) (.t 57), none⟩,
               ⟨(.t 59), .bin .sub (.t 58) (.c (.int .i64 2)), none⟩,
               ⟨(.t 60), .iad 1 (.t 55) (.t 59), none⟩,
               ⟨(.t 61), .ld (.t 60), none⟩,
               ⟨(.t 62), .mv (.x 9), none⟩,
               ⟨(.t 63), .mv (.x 7), none⟩,
               ⟨(.t 64), .bin .sub (.t 63) (.c (.int .i64 1)), none⟩,
               ⟨(.t 65), .iad 1 (.t 62) (.t 64), none⟩,
               ⟨(.t 66), .ld (.t 65), none⟩,
               ⟨(.t 67), .mv (.x 9), none⟩,
               ⟨(.t 68), .mv (.x 7), none⟩,
               ⟨(.t 69), .bin .sub (.t 68) (.c (.int .i64 2)), none⟩,
               ⟨(.t 70), .iad 1 (.t 67) (.t 69), none⟩,
               ⟨(.t 71), .ld (.t 70), none⟩,
               ⟨(.t 72), .call 50 [(.t 47), (.t 54), (.t 61), (.t 66), (.t 71)], none⟩,
               ⟨(.x 11), .mv (.t 72), none⟩])
             (.seq
              (.seq
               (.reg [⟨(.t 73), .mv (.x 8), none⟩,
                 ⟨(.t 74), .mv (.x 10), none⟩,
                 ⟨(.t 75), .mv (.x 10), none⟩,
                 ⟨(.t 76), .mv (.x 7), none⟩,
                 ⟨(.t 77), .bin .add (.t 75) (.t 76), none⟩,
                 ⟨(.t 78), .bin .add (.t 77) (.c (.int .i64 1)), none⟩,
                 ⟨(.t 79), .slc 1 (.t 73) (some (.t 74)) (some (.t 78)), none⟩,
                 ⟨(.t 80), .mv (.x 9), none⟩,
                 ⟨(.t 81), .mv (.x 11), none⟩,
                 ⟨(.x 82), .call 51 [(.t 79), (.t 80), (.t 81)], none⟩])
               (.cond (.x 82)
                (.seq
                 (.reg [⟨(.t 83), .mv (.x 8), none⟩,
                   ⟨(.t 84), .mv (.x 10), none⟩,
                   ⟨(.t 85), .mv (.x 10), none⟩,
                   ⟨(.t 86), .mv (.x 7), none⟩,
                   ⟨(.t 87), .bin .add (.t 85) (.t 86), none⟩,
                   ⟨(.t 88), .bin .add (.t 87) (.c (.int .i64 1)), none⟩,
                   ⟨(.t 89), .slc 1 (.t 83) (some (.t 84)) (some (.t 88)), none⟩,
                   ⟨(.t 90), .mv (.x 9), none⟩,
                   ⟨(.t 91), .call 52 [(.t 89), (.t 90)], none⟩])
                 (.reg [⟨(.t 92), .mv (.x 11), none⟩,
                   ⟨(.t 93), .bin .sub (.t 92) (.c (.int .u64 1)), none⟩,
                   ⟨(.x 11), .mv (.t 93), none⟩]))
                .skip))
              (.reg [⟨(.t 94), .mv (.x 4), none⟩,
                ⟨(.t 95), .mv (.x 10), none⟩,
                ⟨(.t 96), .mv (.x 11), none⟩,
                ⟨(.t 97), .conv .u32 (.t 96), none⟩,
                ⟨(.t 98), .iad 1 (.t 94) (.t 95), none⟩,
                ⟨.no, .st (.t 98) (.t 97), none⟩]))))
           (.reg [⟨(.t 40), .mv (.x 10), none⟩,
             ⟨(.t 41), .bin .sub (.t 40) (.c (.int .i64 1)), none⟩,
             ⟨(.x 10), .mv (.t 41), none⟩]))))))
      (.seq
       (.reg [⟨(.t 99), .mv (.x 7), none⟩,
         ⟨(.t 100), .mks 1 4 [(.int .u32 0)] (.t 99) (.t 99), none⟩,
         ⟨(.x 5), .mv (.t 100), none⟩])
       (.seq
        (.seq
         (.reg [⟨(.t 101), .mv (.x 5), none⟩,
           ⟨(.x 102), .len 1 (.t 101), none⟩,
           ⟨(.x 103), .mv (.c (.int .i64 0)), none⟩])
         (.block 2
          (.loop
           (.seq
            (.reg [⟨(.x 104), .bin .lss (.x 103) (.x 102), none⟩])
            (.seq
             (.cond (.x 104)
              .skip
              (.exit 2))
             (.seq
              (.block 3
               (.seq
                (.reg [⟨(.t 105), .mv (.x 103), none⟩,
                  ⟨(.x 12), .mv (.t 105), none⟩])
                (.regd [⟨(.t 106), .mv (.x 5), none⟩,
                  ⟨(.t 107), .mv (.x 12), none⟩,
                  ⟨(.t 108), .mv (.x 8), none⟩,
                  ⟨(.t 109), .mv (.x 12), none⟩,
                  ⟨(.t 110), .bin .add (.t 109) (.c (.int .i64 1)), none⟩,
                  ⟨(.t 111), .iad 1 (.t 108) (.t 110), none⟩,
                  ⟨(.t 112), .ld (.t 111), none⟩,
                  ⟨(.t 113), .conv .u64 (.t 112), none⟩,
                  ⟨(.t 114), .bin .shl (.t 113) (.c (.int .u64 32)), none⟩,
                  ⟨(.t 115), .mv (.x 8), none⟩,
                  ⟨(.t 116), .mv (.x 12), none⟩,
                  ⟨(.t 117), .iad 1 (.t 115) (.t 116), none⟩,
                  ⟨(.t 118), .ld (.t 117), none⟩,
                  ⟨(.t 119), .conv .u64 (.t 118), none⟩,
                  ⟨(.t 120), .bin .or (.t 114) (.t 119), none⟩,
                  ⟨(.t 121), .mv (.x 6), none⟩,
                  ⟨(.t 122), .bin .shr (.t 120) (.t 121), none⟩,
                  ⟨(.t 123), .conv .u32 (.t 122), none⟩,
                  ⟨(.t 124), .iad 1 (.t 106) (.t 107), none⟩,
                  ⟨.no, .st (.t 124) (.t 123), none⟩])))
              (.reg [⟨(.t 125), .bin .add (.x 103) (.c (.int .i64 1)), none⟩,
                ⟨(.x 103), .mv (.t 125), none⟩])))))))
        (.seq
         (.reg [⟨(.t 126), .mv (.x 4), none⟩,
           ⟨(.t 127), .call 33 [(.t 126)], none⟩,
           ⟨(.t 128), .mv (.x 5), none⟩,
           ⟨(.t 129), .call 33 [(.t 128)], none⟩,
           ⟨(.x 4), .mv (.t 127), none⟩,
           ⟨(.x 5), .mv (.t 129), none⟩])
         .ret))))))))
def resnDivide : List RV := [.t 4, .t 5]
theorem nbnDivide : fnnDivide.nb = 0 := rfl
theorem isnDivide : IsFn fnnDivide 32 codenDivide resnDivide := ⟨⟨Tryd.f32, _, Tryd.func32, rfl, rfl, by kernel_rfl, by kernel_rfl, by kernel_rfl⟩⟩

/-- robuststats/natural.trimmed -/
noncomputable def fnnTrim : FnD := ⟨Tryd.prog, [0, 2, 3, 15], [], 21, 0, false⟩
def codenTrim : DC :=
 (.seq
  (.reg [⟨(.x 2), .mv (.c .nils), none⟩])
  (.seq
   (.reg [⟨(.t 4), .mv (.x 0), none⟩,
     ⟨(.t 5), .len 1 (.t 4), none⟩,
     ⟨(.x 3), .mv (.t 5), none⟩])
   (.seq
    (.block 0
     (.loop
      (.seq
       (.seq
        (.reg [⟨(.t 6), .mv (.x 3), none⟩,
          ⟨(.t 7), .bin .gtr (.t 6) (.c (.int .i64 0)), none⟩,
          ⟨(.t 8), .mv (.t 7), none⟩,
          ⟨(.t 9), .mv (.x 0), (some ((.t 8), true))⟩,
          ⟨(.t 10), .mv (.x 3), (some ((.t 8), true))⟩,
          ⟨(.t 11), .bin .sub (.t 10) (.c (.int .i64 1)), (some ((.t 8), true))⟩,
          ⟨(.t 12), .iad 1 (.t 9) (.t 11), (some ((.t 8), true))⟩,
          ⟨(.t 13), .ld (.t 12), (some ((.t 8), true))⟩,
          ⟨(.t 14), .bin .eql (.t 13) (.c (.int .u32 0)), (some ((.t 8), true))⟩,
          ⟨(.x 15), .pick (.t 8) (.t 14) (.c (.bool false)), none⟩])
        (.cond (.x 15)
         .skip
         (.exit 0)))
       (.block 1
        (.reg [⟨(.t 16), .mv (.x 3), none⟩,
          ⟨(.t 17), .bin .sub (.t 16) (.c (.int .i64 1)), none⟩,
          ⟨(.x 3), .mv (.t 17), none⟩])))))
    (.seq
     (.reg [⟨(.t 18), .mv (.x 0), none⟩,
       ⟨(.t 19), .mv (.x 3), none⟩,
       ⟨(.t 20), .slc 1 (.t 18) none (some (.t 19)), none⟩,
       ⟨(.x 2), .mv (.t 20), none⟩])
     .ret))))
def resnTrim : List RV := [.t 2]
theorem nbnTrim : fnnTrim.nb = 0 := rfl
theorem isnTrim : IsFn fnnTrim 33 codenTrim resnTrim := ⟨⟨Tryd.f33, _, Tryd.func33, rfl, rfl, by kernel_rfl, by kernel_rfl, by kernel_rfl⟩⟩

/-- math/bits.LeadingZeros32 -/
noncomputable def fnLz32 : FnD := ⟨Tryd.prog, [0, 2], [], 6, 0, false⟩
def codeLz32 : DC :=
 (.seq
  (.reg [⟨(.x 2), .mv (.c (.int .i64 0)), none⟩])
  (.seq
   (.reg [⟨(.t 3), .mv (.x 0), none⟩,
     ⟨(.t 4), .call 53 [(.t 3)], none⟩,
     ⟨(.t 5), .bin .sub (.c (.int .i64 32)) (.t 4), none⟩,
     ⟨(.x 2), .mv (.t 5), none⟩])
   .ret))
def resLz32 : List RV := [.t 2]
theorem nbLz32 : fnLz32.nb = 0 := rfl
theorem isLz32 : IsFn fnLz32 34 codeLz32 resLz32 := ⟨⟨Tryd.f34, _, Tryd.func34, rfl, rfl, by kernel_rfl, by kernel_rfl, by kernel_rfl⟩⟩

/-- math/bits.Add32 -/
noncomputable def fnAdd32 : FnD := ⟨Tryd.prog, [0, 1, 2, 6, 7, 8], [], 22, 0, false⟩
def codeAdd32 : DC :=
 (.seq
  (.reg [⟨(.x 6), .mv (.c (.int .u32 0)), none⟩,
    ⟨(.x 7), .mv (.c (.int .u32 0)), none⟩])
  (.seq
   (.reg [⟨(.t 9), .mv (.x 0), none⟩,
     ⟨(.t 10), .conv .u64 (.t 9), none⟩,
     ⟨(.t 11), .mv (.x 1), none⟩,
     ⟨(.t 12), .conv .u64 (.t 11), none⟩,
     ⟨(.t 13), .bin .add (.t 10) (.t 12), none⟩,
     ⟨(.t 14), .mv (.x 2), none⟩,
     ⟨(.t 15), .conv .u64 (.t 14), none⟩,
     ⟨(.t 16), .bin .add (.t 13) (.t 15), none⟩,
     ⟨(.x 8), .mv (.t 16), none⟩])
   (.seq
    (.reg [⟨(.t 17), .mv (.x 8), none⟩,
      ⟨(.t 18), .conv .u32 (.t 17), none⟩,
      ⟨(.x 6), .mv (.t 18), none⟩])
    (.seq
     (.reg [⟨(.t 19), .mv (.x 8), none⟩,
       ⟨(.t 20), .bin .shr (.t 19) (.c (.int .u64 32)), none⟩,
       ⟨(.t 21), .conv .u32 (.t 20), none⟩,
       ⟨(.x 7), .mv (.t 21), none⟩])
     .ret))))
def resAdd32 : List RV := [.t 6, .t 7]
theorem nbAdd32 : fnAdd32.nb = 0 := rfl
theorem isAdd32 : IsFn fnAdd32 35 codeAdd32 resAdd32 := ⟨⟨Tryd.f35, _, Tryd.func35, rfl, rfl, by kernel_rfl, by kernel_rfl, by kernel_rfl⟩⟩

/-- robuststats/robuststatsref01.trim -/
noncomputable def fnrTrim : FnD := ⟨Tryd.prog, [0, 2, 14], [], 21, 0, false⟩
def coderTrim : DC :=
 (.seq
  (.reg [⟨(.x 2), .mv (.c .nils), none⟩])
  (.seq
   (.block 0
    (.loop
     (.seq
      (.seq
       (.reg [⟨(.t 3), .mv (.x 0), none⟩,
         ⟨(.t 4), .len 1 (.t 3), none⟩,
         ⟨(.t 5), .bin .gtr (.t 4) (.c (.int .i64 0)), none⟩,
         ⟨(.t 6), .mv (.t 5), none⟩,
         ⟨(.t 7), .mv (.x 0), (some ((.t 6), true))⟩,
         ⟨(.t 8), .mv (.x 0), (some ((.t 6), true))⟩,
         ⟨(.t 9), .len 1 (.t 8), (some ((.t 6), true))⟩,
         ⟨(.t 10), .bin .sub (.t 9) (.c (.int .i64 1)), (some ((.t 6), true))⟩,
         ⟨(.t 11), .iad 1 (.t 7) (.t 10), (some ((.t 6), true))⟩,
         ⟨(.t 12), .ld (.t 11), (some ((.t 6), true))⟩,
         ⟨(.t 13), .bin .eql (.t 12) (.c (.int .u32 0)), (some ((.t 6), true))⟩,
         ⟨(.x 14), .pick (.t 6) (.t 13) (.c (.bool false)), none⟩])
       (.cond (.x 14)
        .skip
        (.exit 0)))
      (.block 1
       (.reg [⟨(.t 15), .mv (.x 0), none⟩,
         ⟨(.t 16), .mv (.x 0), none⟩,
         ⟨(.t 17), .len 1 (.t 16), none⟩,
         ⟨(.t 18), .bin .sub (.t 17) (.c (.int .i64 1)), none⟩,
         ⟨(.t 19), .slc 1 (.t 15) none (some (.t 18)), none⟩,
         ⟨(.x 0), .mv (.t 19), none⟩])))))
   (.seq
    (.reg [⟨(.t 20), .mv (.x 0), none⟩,
      ⟨(.x 2), .mv (.t 20), none⟩])
    .ret)))
def resrTrim : List RV := [.t 2]
theorem nbrTrim : fnrTrim.nb = 0 := rfl
theorem isrTrim : IsFn fnrTrim 36 coderTrim resrTrim := ⟨⟨Tryd.f36, _, Tryd.func36, rfl, rfl, by kernel_rfl, by kernel_rfl, by kernel_rfl⟩⟩

/-- robuststats/natural.Valid -/
noncomputable def fnnValid : FnD := ⟨Tryd.prog, [0, 2], [], 15, 0, false⟩
def codenValid : DC :=
 (.seq
  (.reg [⟨(.x 2), .mv (.c (.bool false)), none⟩])
  (.seq
   (.reg [⟨(.t 3), .mv (.x 0), none⟩,
     ⟨(.t 4), .len 1 (.t 3), none⟩,
     ⟨(.t 5), .bin .eql (.t 4) (.c (.int .i64 0)), none⟩,
     ⟨(.t 6), .mv (.t 5), none⟩,
     ⟨(.t 7), .mv (.x 0), (some ((.t 6), false))⟩,
     ⟨(.t 8), .mv (.x 0), (some ((.t 6), false))⟩,
     ⟨(.t 9), .len 1 (.t 8), (some ((.t 6), false))⟩,
     ⟨(.t 10), .bin .sub (.t 9) (.c (.int .i64 1)), (some ((.t 6), false))⟩,
     ⟨(.t 11), .iad 1 (.t 7) (.t 10), (some ((.t 6), false))⟩,
     ⟨(.t 12), .ld (.t 11), (some ((.t 6), false))⟩,
     ⟨(.t 13), .bin .neq (.t 12) (.c (.int .u32 0)), (some ((.t 6), false))⟩,
     ⟨(.t 14), .pick (.t 6) (.c (.bool true)) (.t 13), none⟩,
     ⟨(.x 2), .mv (.t 14), none⟩])
   .ret))
def resnValid : List RV := [.t 2]
theorem nbnValid : fnnValid.nb = 0 := rfl
theorem isnValid : IsFn fnnValid 37 codenValid resnValid := ⟨⟨Tryd.f37, _, Tryd.func37, rfl, rfl, by kernel_rfl, by kernel_rfl, by kernel_rfl⟩⟩

/-- math/bits.Div32 -/
noncomputable def fnDiv32 : FnD := ⟨Tryd.prog, [0, 1, 2, 6, 7, 8, 15], [], 33, 0, false⟩
def codeDiv32 : DC :=
 (.seq
  (.reg [⟨(.x 6), .mv (.c (.int .u32 0)), none⟩,
    ⟨(.x 7), .mv (.c (.int .u32 0)), none⟩])
  (.seq
   (.seq
    (.reg [⟨(.t 9), .mv (.x 2), none⟩,
      ⟨(.t 10), .bin .neq (.t 9) (.c (.int .u32 0)), none⟩,
      ⟨(.t 11), .mv (.t 10), none⟩,
      ⟨(.t 12), .mv (.x 2), (some ((.t 11), true))⟩,
      ⟨(.t 13), .mv (.x 0), (some ((.t 11), true))⟩,
      ⟨(.t 14), .bin .leq (.t 12) (.t 13), (some ((.t 11), true))⟩,
      ⟨(.x 15), .pick (.t 11) (.t 14) (.c (.bool false)), none⟩])
    (.cond (.x 15)
     (.reg [⟨(.t 16), .ld (.c .undef), none⟩,
       ⟨.no, .pan (.t 16), none⟩])
     .skip))
   (.seq
    (.reg [⟨(.t 17), .mv (.x 0), none⟩,
      ⟨(.t 18), .conv .u64 (.t 17), none⟩,
      ⟨(.t 19), .bin .shl (.t 18) (.c (.int .u64 32)), none⟩,
      ⟨(.t 20), .mv (.x 1), none⟩,
      ⟨(.t 21), .conv .u64 (.t 20), none⟩,
      ⟨(.t 22), .bin .or (.t 19) (.t 21), none⟩,
      ⟨(.x 8), .mv (.t 22), none⟩])
    (.seq
     (.regd [⟨(.t 23), .mv (.x 8), none⟩,
       ⟨(.t 24), .mv (.x 2), none⟩,
       ⟨(.t 25), .conv .u64 (.t 24), none⟩,
       ⟨(.t 26), .bin .quo (.t 23) (.t 25), none⟩,
       ⟨(.t 27), .conv .u32 (.t 26), none⟩,
       ⟨(.t 28), .mv (.x 8), none⟩,
       ⟨(.t 29), .mv (.x 2), none⟩,
       ⟨(.t 30), .conv .u64 (.t 29), none⟩,
       ⟨(.t 31), .bin .rem (.t 28) (.t 30), none⟩,
       ⟨(.t 32), .conv .u32 (.t 31), none⟩,
       ⟨(.x 6), .mv (.t 27), none⟩,
       ⟨(.x 7), .mv (.t 32), none⟩])
     .ret))))
def resDiv32 : List RV := [.t 6, .t 7]
theorem nbDiv32 : fnDiv32.nb = 0 := rfl
theorem isDiv32 : IsFn fnDiv32 38 codeDiv32 resDiv32 := ⟨⟨Tryd.f38, _, Tryd.func38, rfl, rfl, by kernel_rfl, by kernel_rfl, by kernel_rfl⟩⟩

/-- robuststats/robuststatsref01.double -/
noncomputable def fnrDouble : FnD := ⟨Tryd.prog, [0, 1, 4, 5, 9], [], 14, 0, false⟩
def coderDouble : DC :=
 (.seq
  (.reg [⟨(.x 4), .mv (.c .nils), none⟩])
  (.seq
   (.reg [⟨(.t 6), .mv (.x 0), none⟩,
     ⟨(.t 7), .call 19 [(.t 6), (.c (.int .u32 2)), (.c (.int .i64 0))], none⟩,
     ⟨(.x 5), .mv (.t 7), none⟩])
   (.seq
    (.seq
     (.reg [⟨(.t 8), .mv (.x 1), none⟩,
       ⟨(.x 9), .bin .eql (.t 8) (.c (.int .u32 1)), none⟩])
     (.cond (.x 9)
      (.reg [⟨(.t 10), .mv (.x 5), none⟩,
        ⟨(.t 11), .bsl 1 [(.int .u32 0)] [(0, 1, (.c (.int .u32 1)))], none⟩,
        ⟨(.t 12), .call 18 [(.t 10), (.t 11)], none⟩,
        ⟨(.x 5), .mv (.t 12), none⟩])
      .skip))
    (.seq
     (.reg [⟨(.t 13), .mv (.x 5), none⟩,
       ⟨(.x 4), .mv (.t 13), none⟩])
     .ret))))
def resrDouble : List RV := [.t 4]
theorem nbrDouble : fnrDouble.nb = 0 := rfl
theorem isrDouble : IsFn fnrDouble 46 coderDouble resrDouble := ⟨⟨Tryd.f46, _, Tryd.func46, rfl, rfl, by kernel_rfl, by kernel_rfl, by kernel_rfl⟩⟩

/-- robuststats/robuststatsref01.bit -/
noncomputable def fnrBit : FnD := ⟨Tryd.prog, [0, 1, 4], [], 15, 0, false⟩
def coderBit : DC :=
 (.seq
  (.reg [⟨(.x 4), .mv (.c (.int .u32 0)), none⟩])
  (.seq
   (.reg [⟨(.t 5), .mv (.x 0), none⟩,
     ⟨(.t 6), .mv (.x 1), none⟩,
     ⟨(.t 7), .bin .quo (.t 6) (.c (.int .i64 32)), none⟩,
     ⟨(.t 8), .iad 1 (.t 5) (.t 7), none⟩,
     ⟨(.t 9), .ld (.t 8), none⟩,
     ⟨(.t 10), .mv (.x 1), none⟩,
     ⟨(.t 11), .bin .rem (.t 10) (.c (.int .i64 32)), none⟩,
     ⟨(.t 12), .conv .u64 (.t 11), none⟩,
     ⟨(.t 13), .bin .shr (.t 9) (.t 12), none⟩,
     ⟨(.t 14), .bin .and (.t 13) (.c (.int .u32 1)), none⟩,
     ⟨(.x 4), .mv (.t 14), none⟩])
   .ret))
def resrBit : List RV := [.t 4]
theorem nbrBit : fnrBit.nb = 0 := rfl
theorem isrBit : IsFn fnrBit 47 coderBit resrBit := ⟨⟨Tryd.f47, _, Tryd.func47, rfl, rfl, by kernel_rfl, by kernel_rfl, by kernel_rfl⟩⟩

/-- robuststats/robuststatsref01.Sub -/
noncomputable def fnrSub : FnD := ⟨Tryd.prog, [0, 1, 4, 5, 6, 7, 8, 9, 17, 21], [], 44, 0, false⟩
def coderSub : DC :=
 (.seq
  (.reg [⟨(.x 4), .mv (.c .nils), none⟩,
    ⟨(.x 5), .mv (.c (.bool false)), none⟩])
  (.seq
   (.reg [⟨(.t 10), .mv (.x 0), none⟩,
     ⟨(.t 11), .call 27 [(.t 10)], none⟩,
     ⟨(.t 12), .mv (.x 1), none⟩,
     ⟨(.t 13), .call 27 [(.t 12)], none⟩,
     ⟨(.x 0), .mv (.t 11), none⟩,
     ⟨(.x 1), .mv (.t 13), none⟩])
   (.seq
    (.seq
     (.reg [⟨(.t 14), .mv (.x 0), none⟩,
       ⟨(.t 15), .mv (.x 1), none⟩,
       ⟨(.t 16), .call 60 [(.t 14), (.t 15)], none⟩,
       ⟨(.x 17), .bin .lss (.t 16) (.c (.int .i64 0)), none⟩])
     (.cond (.x 17)
      (.seq
       (.reg [⟨(.x 4), .mv (.c .nils), none⟩,
         ⟨(.x 5), .mv (.c (.bool false)), none⟩])
       .ret)
      .skip))
    (.seq
     (.reg [⟨(.x 6), .mv (.c .nils), none⟩])
     (.seq
      (.reg [⟨(.x 7), .mv (.c (.int .u64 0)), none⟩])
      (.seq
       (.seq
        (.reg [⟨(.x 8), .mv (.c (.int .i64 0)), none⟩])
        (.block 0
         (.loop
          (.seq
           (.seq
            (.reg [⟨(.t 18), .mv (.x 8), none⟩,
              ⟨(.t 19), .mv (.x 0), none⟩,
              ⟨(.t 20), .len 1 (.t 19), none⟩,
              ⟨(.x 21), .bin .lss (.t 18) (.t 20), none⟩])
            (.cond (.x 21)
             .skip
             (.exit 0)))
           (.seq
            (.block 1
             (.seq
              (.reg [⟨(.t 24), .mv (.x 0), none⟩,
                ⟨(.t 25), .mv (.x 8), none⟩,
                ⟨(.t 26), .call 29 [(.t 24), (.t 25)], none⟩,
                ⟨(.t 27), .bin .add (.t 26) (.c (.int .u64 4294967296)), none⟩,
                ⟨(.t 28), .mv (.x 1), none⟩,
                ⟨(.t 29), .mv (.x 8), none⟩,
                ⟨(.t 30), .call 29 [(.t 28), (.t 29)], none⟩,
                ⟨(.t 31), .bin .sub (.t 27) (.t 30), none⟩,
                ⟨(.t 32), .mv (.x 7), none⟩,
                ⟨(.t 33), .bin .sub (.t 31) (.t 32), none⟩,
                ⟨(.x 9), .mv (.t 33), none⟩])
              (.reg [⟨(.t 34), .mv (.x 6), none⟩,
                ⟨(.t 35), .mv (.x 9), none⟩,
                ⟨(.t 36), .conv .u32 (.t 35), none⟩,
                ⟨(.t 37), .bsl 1 [(.int .u32 0)] [(0, 1, (.t 36))], none⟩,
                ⟨(.t 38), .app 1 4 (.t 34) (.t 37), none⟩,
                ⟨(.t 39), .mv (.x 9), none⟩,
                ⟨(.t 40), .bin .shr (.t 39) (.c (.int .u64 32)), none⟩,
                ⟨(.t 41), .bin .sub (.c (.int .u64 1)) (.t 40), none⟩,
                ⟨(.x 6), .mv (.t 38), none⟩,
                ⟨(.x 7), .mv (.t 41), none⟩])))
            (.reg [⟨(.t 22), .mv (.x 8), none⟩,
              ⟨(.t 23), .bin .add (.t 22) (.c (.int .i64 1)), none⟩,
              ⟨(.x 8), .mv (.t 23), none⟩]))))))
       (.seq
        (.reg [⟨(.t 42), .mv (.x 6), none⟩,
          ⟨(.t 43), .call 36 [(.t 42)], none⟩,
          ⟨(.x 4), .mv (.t 43), none⟩,
          ⟨(.x 5), .mv (.c (.bool true)), none⟩])
        .ret)))))))
def resrSub : List RV := [.t 4, .t 5]
theorem nbrSub : fnrSub.nb = 0 := rfl
theorem isrSub : IsFn fnrSub 48 coderSub resrSub := ⟨⟨Tryd.f48, _, Tryd.func48, rfl, rfl, by kernel_rfl, by kernel_rfl, by kernel_rfl⟩⟩

/-- robuststats/natural.shifted -/
noncomputable def fnnShifted : FnD := ⟨Tryd.prog, [0, 1, 4, 5, 6, 7, 8, 13, 14, 15, 16], [], 41, 0, false⟩
def codenShifted : DC :=
 (.seq
  (.reg [⟨(.x 4), .mv (.c .nils), none⟩])
  (.seq
   (.reg [⟨(.t 9), .mv (.x 0), none⟩,
     ⟨(.t 10), .len 1 (.t 9), none⟩,
     ⟨(.t 11), .bin .add (.t 10) (.c (.int .i64 1)), none⟩,
     ⟨(.t 12), .mks 1 4 [(.int .u32 0)] (.t 11) (.t 11), none⟩,
     ⟨(.x 5), .mv (.t 12), none⟩])
   (.seq
    (.seq
     (.reg [⟨(.x 13), .mv (.x 0), none⟩,
       ⟨(.x 14), .len 1 (.x 13), none⟩,
       ⟨(.x 15), .mv (.c (.int .i64 0)), none⟩])
     (.block 0
      (.loop
       (.seq
        (.reg [⟨(.x 16), .bin .lss (.x 15) (.x 14), none⟩])
        (.seq
         (.cond (.x 16)
          .skip
          (.exit 0))
         (.seq
          (.block 1
           (.seq
            (.reg [⟨(.t 17), .mv (.x 15), none⟩,
              ⟨(.t 18), .iad 1 (.x 13) (.x 15), none⟩,
              ⟨(.t 19), .ld (.t 18), none⟩,
              ⟨(.x 6), .mv (.t 17), none⟩,
              ⟨(.x 7), .mv (.t 19), none⟩])
            (.seq
             (.reg [⟨(.t 20), .mv (.x 7), none⟩,
               ⟨(.t 21), .conv .u64 (.t 20), none⟩,
               ⟨(.t 22), .mv (.x 1), none⟩,
               ⟨(.t 23), .bin .shl (.t 21) (.t 22), none⟩,
               ⟨(.x 8), .mv (.t 23), none⟩])
             (.seq
              (.reg [⟨(.t 24), .mv (.x 5), none⟩,
                ⟨(.t 25), .mv (.x 6), none⟩,
                ⟨(.t 26), .iad 1 (.t 24) (.t 25), none⟩,
                ⟨(.t 27), .ld (.t 26), none⟩,
                ⟨(.t 28), .mv (.x 8), none⟩,
                ⟨(.t 29), .conv .u32 (.t 28), none⟩,
                ⟨(.t 30), .bin .or (.t 27) (.t 29), none⟩,
                ⟨(.t 31), .iad 1 (.t 24) (.t 25), none⟩,
                ⟨.no, .st (.t 31) (.t 30), none⟩])
              (.reg [⟨(.t 32), .mv (.x 5), none⟩,
                ⟨(.t 33), .mv (.x 6), none⟩,
                ⟨(.t 34), .bin .add (.t 33) (.c (.int .i64 1)), none⟩,
                ⟨(.t 35), .mv (.x 8), none⟩,
                ⟨(.t 36), .bin .shr (.t 35) (.c (.int .u64 32)), none⟩,
                ⟨(.t 37), .conv .u32 (.t 36), none⟩,
                ⟨(.t 38), .iad 1 (.t 32) (.t 34), none⟩,
                ⟨.no, .st (.t 38) (.t 37), none⟩])))))
          (.reg [⟨(.t 39), .bin .add (.x 15) (.c (.int .i64 1)), none⟩,
            ⟨(.x 15), .mv (.t 39), none⟩])))))))
    (.seq
     (.reg [⟨(.t 40), .mv (.x 5), none⟩,
       ⟨(.x 4), .mv (.t 40), none⟩])
     .ret))))
def resnShifted : List RV := [.t 4]
theorem nbnShifted : fnnShifted.nb = 0 := rfl
theorem isnShifted : IsFn fnnShifted 49 codenShifted resnShifted := ⟨⟨Tryd.f49, _, Tryd.func49, rfl, rfl, by kernel_rfl, by kernel_rfl, by kernel_rfl⟩⟩

/-- robuststats/natural.guess -/
noncomputable def fnnGuess : FnD := ⟨Tryd.prog, [0, 1, 2, 3, 4, 10, 11, 12, 13, 45], [], 53, 0, false⟩
def codenGuess : DC :=
 (.seq
  (.reg [⟨(.x 10), .mv (.c (.int .u64 0)), none⟩])
  (.seq
   (.reg [⟨(.t 14), .mv (.x 0), none⟩,
     ⟨(.t 15), .conv .u64 (.t 14), none⟩,
     ⟨(.t 16), .bin .shl (.t 15) (.c (.int .u64 32)), none⟩,
     ⟨(.t 17), .mv (.x 1), none⟩,
     ⟨(.t 18), .conv .u64 (.t 17), none⟩,
     ⟨(.t 19), .bin .or (.t 16) (.t 18), none⟩,
     ⟨(.x 11), .mv (.t 19), none⟩])
   (.seq
    (.regd [⟨(.t 20), .mv (.x 11), none⟩,
      ⟨(.t 21), .mv (.x 3), none⟩,
      ⟨(.t 22), .conv .u64 (.t 21), none⟩,
      ⟨(.t 23), .bin .quo (.t 20) (.t 22), none⟩,
      ⟨(.t 24), .mv (.x 11), none⟩,
      ⟨(.t 25), .mv (.x 3), none⟩,
      ⟨(.t 26), .conv .u64 (.t 25), none⟩,
      ⟨(.t 27), .bin .rem (.t 24) (.t 26), none⟩,
      ⟨(.x 12), .mv (.t 23), none⟩,
      ⟨(.x 13), .mv (.t 27), none⟩])
    (.seq
     (.block 0
      (.loop
       (.seq
        (.seq
         (.reg [⟨(.t 28), .mv (.x 13), none⟩,
           ⟨(.t 29), .bin .lss (.t 28) (.c (.int .u64 4294967296)), none⟩,
           ⟨(.t 30), .mv (.t 29), none⟩,
           ⟨(.t 31), .mv (.x 12), (some ((.t 30), true))⟩,
           ⟨(.t 32), .bin .geq (.t 31) (.c (.int .u64 4294967296)), (some ((.t 30), true))⟩,
           ⟨(.t 33), .mv (.t 32), (some ((.t 30), true))⟩,
           ⟨(.t 34), .mv (.x 12), (some ((.t 33), false))⟩,
           ⟨(.t 35), .mv (.x 4), (some ((.t 33), false))⟩,
           ⟨(.t 36), .conv .u64 (.t 35), (some ((.t 33), false))⟩,
           ⟨(.t 37), .bin .mul (.t 34) (.t 36), (some ((.t 33), false))⟩,
           ⟨(.t 38), .mv (.x 13), (some ((.t 33), false))⟩,
           ⟨(.t 39), .bin .shl (.t 38) (.c (.int .u64 32)), (some ((.t 33), false))⟩,
           ⟨(.t 40), .mv (.x 2), (some ((.t 33), false))⟩,
           ⟨(.t 41), .conv .u64 (.t 40), (some ((.t 33), false))⟩,
           ⟨(.t 42), .bin .or (.t 39) (.t 41), (some ((.t 33), false))⟩,
           ⟨(.t 43), .bin .gtr (.t 37) (.t 42), (some ((.t 33), false))⟩,
           ⟨(.t 44), .pick (.t 33) (.c (.bool true)) (.t 43), (some ((.t 30), true))⟩,
           ⟨(.x 45), .pick (.t 30) (.t 44) (.c (.bool false)), none⟩])
         (.cond (.x 45)
          .skip
          (.exit 0)))
        (.block 1
         (.seq
          (.reg [⟨(.t 46), .mv (.x 12), none⟩,
            ⟨(.t 47), .bin .sub (.t 46) (.c (.int .u64 1)), none⟩,
            ⟨(.x 12), .mv (.t 47), none⟩])
          (.reg [⟨(.t 48), .mv (.x 13), none⟩,
            ⟨(.t 49), .mv (.x 3), none⟩,
            ⟨(.t 50), .conv .u64 (.t 49), none⟩,
            ⟨(.t 51), .bin .add (.t 48) (.t 50), none⟩,
            ⟨(.x 13), .mv (.t 51), none⟩]))))))
     (.seq
      (.reg [⟨(.t 52), .mv (.x 12), none⟩,
        ⟨(.x 10), .mv (.t 52), none⟩])
      .ret)))))
def resnGuess : List RV := [.t 10]
theorem nbnGuess : fnnGuess.nb = 0 := rfl
theorem isnGuess : IsFn fnnGuess 50 codenGuess resnGuess := ⟨⟨Tryd.f50, _, Tryd.func50, rfl, rfl, by kernel_rfl, by kernel_rfl, by kernel_rfl⟩⟩

/-- robuststats/natural.reduce -/
noncomputable def fnnReduce : FnD := ⟨Tryd.prog, [0, 1, 2, 6, 7, 8, 9, 10, 12, 13, 14, 19], [], 49, 0, false⟩
def codenReduce : DC :=
 (.seq
  (.reg [⟨(.x 6), .mv (.c (.bool false)), none⟩])
  (.seq
   (.reg [⟨(.x 7), .mv (.c (.int .u64 0)), none⟩,
     ⟨(.x 8), .mv (.c (.int .u32 0)), none⟩])
   (.seq
    (.seq
     (.reg [⟨(.t 11), .mv (.x 0), none⟩,
       ⟨(.x 12), .len 1 (.t 11), none⟩,
       ⟨(.x 13), .mv (.c (.int .i64 0)), none⟩])
     (.block 0
      (.loop
       (.seq
        (.reg [⟨(.x 14), .bin .lss (.x 13) (.x 12), none⟩])
        (.seq
         (.cond (.x 14)
          .skip
          (.exit 0))
         (.seq
          (.block 1
           (.seq
            (.reg [⟨(.t 15), .mv (.x 13), none⟩,
              ⟨(.x 9), .mv (.t 15), none⟩])
            (.seq
             (.reg [⟨(.x 10), .mv (.c (.int .u64 0)), none⟩])
             (.seq
              (.seq
               (.reg [⟨(.t 16), .mv (.x 9), none⟩,
                 ⟨(.t 17), .mv (.x 1), none⟩,
                 ⟨(.t 18), .len 1 (.t 17), none⟩,
                 ⟨(.x 19), .bin .lss (.t 16) (.t 18), none⟩])
               (.cond (.x 19)
                (.reg [⟨(.t 20), .mv (.x 1), none⟩,
                  ⟨(.t 21), .mv (.x 9), none⟩,
                  ⟨(.t 22), .iad 1 (.t 20) (.t 21), none⟩,
                  ⟨(.t 23), .ld (.t 22), none⟩,
                  ⟨(.t 24), .conv .u64 (.t 23), none⟩,
                  ⟨(.x 10), .mv (.t 24), none⟩])
                .skip))
              (.seq
               (.reg [⟨(.t 25), .mv (.x 7), none⟩,
                 ⟨(.t 26), .mv (.x 2), none⟩,
                 ⟨(.t 27), .mv (.x 10), none⟩,
                 ⟨(.t 28), .bin .mul (.t 26) (.t 27), none⟩,
                 ⟨(.t 29), .bin .add (.t 25) (.t 28), none⟩,
                 ⟨(.x 7), .mv (.t 29), none⟩])
               (.seq
                (.reg [⟨(.t 31), .mv (.x 0), none⟩,
                  ⟨(.t 32), .mv (.x 9), none⟩,
                  ⟨(.t 33), .mv (.x 0), none⟩,
                  ⟨(.t 34), .mv (.x 9), none⟩,
                  ⟨(.t 35), .iad 1 (.t 33) (.t 34), none⟩,
                  ⟨(.t 36), .ld (.t 35), none⟩,
                  ⟨(.t 37), .mv (.x 7), none⟩,
                  ⟨(.t 38), .conv .u32 (.t 37), none⟩,
                  ⟨(.t 39), .mv (.x 8), none⟩,
                  ⟨(.t 40), .call 61 [(.t 36), (.t 38), (.t 39)], none⟩,
                  ⟨(.t 30), .mv (.t 40), none⟩,
                  ⟨(.t 41), .ext (.t 30) 0, none⟩,
                  ⟨(.t 42), .ext (.t 30) 1, none⟩,
                  ⟨(.t 43), .iad 1 (.t 31) (.t 32), none⟩,
                  ⟨.no, .st (.t 43) (.t 41), none⟩,
                  ⟨(.x 8), .mv (.t 42), none⟩])
                (.reg [⟨(.t 44), .mv (.x 7), none⟩,
                  ⟨(.t 45), .bin .shr (.t 44) (.c (.int .u64 32)), none⟩,
                  ⟨(.x 7), .mv (.t 45), none⟩])))))))
          (.reg [⟨(.t 46), .bin .add (.x 13) (.c (.int .i64 1)), none⟩,
            ⟨(.x 13), .mv (.t 46), none⟩])))))))
    (.seq
     (.reg [⟨(.t 47), .mv (.x 8), none⟩,
       ⟨(.t 48), .bin .neq (.t 47) (.c (.int .u32 0)), none⟩,
       ⟨(.x 6), .mv (.t 48), none⟩])
     .ret))))
def resnReduce : List RV := [.t 6]
theorem nbnReduce : fnnReduce.nb = 0 := rfl
theorem isnReduce : IsFn fnnReduce 51 codenReduce resnReduce := ⟨⟨Tryd.f51, _, Tryd.func51, rfl, rfl, by kernel_rfl, by kernel_rfl, by kernel_rfl⟩⟩

/-- robuststats/natural.restore -/
noncomputable def fnnRestore : FnD := ⟨Tryd.prog, [0, 1, 4, 5, 6, 8, 9, 10, 15], [], 34, 0, false⟩
def codenRestore : DC :=
 (.seq
  (.reg [⟨(.x 4), .mv (.c (.int .u32 0)), none⟩])
  (.seq
   (.reg [⟨(.t 7), .mv (.x 0), none⟩,
     ⟨(.x 8), .len 1 (.t 7), none⟩,
     ⟨(.x 9), .mv (.c (.int .i64 0)), none⟩])
   (.block 0
    (.loop
     (.seq
      (.reg [⟨(.x 10), .bin .lss (.x 9) (.x 8), none⟩])
      (.seq
       (.cond (.x 10)
        .skip
        (.exit 0))
       (.seq
        (.block 1
         (.seq
          (.reg [⟨(.t 11), .mv (.x 9), none⟩,
            ⟨(.x 5), .mv (.t 11), none⟩])
          (.seq
           (.reg [⟨(.x 6), .mv (.c (.int .u32 0)), none⟩])
           (.seq
            (.seq
             (.reg [⟨(.t 12), .mv (.x 5), none⟩,
               ⟨(.t 13), .mv (.x 1), none⟩,
               ⟨(.t 14), .len 1 (.t 13), none⟩,
               ⟨(.x 15), .bin .lss (.t 12) (.t 14), none⟩])
             (.cond (.x 15)
              (.reg [⟨(.t 16), .mv (.x 1), none⟩,
                ⟨(.t 17), .mv (.x 5), none⟩,
                ⟨(.t 18), .iad 1 (.t 16) (.t 17), none⟩,
                ⟨(.t 19), .ld (.t 18), none⟩,
                ⟨(.x 6), .mv (.t 19), none⟩])
              .skip))
            (.reg [⟨(.t 21), .mv (.x 0), none⟩,
              ⟨(.t 22), .mv (.x 5), none⟩,
              ⟨(.t 23), .mv (.x 0), none⟩,
              ⟨(.t 24), .mv (.x 5), none⟩,
              ⟨(.t 25), .iad 1 (.t 23) (.t 24), none⟩,
              ⟨(.t 26), .ld (.t 25), none⟩,
              ⟨(.t 27), .mv (.x 6), none⟩,
              ⟨(.t 28), .mv (.x 4), none⟩,
              ⟨(.t 29), .call 35 [(.t 26), (.t 27), (.t 28)], none⟩,
              ⟨(.t 20), .mv (.t 29), none⟩,
              ⟨(.t 30), .ext (.t 20) 0, none⟩,
              ⟨(.t 31), .ext (.t 20) 1, none⟩,
              ⟨(.t 32), .iad 1 (.t 21) (.t 22), none⟩,
              ⟨.no, .st (.t 32) (.t 30), none⟩,
              ⟨(.x 4), .mv (.t 31), none⟩])))))
        (.reg [⟨(.t 33), .bin .add (.x 9) (.c (.int .i64 1)), none⟩,
          ⟨(.x 9), .mv (.t 33), none⟩]))))))))
def resnRestore : List RV := []
theorem nbnRestore : fnnRestore.nb = 0 := rfl
theorem isnRestore : IsFn fnnRestore 52 codenRestore resnRestore := ⟨⟨Tryd.f52, _, Tryd.func52, rfl, rfl, by kernel_rfl, by kernel_rfl, by kernel_rfl⟩⟩

/-- math/bits.Len32 -/
noncomputable def fnLen32 : FnD := ⟨Tryd.prog, [0, 2, 4, 8], [], 19, 0, false⟩
def codeLen32 : DC :=
 (.seq
  (.reg [⟨(.x 2), .mv (.c (.int .i64 0)), none⟩])
  (.seq
   (.seq
    (.reg [⟨(.t 3), .mv (.x 0), none⟩,
      ⟨(.x 4), .bin .geq (.t 3) (.c (.int .u32 65536)), none⟩])
    (.cond (.x 4)
     (.seq
      (.reg [⟨(.t 5), .mv (.x 0), none⟩,
        ⟨(.t 6), .bin .shr (.t 5) (.c (.int .u64 16)), none⟩,
        ⟨(.x 0), .mv (.t 6), none⟩])
      (.reg [⟨(.x 2), .mv (.c (.int .i64 16)), none⟩]))
     .skip))
   (.seq
    (.seq
     (.reg [⟨(.t 7), .mv (.x 0), none⟩,
       ⟨(.x 8), .bin .geq (.t 7) (.c (.int .u32 256)), none⟩])
     (.cond (.x 8)
      (.seq
       (.reg [⟨(.t 9), .mv (.x 0), none⟩,
         ⟨(.t 10), .bin .shr (.t 9) (.c (.int .u64 8)), none⟩,
         ⟨(.x 0), .mv (.t 10), none⟩])
       (.reg [⟨(.t 11), .mv (.x 2), none⟩,
         ⟨(.t 12), .bin .add (.t 11) (.c (.int .i64 8)), none⟩,
         ⟨(.x 2), .mv (.t 12), none⟩]))
      .skip))
    (.seq
     (.reg [⟨(.t 13), .mv (.x 2), none⟩,
       ⟨(.t 14), .mv (.x 0), none⟩,
       ⟨(.t 15), .conv .u8 (.t 14), none⟩,
       ⟨(.t 16), .idx (.c (.str [0, 1, 2, 2, 3, 3, 3, 3, 4, 4, 4, 4, 4, 4, 4, 4, 5, 5, 5, 5, 5, 5, 5, 5, 5, 5, 5, 5, 5, 5, 5, 5, 6, 6, 6, 6, 6, 6, 6, 6, 6, 6, 6, 6, 6, 6, 6, 6, 6, 6, 6, 6, 6, 6, 6, 6, 6, 6, 6, 6, 6, 6, 6, 6, 7, 7, 7, 7, 7, 7, 7, 7, 7, 7, 7, 7, 7, 7, 7, 7, 7, 7, 7, 7, 7, 7, 7, 7, 7, 7, 7, 7, 7, 7, 7, 7, 7, 7, 7, 7, 7, 7, 7, 7, 7, 7, 7, 7, 7, 7, 7, 7, 7, 7, 7, 7, 7, 7, 7, 7, 7, 7, 7, 7, 7, 7, 7, 7, 8, 8, 8, 8, 8, 8, 8, 8, 8, 8, 8, 8, 8, 8, 8, 8, 8, 8, 8, 8, 8, 8, 8, 8, 8, 8, 8, 8, 8, 8, 8, 8, 8, 8, 8, 8, 8, 8, 8, 8, 8, 8, 8, 8, 8, 8, 8, 8, 8, 8, 8, 8, 8, 8, 8, 8, 8, 8, 8, 8, 8, 8, 8, 8, 8, 8, 8, 8, 8, 8, 8, 8, 8, 8, 8, 8, 8, 8, 8, 8, 8, 8, 8, 8, 8, 8, 8, 8, 8, 8, 8, 8, 8, 8, 8, 8, 8, 8, 8, 8, 8, 8, 8, 8, 8, 8, 8, 8, 8, 8, 8, 8, 8, 8, 8, 8, 8, 8, 8, 8, 8, 8, 8, 8, 8, 8, 8, 8])) (.t 15), none⟩,
       ⟨(.t 17), .conv .i64 (.t 16), none⟩,
       ⟨(.t 18), .bin .add (.t 13) (.t 17), none⟩,
       ⟨(.x 2), .mv (.t 18), none⟩])
     .ret))))
def resLen32 : List RV := [.t 2]
theorem nbLen32 : fnLen32.nb = 0 := rfl
theorem isLen32 : IsFn fnLen32 53 codeLen32 resLen32 := ⟨⟨Tryd.f53, _, Tryd.func53, rfl, rfl, by kernel_rfl, by kernel_rfl, by kernel_rfl⟩⟩

/-- robuststats/robuststatsref01.compare -/
noncomputable def fnrcmp : FnD := ⟨Tryd.prog, [0, 1, 4, 5, 10, 15, 20, 31, 40], [], 41, 0, false⟩
def codercmp : DC :=
 (.seq
  (.reg [⟨(.x 4), .mv (.c (.int .i64 0)), none⟩])
  (.seq
   (.seq
    (.reg [⟨(.t 6), .mv (.x 0), none⟩,
      ⟨(.t 7), .len 1 (.t 6), none⟩,
      ⟨(.t 8), .mv (.x 1), none⟩,
      ⟨(.t 9), .len 1 (.t 8), none⟩,
      ⟨(.x 10), .bin .neq (.t 7) (.t 9), none⟩])
    (.cond (.x 10)
     (.seq
      (.seq
       (.reg [⟨(.t 11), .mv (.x 0), none⟩,
         ⟨(.t 12), .len 1 (.t 11), none⟩,
         ⟨(.t 13), .mv (.x 1), none⟩,
         ⟨(.t 14), .len 1 (.t 13), none⟩,
         ⟨(.x 15), .bin .lss (.t 12) (.t 14), none⟩])
       (.cond (.x 15)
        (.seq
         (.reg [⟨(.x 4), .mv (.c (.int .i64 (-1))), none⟩])
         .ret)
        .skip))
      (.seq
       (.reg [⟨(.x 4), .mv (.c (.int .i64 1)), none⟩])
       .ret))
     .skip))
   (.seq
    (.seq
     (.reg [⟨(.t 16), .mv (.x 0), none⟩,
       ⟨(.t 17), .len 1 (.t 16), none⟩,
       ⟨(.t 18), .bin .sub (.t 17) (.c (.int .i64 1)), none⟩,
       ⟨(.x 5), .mv (.t 18), none⟩])
     (.block 0
      (.loop
       (.seq
        (.seq
         (.reg [⟨(.t 19), .mv (.x 5), none⟩,
           ⟨(.x 20), .bin .geq (.t 19) (.c (.int .i64 0)), none⟩])
         (.cond (.x 20)
          .skip
          (.exit 0)))
        (.seq
         (.block 1
          (.seq
           (.seq
            (.regd [⟨(.t 23), .mv (.x 0), none⟩,
              ⟨(.t 24), .mv (.x 5), none⟩,
              ⟨(.t 25), .iad 1 (.t 23) (.t 24), none⟩,
              ⟨(.t 26), .ld (.t 25), none⟩,
              ⟨(.t 27), .mv (.x 1), none⟩,
              ⟨(.t 28), .mv (.x 5), none⟩,
              ⟨(.t 29), .iad 1 (.t 27) (.t 28), none⟩,
              ⟨(.t 30), .ld (.t 29), none⟩,
              ⟨(.x 31), .bin .lss (.t 26) (.t 30), none⟩])
            (.cond (.x 31)
             (.seq
              (.reg [⟨(.x 4), .mv (.c (.int .i64 (-1))), none⟩])
              .ret)
             .skip))
           (.seq
            (.regd [⟨(.t 32), .mv (.x 0), none⟩,
              ⟨(.t 33), .mv (.x 5), none⟩,
              ⟨(.t 34), .iad 1 (.t 32) (.t 33), none⟩,
              ⟨(.t 35), .ld (.t 34), none⟩,
              ⟨(.t 36), .mv (.x 1), none⟩,
              ⟨(.t 37), .mv (.x 5), none⟩,
              ⟨(.t 38), .iad 1 (.t 36) (.t 37), none⟩,
              ⟨(.t 39), .ld (.t 38), none⟩,
              ⟨(.x 40), .bin .gtr (.t 35) (.t 39), none⟩])
            (.cond (.x 40)
             (.seq
              (.reg [⟨(.x 4), .mv (.c (.int .i64 1)), none⟩])
              .ret)
             .skip))))
         (.reg [⟨(.t 21), .mv (.x 5), none⟩,
           ⟨(.t 22), .bin .sub (.t 21) (.c (.int .i64 1)), none⟩,
           ⟨(.x 5), .mv (.t 22), none⟩]))))))
    (.seq
     (.reg [⟨(.x 4), .mv (.c (.int .i64 0)), none⟩])
     .ret))))
def resrcmp : List RV := [.t 4]
theorem nbrcmp : fnrcmp.nb = 0 := rfl
theorem isrcmp : IsFn fnrcmp 60 codercmp resrcmp := ⟨⟨Tryd.f60, _, Tryd.func60, rfl, rfl, by kernel_rfl, by kernel_rfl, by kernel_rfl⟩⟩

/-- math/bits.Sub32 -/
noncomputable def fnSub32 : FnD := ⟨Tryd.prog, [0, 1, 2, 6, 7], [], 25, 0, false⟩
def codeSub32 : DC :=
 (.seq
  (.reg [⟨(.x 6), .mv (.c (.int .u32 0)), none⟩,
    ⟨(.x 7), .mv (.c (.int .u32 0)), none⟩])
  (.seq
   (.reg [⟨(.t 8), .mv (.x 0), none⟩,
     ⟨(.t 9), .mv (.x 1), none⟩,
     ⟨(.t 10), .bin .sub (.t 8) (.t 9), none⟩,
     ⟨(.t 11), .mv (.x 2), none⟩,
     ⟨(.t 12), .bin .sub (.t 10) (.t 11), none⟩,
     ⟨(.x 6), .mv (.t 12), none⟩])
   (.seq
    (.reg [⟨(.t 13), .mv (.x 0), none⟩,
      ⟨(.t 14), .un .xor (.t 13), none⟩,
      ⟨(.t 15), .mv (.x 1), none⟩,
      ⟨(.t 16), .bin .and (.t 14) (.t 15), none⟩,
      ⟨(.t 17), .mv (.x 0), none⟩,
      ⟨(.t 18), .mv (.x 1), none⟩,
      ⟨(.t 19), .bin .xor (.t 17) (.t 18), none⟩,
      ⟨(.t 20), .un .xor (.t 19), none⟩,
      ⟨(.t 21), .mv (.x 6), none⟩,
      ⟨(.t 22), .bin .and (.t 20) (.t 21), none⟩,
      ⟨(.t 23), .bin .or (.t 16) (.t 22), none⟩,
      ⟨(.t 24), .bin .shr (.t 23) (.c (.int .u64 31)), none⟩,
      ⟨(.x 7), .mv (.t 24), none⟩])
    .ret)))
def resSub32 : List RV := [.t 6, .t 7]
theorem nbSub32 : fnSub32.nb = 0 := rfl
theorem isSub32 : IsFn fnSub32 61 codeSub32 resSub32 := ⟨⟨Tryd.f61, _, Tryd.func61, rfl, rfl, by kernel_rfl, by kernel_rfl, by kernel_rfl⟩⟩

end Go.Proofs.YtecilkmigjbfoaaDoor
