/- Lemmas of the walk; no conditions beyond those that each states. -/
import Derived.Test.YtecilkmigjbfoaaProg
import Derived.KernelRfl
import Derived.Test.YtecilkmigjbfoaaD2
set_option linter.unusedSimpArgs false
set_option linter.unusedVariables false
set_option linter.unnecessarySimpa false
namespace Go.Proofs.Ytecilkmigjbfoaa
open Go Go.Dat Go.Proofs

/-- robuststats/natural.Valid -/
noncomputable def fnnValid : FnD := ⟨Try.prog, [0, 2], [], 15, 0, false⟩
def codenValid : DC :=
 (.seq
  (.reg [⟨(.x 2), .mv (.c (.bool false)), none⟩])
  (.seq
   (.reg [⟨(.t 3), .mv (.x 0), none⟩,
     ⟨(.t 4), .len 1 (.t 3), none⟩,
     ⟨(.t 5), .bin .eql (.t 4) (.c (.int .i64 0)), none⟩,
     ⟨(.t 6), .mv (.t 5), none⟩,
     ⟨(.t 7), .mv (.x 0), (some ((.t 6), false))⟩,
     ⟨(.t 8), .mv (.x 0), (some ((.t 6), false))⟩,
     ⟨(.t 9), .len 1 (.t 8), (some ((.t 6), false))⟩,
     ⟨(.t 10), .bin .sub (.t 9) (.c (.int .i64 1)), (some ((.t 6), false))⟩,
     ⟨(.t 11), .iad 1 (.t 7) (.t 10), (some ((.t 6), false))⟩,
     ⟨(.t 12), .ld (.t 11), (some ((.t 6), false))⟩,
     ⟨(.t 13), .bin .neq (.t 12) (.c (.int .u32 0)), (some ((.t 6), false))⟩,
     ⟨(.t 14), .pick (.t 6) (.c (.bool true)) (.t 13), none⟩,
     ⟨(.x 2), .mv (.t 14), none⟩])
   .ret))
def resnValid : List RV := [.t 2]
theorem nbnValid : fnnValid.nb = 0 := rfl
theorem isnValid : IsFn fnnValid 16 codenValid resnValid := ⟨⟨Try.f16, _, Try.func16, rfl, rfl, by kernel_rfl, by kernel_rfl, by kernel_rfl⟩⟩

/-- robuststats/natural.trimmed -/
noncomputable def fnnTrim : FnD := ⟨Try.prog, [0, 2, 3, 15], [], 21, 0, false⟩
def codenTrim : DC :=
 (.seq
  (.reg [⟨(.x 2), .mv (.c .nils), none⟩])
  (.seq
   (.reg [⟨(.t 4), .mv (.x 0), none⟩,
     ⟨(.t 5), .len 1 (.t 4), none⟩,
     ⟨(.x 3), .mv (.t 5), none⟩])
   (.seq
    (.block 0
     (.loop
      (.seq
       (.seq
        (.reg [⟨(.t 6), .mv (.x 3), none⟩,
          ⟨(.t 7), .bin .gtr (.t 6) (.c (.int .i64 0)), none⟩,
          ⟨(.t 8), .mv (.t 7), none⟩,
          ⟨(.t 9), .mv (.x 0), (some ((.t 8), true))⟩,
          ⟨(.t 10), .mv (.x 3), (some ((.t 8), true))⟩,
          ⟨(.t 11), .bin .sub (.t 10) (.c (.int .i64 1)), (some ((.t 8), true))⟩,
          ⟨(.t 12), .iad 1 (.t 9) (.t 11), (some ((.t 8), true))⟩,
          ⟨(.t 13), .ld (.t 12), (some ((.t 8), true))⟩,
          ⟨(.t 14), .bin .eql (.t 13) (.c (.int .u32 0)), (some ((.t 8), true))⟩,
          ⟨(.x 15), .pick (.t 8) (.t 14) (.c (.bool false)), none⟩])
        (.cond (.x 15)
         .skip
         (.exit 0)))
       (.block 1
        (.reg [⟨(.t 16), .mv (.x 3), none⟩,
          ⟨(.t 17), .bin .sub (.t 16) (.c (.int .i64 1)), none⟩,
          ⟨(.x 3), .mv (.t 17), none⟩])))))
    (.seq
     (.reg [⟨(.t 18), .mv (.x 0), none⟩,
       ⟨(.t 19), .mv (.x 3), none⟩,
       ⟨(.t 20), .slc 1 (.t 18) none (some (.t 19)), none⟩,
       ⟨(.x 2), .mv (.t 20), none⟩])
     .ret))))
def resnTrim : List RV := [.t 2]
theorem nbnTrim : fnnTrim.nb = 0 := rfl
theorem isnTrim : IsFn fnnTrim 40 codenTrim resnTrim := ⟨⟨Try.f40, _, Try.func40, rfl, rfl, by kernel_rfl, by kernel_rfl, by kernel_rfl⟩⟩

/-- math/bits.Add32 -/
noncomputable def fnAdd32 : FnD := ⟨Try.prog, [0, 1, 2, 6, 7, 8], [], 22, 0, false⟩
def codeAdd32 : DC :=
 (.seq
  (.reg [⟨(.x 6), .mv (.c (.int .u32 0)), none⟩,
    ⟨(.x 7), .mv (.c (.int .u32 0)), none⟩])
  (.seq
   (.reg [⟨(.t 9), .mv (.x 0), none⟩,
     ⟨(.t 10), .conv .u64 (.t 9), none⟩,
     ⟨(.t 11), .mv (.x 1), none⟩,
     ⟨(.t 12), .conv .u64 (.t 11), none⟩,
     ⟨(.t 13), .bin .add (.t 10) (.t 12), none⟩,
     ⟨(.t 14), .mv (.x 2), none⟩,
     ⟨(.t 15), .conv .u64 (.t 14), none⟩,
     ⟨(.t 16), .bin .add (.t 13) (.t 15), none⟩,
     ⟨(.x 8), .mv (.t 16), none⟩])
   (.seq
    (.reg [⟨(.t 17), .mv (.x 8), none⟩,
      ⟨(.t 18), .conv .u32 (.t 17), none⟩,
      ⟨(.x 6), .mv (.t 18), none⟩])
    (.seq
     (.reg [⟨(.t 19), .mv (.x 8), none⟩,
       ⟨(.t 20), .bin .shr (.t 19) (.c (.int .u64 32)), none⟩,
       ⟨(.t 21), .conv .u32 (.t 20), none⟩,
       ⟨(.x 7), .mv (.t 21), none⟩])
     .ret))))
def resAdd32 : List RV := [.t 6, .t 7]
theorem nbAdd32 : fnAdd32.nb = 0 := rfl
theorem isAdd32 : IsFn fnAdd32 43 codeAdd32 resAdd32 := ⟨⟨Try.f43, _, Try.func43, rfl, rfl, by kernel_rfl, by kernel_rfl, by kernel_rfl⟩⟩

/-- robuststats/natural.value -/
noncomputable def fnnValue : FnD := ⟨Try.prog, [0, 2, 4], [], 6, 0, false⟩
def codenValue : DC :=
 (.seq
  (.reg [⟨(.x 2), .mv (.c .nils), none⟩])
  (.seq
   (.seq
    (.reg [⟨(.t 3), .mv (.x 0), none⟩,
      ⟨(.x 4), .call 16 [(.t 3)], none⟩])
    (.cond (.x 4)
     (.seq
      (.reg [⟨(.t 5), .mv (.x 0), none⟩,
        ⟨(.x 2), .mv (.t 5), none⟩])
      .ret)
     .skip))
   (.seq
    (.reg [⟨(.x 2), .mv (.c .nils), none⟩])
    .ret)))
def resnValue : List RV := [.t 2]
theorem nbnValue : fnnValue.nb = 0 := rfl
theorem isnValue : IsFn fnnValue 38 codenValue resnValue := ⟨⟨Try.f38, _, Try.func38, rfl, rfl, by kernel_rfl, by kernel_rfl, by kernel_rfl⟩⟩

/-- robuststats/natural.Add -/
noncomputable def fnnAdd : FnD := ⟨Try.prog, [0, 1, 4, 5, 6, 7, 8, 9, 18, 25, 26, 27, 28, 35], [], 58, 0, false⟩
def codenAdd : DC :=
 (.seq
  (.reg [⟨(.x 4), .mv (.c .nils), none⟩])
  (.seq
   (.reg [⟨(.t 10), .mv (.x 0), none⟩,
     ⟨(.t 11), .call 38 [(.t 10)], none⟩,
     ⟨(.t 12), .mv (.x 1), none⟩,
     ⟨(.t 13), .call 38 [(.t 12)], none⟩,
     ⟨(.x 0), .mv (.t 11), none⟩,
     ⟨(.x 1), .mv (.t 13), none⟩])
   (.seq
    (.seq
     (.reg [⟨(.t 14), .mv (.x 0), none⟩,
       ⟨(.t 15), .len 1 (.t 14), none⟩,
       ⟨(.t 16), .mv (.x 1), none⟩,
       ⟨(.t 17), .len 1 (.t 16), none⟩,
       ⟨(.x 18), .bin .lss (.t 15) (.t 17), none⟩])
     (.cond (.x 18)
      (.reg [⟨(.t 19), .mv (.x 1), none⟩,
        ⟨(.t 20), .mv (.x 0), none⟩,
        ⟨(.x 0), .mv (.t 19), none⟩,
        ⟨(.x 1), .mv (.t 20), none⟩])
      .skip))
    (.seq
     (.reg [⟨(.t 21), .mv (.x 0), none⟩,
       ⟨(.t 22), .len 1 (.t 21), none⟩,
       ⟨(.t 23), .bin .add (.t 22) (.c (.int .i64 1)), none⟩,
       ⟨(.t 24), .mks 1 4 [(.int .u32 0)] (.t 23) (.t 23), none⟩,
       ⟨(.x 5), .mv (.t 24), none⟩])
     (.seq
      (.reg [⟨(.x 6), .mv (.c (.int .u32 0)), none⟩])
      (.seq
       (.seq
        (.reg [⟨(.x 25), .mv (.x 0), none⟩,
          ⟨(.x 26), .len 1 (.x 25), none⟩,
          ⟨(.x 27), .mv (.c (.int .i64 0)), none⟩])
        (.block 0
         (.loop
          (.seq
           (.reg [⟨(.x 28), .bin .lss (.x 27) (.x 26), none⟩])
           (.seq
            (.cond (.x 28)
             .skip
             (.exit 0))
            (.seq
             (.block 1
              (.seq
               (.reg [⟨(.t 29), .mv (.x 27), none⟩,
                 ⟨(.t 30), .iad 1 (.x 25) (.x 27), none⟩,
                 ⟨(.t 31), .ld (.t 30), none⟩,
                 ⟨(.x 7), .mv (.t 29), none⟩,
                 ⟨(.x 8), .mv (.t 31), none⟩])
               (.seq
                (.reg [⟨(.x 9), .mv (.c (.int .u32 0)), none⟩])
                (.seq
                 (.seq
                  (.reg [⟨(.t 32), .mv (.x 7), none⟩,
                    ⟨(.t 33), .mv (.x 1), none⟩,
                    ⟨(.t 34), .len 1 (.t 33), none⟩,
                    ⟨(.x 35), .bin .lss (.t 32) (.t 34), none⟩])
                  (.cond (.x 35)
                   (.reg [⟨(.t 36), .mv (.x 1), none⟩,
                     ⟨(.t 37), .mv (.x 7), none⟩,
                     ⟨(.t 38), .iad 1 (.t 36) (.t 37), none⟩,
                     ⟨(.t 39), .ld (.t 38), none⟩,
                     ⟨(.x 9), .mv (.t 39), none⟩])
                   .skip))
                 (.reg [⟨(.t 41), .mv (.x 5), none⟩,
                   ⟨(.t 42), .mv (.x 7), none⟩,
                   ⟨(.t 43), .mv (.x 8), none⟩,
                   ⟨(.t 44), .mv (.x 9), none⟩,
                   ⟨(.t 45), .mv (.x 6), none⟩,
                   ⟨(.t 46), .call 43 [(.t 43), (.t 44), (.t 45)], none⟩,
                   ⟨(.t 40), .mv (.t 46), none⟩,
                   ⟨(.t 47), .ext (.t 40) 0, none⟩,
                   ⟨(.t 48), .ext (.t 40) 1, none⟩,
                   ⟨(.t 49), .iad 1 (.t 41) (.t 42), none⟩,
                   ⟨.no, .st (.t 49) (.t 47), none⟩,
                   ⟨(.x 6), .mv (.t 48), none⟩])))))
             (.reg [⟨(.t 50), .bin .add (.x 27) (.c (.int .i64 1)), none⟩,
               ⟨(.x 27), .mv (.t 50), none⟩])))))))
       (.seq
        (.reg [⟨(.t 51), .mv (.x 5), none⟩,
          ⟨(.t 52), .mv (.x 0), none⟩,
          ⟨(.t 53), .len 1 (.t 52), none⟩,
          ⟨(.t 54), .mv (.x 6), none⟩,
          ⟨(.t 55), .iad 1 (.t 51) (.t 53), none⟩,
          ⟨.no, .st (.t 55) (.t 54), none⟩])
        (.seq
         (.reg [⟨(.t 56), .mv (.x 5), none⟩,
           ⟨(.t 57), .call 40 [(.t 56)], none⟩,
           ⟨(.x 4), .mv (.t 57), none⟩])
         .ret))))))))
def resnAdd : List RV := [.t 4]
theorem nbnAdd : fnnAdd.nb = 0 := rfl
theorem isnAdd : IsFn fnnAdd 24 codenAdd resnAdd := ⟨⟨Try.f24, _, Try.func24, rfl, rfl, by kernel_rfl, by kernel_rfl, by kernel_rfl⟩⟩

/-- robuststats/natural.Compare -/
noncomputable def fnnCmp : FnD := ⟨Try.prog, [0, 1, 4, 5, 14, 19, 24, 27, 37], [], 47, 0, false⟩
def codenCmp : DC :=
 (.seq
  (.reg [⟨(.x 4), .mv (.c (.int .i64 0)), none⟩])
  (.seq
   (.reg [⟨(.t 6), .mv (.x 0), none⟩,
     ⟨(.t 7), .call 38 [(.t 6)], none⟩,
     ⟨(.t 8), .mv (.x 1), none⟩,
     ⟨(.t 9), .call 38 [(.t 8)], none⟩,
     ⟨(.x 0), .mv (.t 7), none⟩,
     ⟨(.x 1), .mv (.t 9), none⟩])
   (.seq
    (.seq
     (.reg [⟨(.t 10), .mv (.x 0), none⟩,
       ⟨(.t 11), .len 1 (.t 10), none⟩,
       ⟨(.t 12), .mv (.x 1), none⟩,
       ⟨(.t 13), .len 1 (.t 12), none⟩,
       ⟨(.x 14), .bin .neq (.t 11) (.t 13), none⟩])
     (.cond (.x 14)
      (.seq
       (.seq
        (.reg [⟨(.t 15), .mv (.x 0), none⟩,
          ⟨(.t 16), .len 1 (.t 15), none⟩,
          ⟨(.t 17), .mv (.x 1), none⟩,
          ⟨(.t 18), .len 1 (.t 17), none⟩,
          ⟨(.x 19), .bin .lss (.t 16) (.t 18), none⟩])
        (.cond (.x 19)
         (.seq
          (.reg [⟨(.x 4), .mv (.c (.int .i64 (-1))), none⟩])
          .ret)
         .skip))
       (.seq
        (.reg [⟨(.x 4), .mv (.c (.int .i64 1)), none⟩])
        .ret))
      .skip))
    (.seq
     (.seq
      (.reg [⟨(.t 20), .mv (.x 0), none⟩,
        ⟨(.t 21), .len 1 (.t 20), none⟩,
        ⟨(.t 22), .bin .sub (.t 21) (.c (.int .i64 1)), none⟩,
        ⟨(.x 5), .mv (.t 22), none⟩])
      (.block 0
       (.loop
        (.seq
         (.seq
          (.reg [⟨(.t 23), .mv (.x 5), none⟩,
            ⟨(.x 24), .bin .geq (.t 23) (.c (.int .i64 0)), none⟩])
          (.cond (.x 24)
           .skip
           (.exit 0)))
         (.seq
          (.block 1
           (.block 2
            (.seq
             (.regd [⟨(.t 28), .mv (.x 0), none⟩,
               ⟨(.t 29), .mv (.x 5), none⟩,
               ⟨(.t 30), .iad 1 (.t 28) (.t 29), none⟩,
               ⟨(.t 31), .ld (.t 30), none⟩,
               ⟨(.t 32), .mv (.x 1), none⟩,
               ⟨(.t 33), .mv (.x 5), none⟩,
               ⟨(.t 34), .iad 1 (.t 32) (.t 33), none⟩,
               ⟨(.t 35), .ld (.t 34), none⟩,
               ⟨(.t 36), .bin .lss (.t 31) (.t 35), none⟩,
               ⟨(.x 27), .mv (.t 36), none⟩])
             (.cond (.x 27)
              (.seq
               (.reg [⟨(.x 4), .mv (.c (.int .i64 (-1))), none⟩])
               .ret)
              (.seq
               (.regd [⟨(.t 38), .mv (.x 0), none⟩,
                 ⟨(.t 39), .mv (.x 5), none⟩,
                 ⟨(.t 40), .iad 1 (.t 38) (.t 39), none⟩,
                 ⟨(.t 41), .ld (.t 40), none⟩,
                 ⟨(.t 42), .mv (.x 1), none⟩,
                 ⟨(.t 43), .mv (.x 5), none⟩,
                 ⟨(.t 44), .iad 1 (.t 42) (.t 43), none⟩,
                 ⟨(.t 45), .ld (.t 44), none⟩,
                 ⟨(.t 46), .bin .gtr (.t 41) (.t 45), none⟩,
                 ⟨(.x 37), .mv (.t 46), none⟩])
               (.cond (.x 37)
                (.seq
                 (.reg [⟨(.x 4), .mv (.c (.int .i64 1)), none⟩])
                 .ret)
                .skip))))))
          (.reg [⟨(.t 25), .mv (.x 5), none⟩,
            ⟨(.t 26), .bin .sub (.t 25) (.c (.int .i64 1)), none⟩,
            ⟨(.x 5), .mv (.t 26), none⟩]))))))
     (.seq
      (.reg [⟨(.x 4), .mv (.c (.int .i64 0)), none⟩])
      .ret)))))
def resnCmp : List RV := [.t 4]
theorem nbnCmp : fnnCmp.nb = 0 := rfl
theorem isnCmp : IsFn fnnCmp 21 codenCmp resnCmp := ⟨⟨Try.f21, _, Try.func21, rfl, rfl, by kernel_rfl, by kernel_rfl, by kernel_rfl⟩⟩

/-- robuststats/natural.Uint -/
noncomputable def fnnUint : FnD := ⟨Try.prog, [0, 2, 3, 4, 5, 10, 11, 12, 13, 14], [], 27, 0, false⟩
def codenUint : DC :=
 (.seq
  (.reg [⟨(.x 2), .mv (.c (.int .u64 0)), none⟩,
    ⟨(.x 3), .mv (.c (.bool false)), none⟩])
  (.seq
   (.reg [⟨(.t 6), .mv (.x 0), none⟩,
     ⟨(.t 7), .call 38 [(.t 6)], none⟩,
     ⟨(.x 0), .mv (.t 7), none⟩])
   (.seq
    (.seq
     (.reg [⟨(.t 8), .mv (.x 0), none⟩,
       ⟨(.t 9), .len 1 (.t 8), none⟩,
       ⟨(.x 10), .bin .gtr (.t 9) (.c (.int .i64 2)), none⟩])
     (.cond (.x 10)
      (.seq
       (.reg [⟨(.x 2), .mv (.c (.int .u64 0)), none⟩,
         ⟨(.x 3), .mv (.c (.bool false)), none⟩])
       .ret)
      .skip))
    (.seq
     (.seq
      (.reg [⟨(.x 11), .mv (.x 0), none⟩,
        ⟨(.x 12), .len 1 (.x 11), none⟩,
        ⟨(.x 13), .mv (.c (.int .i64 0)), none⟩])
      (.block 0
       (.loop
        (.seq
         (.reg [⟨(.x 14), .bin .lss (.x 13) (.x 12), none⟩])
         (.seq
          (.cond (.x 14)
           .skip
           (.exit 0))
          (.seq
           (.block 1
            (.seq
             (.reg [⟨(.t 15), .mv (.x 13), none⟩,
               ⟨(.t 16), .iad 1 (.x 11) (.x 13), none⟩,
               ⟨(.t 17), .ld (.t 16), none⟩,
               ⟨(.x 4), .mv (.t 15), none⟩,
               ⟨(.x 5), .mv (.t 17), none⟩])
             (.reg [⟨(.t 18), .mv (.x 2), none⟩,
               ⟨(.t 19), .mv (.x 5), none⟩,
               ⟨(.t 20), .conv .u64 (.t 19), none⟩,
               ⟨(.t 21), .mv (.x 4), none⟩,
               ⟨(.t 22), .bin .mul (.c (.int .i64 32)) (.t 21), none⟩,
               ⟨(.t 23), .bin .shl (.t 20) (.t 22), none⟩,
               ⟨(.t 24), .bin .or (.t 18) (.t 23), none⟩,
               ⟨(.x 2), .mv (.t 24), none⟩])))
           (.reg [⟨(.t 25), .bin .add (.x 13) (.c (.int .i64 1)), none⟩,
             ⟨(.x 13), .mv (.t 25), none⟩])))))))
     (.seq
      (.reg [⟨(.t 26), .mv (.x 2), none⟩,
        ⟨(.x 2), .mv (.t 26), none⟩,
        ⟨(.x 3), .mv (.c (.bool true)), none⟩])
      .ret)))))
def resnUint : List RV := [.t 2, .t 3]
theorem nbnUint : fnnUint.nb = 0 := rfl
theorem isnUint : IsFn fnnUint 14 codenUint resnUint := ⟨⟨Try.f14, _, Try.func14, rfl, rfl, by kernel_rfl, by kernel_rfl, by kernel_rfl⟩⟩

/-- robuststats/natural.FromUint -/
noncomputable def fnnFromUint : FnD := ⟨Try.prog, [0, 2], [], 10, 0, false⟩
def codenFromUint : DC :=
 (.seq
  (.reg [⟨(.x 2), .mv (.c .nils), none⟩])
  (.seq
   (.reg [⟨(.t 3), .mv (.x 0), none⟩,
     ⟨(.t 4), .conv .u32 (.t 3), none⟩,
     ⟨(.t 5), .mv (.x 0), none⟩,
     ⟨(.t 6), .bin .shr (.t 5) (.c (.int .u64 32)), none⟩,
     ⟨(.t 7), .conv .u32 (.t 6), none⟩,
     ⟨(.t 8), .bsl 1 [(.int .u32 0), (.int .u32 0)] [(0, 1, (.t 4)), (1, 1, (.t 7))], none⟩,
     ⟨(.t 9), .call 40 [(.t 8)], none⟩,
     ⟨(.x 2), .mv (.t 9), none⟩])
   .ret))
def resnFromUint : List RV := [.t 2]
theorem nbnFromUint : fnnFromUint.nb = 0 := rfl
theorem isnFromUint : IsFn fnnFromUint 19 codenFromUint resnFromUint := ⟨⟨Try.f19, _, Try.func19, rfl, rfl, by kernel_rfl, by kernel_rfl, by kernel_rfl⟩⟩

/-- robuststats/natural.Sub -/
noncomputable def fnnSub : FnD := ⟨Try.prog, [0, 1, 4, 5, 6, 7, 8, 9, 10, 18, 22, 23, 24, 25, 32], [], 50, 0, false⟩
def codenSub : DC :=
 (.seq
  (.reg [⟨(.x 4), .mv (.c .nils), none⟩,
    ⟨(.x 5), .mv (.c (.bool false)), none⟩])
  (.seq
   (.reg [⟨(.t 11), .mv (.x 0), none⟩,
     ⟨(.t 12), .call 38 [(.t 11)], none⟩,
     ⟨(.t 13), .mv (.x 1), none⟩,
     ⟨(.t 14), .call 38 [(.t 13)], none⟩,
     ⟨(.x 0), .mv (.t 12), none⟩,
     ⟨(.x 1), .mv (.t 14), none⟩])
   (.seq
    (.seq
     (.reg [⟨(.t 15), .mv (.x 0), none⟩,
       ⟨(.t 16), .mv (.x 1), none⟩,
       ⟨(.t 17), .call 21 [(.t 15), (.t 16)], none⟩,
       ⟨(.x 18), .bin .lss (.t 17) (.c (.int .i64 0)), none⟩])
     (.cond (.x 18)
      (.seq
       (.reg [⟨(.x 4), .mv (.c .nils), none⟩,
         ⟨(.x 5), .mv (.c (.bool false)), none⟩])
       .ret)
      .skip))
    (.seq
     (.reg [⟨(.t 19), .mv (.x 0), none⟩,
       ⟨(.t 20), .len 1 (.t 19), none⟩,
       ⟨(.t 21), .mks 1 4 [(.int .u32 0)] (.t 20) (.t 20), none⟩,
       ⟨(.x 6), .mv (.t 21), none⟩])
     (.seq
      (.reg [⟨(.x 7), .mv (.c (.int .u32 0)), none⟩])
      (.seq
       (.seq
        (.reg [⟨(.x 22), .mv (.x 0), none⟩,
          ⟨(.x 23), .len 1 (.x 22), none⟩,
          ⟨(.x 24), .mv (.c (.int .i64 0)), none⟩])
        (.block 0
         (.loop
          (.seq
           (.reg [⟨(.x 25), .bin .lss (.x 24) (.x 23), none⟩])
           (.seq
            (.cond (.x 25)
             .skip
             (.exit 0))
            (.seq
             (.block 1
              (.seq
               (.reg [⟨(.t 26), .mv (.x 24), none⟩,
                 ⟨(.t 27), .iad 1 (.x 22) (.x 24), none⟩,
                 ⟨(.t 28), .ld (.t 27), none⟩,
                 ⟨(.x 8), .mv (.t 26), none⟩,
                 ⟨(.x 9), .mv (.t 28), none⟩])
               (.seq
                (.reg [⟨(.x 10), .mv (.c (.int .u32 0)), none⟩])
                (.seq
                 (.seq
                  (.reg [⟨(.t 29), .mv (.x 8), none⟩,
                    ⟨(.t 30), .mv (.x 1), none⟩,
                    ⟨(.t 31), .len 1 (.t 30), none⟩,
                    ⟨(.x 32), .bin .lss (.t 29) (.t 31), none⟩])
                  (.cond (.x 32)
                   (.reg [⟨(.t 33), .mv (.x 1), none⟩,
                     ⟨(.t 34), .mv (.x 8), none⟩,
                     ⟨(.t 35), .iad 1 (.t 33) (.t 34), none⟩,
                     ⟨(.t 36), .ld (.t 35), none⟩,
                     ⟨(.x 10), .mv (.t 36), none⟩])
                   .skip))
                 (.reg [⟨(.t 38), .mv (.x 6), none⟩,
                   ⟨(.t 39), .mv (.x 8), none⟩,
                   ⟨(.t 40), .mv (.x 9), none⟩,
                   ⟨(.t 41), .mv (.x 10), none⟩,
                   ⟨(.t 42), .mv (.x 7), none⟩,
                   ⟨(.t 43), .call 48 [(.t 40), (.t 41), (.t 42)], none⟩,
                   ⟨(.t 37), .mv (.t 43), none⟩,
                   ⟨(.t 44), .ext (.t 37) 0, none⟩,
                   ⟨(.t 45), .ext (.t 37) 1, none⟩,
                   ⟨(.t 46), .iad 1 (.t 38) (.t 39), none⟩,
                   ⟨.no, .st (.t 46) (.t 44), none⟩,
                   ⟨(.x 7), .mv (.t 45), none⟩])))))
             (.reg [⟨(.t 47), .bin .add (.x 24) (.c (.int .i64 1)), none⟩,
               ⟨(.x 24), .mv (.t 47), none⟩])))))))
       (.seq
        (.reg [⟨(.t 48), .mv (.x 6), none⟩,
          ⟨(.t 49), .call 40 [(.t 48)], none⟩,
          ⟨(.x 4), .mv (.t 49), none⟩,
          ⟨(.x 5), .mv (.c (.bool true)), none⟩])
        .ret)))))))
def resnSub : List RV := [.t 4, .t 5]
theorem nbnSub : fnnSub.nb = 0 := rfl
theorem isnSub : IsFn fnnSub 28 codenSub resnSub := ⟨⟨Try.f28, _, Try.func28, rfl, rfl, by kernel_rfl, by kernel_rfl, by kernel_rfl⟩⟩

/-- robuststats/natural.Mul -/
noncomputable def fnnMul : FnD := ⟨Try.prog, [0, 1, 4, 5, 6, 7, 8, 9, 10, 21, 22, 23, 24, 28, 29, 30, 31], [], 71, 0, false⟩
def codenMul : DC :=
 (.seq
  (.reg [⟨(.x 4), .mv (.c .nils), none⟩])
  (.seq
   (.reg [⟨(.t 11), .mv (.x 0), none⟩,
     ⟨(.t 12), .call 38 [(.t 11)], none⟩,
     ⟨(.t 13), .mv (.x 1), none⟩,
     ⟨(.t 14), .call 38 [(.t 13)], none⟩,
     ⟨(.x 0), .mv (.t 12), none⟩,
     ⟨(.x 1), .mv (.t 14), none⟩])
   (.seq
    (.reg [⟨(.t 15), .mv (.x 0), none⟩,
      ⟨(.t 16), .len 1 (.t 15), none⟩,
      ⟨(.t 17), .mv (.x 1), none⟩,
      ⟨(.t 18), .len 1 (.t 17), none⟩,
      ⟨(.t 19), .bin .add (.t 16) (.t 18), none⟩,
      ⟨(.t 20), .mks 1 4 [(.int .u32 0)] (.t 19) (.t 19), none⟩,
      ⟨(.x 5), .mv (.t 20), none⟩])
    (.seq
     (.seq
      (.reg [⟨(.x 21), .mv (.x 0), none⟩,
        ⟨(.x 22), .len 1 (.x 21), none⟩,
        ⟨(.x 23), .mv (.c (.int .i64 0)), none⟩])
      (.block 0
       (.loop
        (.seq
         (.reg [⟨(.x 24), .bin .lss (.x 23) (.x 22), none⟩])
         (.seq
          (.cond (.x 24)
           .skip
           (.exit 0))
          (.seq
           (.block 1
            (.seq
             (.reg [⟨(.t 25), .mv (.x 23), none⟩,
               ⟨(.t 26), .iad 1 (.x 21) (.x 23), none⟩,
               ⟨(.t 27), .ld (.t 26), none⟩,
               ⟨(.x 6), .mv (.t 25), none⟩,
               ⟨(.x 7), .mv (.t 27), none⟩])
             (.seq
              (.reg [⟨(.x 8), .mv (.c (.int .u64 0)), none⟩])
              (.seq
               (.seq
                (.reg [⟨(.x 28), .mv (.x 1), none⟩,
                  ⟨(.x 29), .len 1 (.x 28), none⟩,
                  ⟨(.x 30), .mv (.c (.int .i64 0)), none⟩])
                (.block 2
                 (.loop
                  (.seq
                   (.reg [⟨(.x 31), .bin .lss (.x 30) (.x 29), none⟩])
                   (.seq
                    (.cond (.x 31)
                     .skip
                     (.exit 2))
                    (.seq
                     (.block 3
                      (.seq
                       (.reg [⟨(.t 32), .mv (.x 30), none⟩,
                         ⟨(.t 33), .iad 1 (.x 28) (.x 30), none⟩,
                         ⟨(.t 34), .ld (.t 33), none⟩,
                         ⟨(.x 9), .mv (.t 32), none⟩,
                         ⟨(.x 10), .mv (.t 34), none⟩])
                       (.seq
                        (.reg [⟨(.t 35), .mv (.x 8), none⟩,
                          ⟨(.t 36), .mv (.x 7), none⟩,
                          ⟨(.t 37), .conv .u64 (.t 36), none⟩,
                          ⟨(.t 38), .mv (.x 10), none⟩,
                          ⟨(.t 39), .conv .u64 (.t 38), none⟩,
                          ⟨(.t 40), .bin .mul (.t 37) (.t 39), none⟩,
                          ⟨(.t 41), .mv (.x 5), none⟩,
                          ⟨(.t 42), .mv (.x 6), none⟩,
                          ⟨(.t 43), .mv (.x 9), none⟩,
                          ⟨(.t 44), .bin .add (.t 42) (.t 43), none⟩,
                          ⟨(.t 45), .iad 1 (.t 41) (.t 44), none⟩,
                          ⟨(.t 46), .ld (.t 45), none⟩,
                          ⟨(.t 47), .conv .u64 (.t 46), none⟩,
                          ⟨(.t 48), .bin .add (.t 40) (.t 47), none⟩,
                          ⟨(.t 49), .bin .add (.t 35) (.t 48), none⟩,
                          ⟨(.x 8), .mv (.t 49), none⟩])
                        (.seq
                         (.reg [⟨(.t 50), .mv (.x 5), none⟩,
                           ⟨(.t 51), .mv (.x 6), none⟩,
                           ⟨(.t 52), .mv (.x 9), none⟩,
                           ⟨(.t 53), .bin .add (.t 51) (.t 52), none⟩,
                           ⟨(.t 54), .mv (.x 8), none⟩,
                           ⟨(.t 55), .conv .u32 (.t 54), none⟩,
                           ⟨(.t 56), .iad 1 (.t 50) (.t 53), none⟩,
                           ⟨.no, .st (.t 56) (.t 55), none⟩])
                         (.reg [⟨(.t 57), .mv (.x 8), none⟩,
                           ⟨(.t 58), .bin .shr (.t 57) (.c (.int .u64 32)), none⟩,
                           ⟨(.x 8), .mv (.t 58), none⟩])))))
                     (.reg [⟨(.t 59), .bin .add (.x 30) (.c (.int .i64 1)), none⟩,
                       ⟨(.x 30), .mv (.t 59), none⟩])))))))
               (.reg [⟨(.t 60), .mv (.x 5), none⟩,
                 ⟨(.t 61), .mv (.x 6), none⟩,
                 ⟨(.t 62), .mv (.x 1), none⟩,
                 ⟨(.t 63), .len 1 (.t 62), none⟩,
                 ⟨(.t 64), .bin .add (.t 61) (.t 63), none⟩,
                 ⟨(.t 65), .mv (.x 8), none⟩,
                 ⟨(.t 66), .conv .u32 (.t 65), none⟩,
                 ⟨(.t 67), .iad 1 (.t 60) (.t 64), none⟩,
                 ⟨.no, .st (.t 67) (.t 66), none⟩])))))
           (.reg [⟨(.t 68), .bin .add (.x 23) (.c (.int .i64 1)), none⟩,
             ⟨(.x 23), .mv (.t 68), none⟩])))))))
     (.seq
      (.reg [⟨(.t 69), .mv (.x 5), none⟩,
        ⟨(.t 70), .call 40 [(.t 69)], none⟩,
        ⟨(.x 4), .mv (.t 70), none⟩])
      .ret)))))
def resnMul : List RV := [.t 4]
theorem nbnMul : fnnMul.nb = 0 := rfl
theorem isnMul : IsFn fnnMul 25 codenMul resnMul := ⟨⟨Try.f25, _, Try.func25, rfl, rfl, by kernel_rfl, by kernel_rfl, by kernel_rfl⟩⟩

/-- robuststats/natural.short -/
noncomputable def fnnShort : FnD := ⟨Try.prog, [0, 1, 4, 5, 6, 14], [], 33, 0, false⟩
def codenShort : DC :=
 (.seq
  (.reg [⟨(.x 4), .mv (.c .nils), none⟩,
    ⟨(.x 5), .mv (.c (.int .u32 0)), none⟩])
  (.seq
   (.reg [⟨(.t 7), .mv (.x 0), none⟩,
     ⟨(.t 8), .len 1 (.t 7), none⟩,
     ⟨(.t 9), .mks 1 4 [(.int .u32 0)] (.t 8) (.t 8), none⟩,
     ⟨(.x 4), .mv (.t 9), none⟩])
   (.seq
    (.seq
     (.reg [⟨(.t 10), .mv (.x 0), none⟩,
       ⟨(.t 11), .len 1 (.t 10), none⟩,
       ⟨(.t 12), .bin .sub (.t 11) (.c (.int .i64 1)), none⟩,
       ⟨(.x 6), .mv (.t 12), none⟩])
     (.block 0
      (.loop
       (.seq
        (.seq
         (.reg [⟨(.t 13), .mv (.x 6), none⟩,
           ⟨(.x 14), .bin .geq (.t 13) (.c (.int .i64 0)), none⟩])
         (.cond (.x 14)
          .skip
          (.exit 0)))
        (.seq
         (.block 1
          (.reg [⟨(.t 18), .mv (.x 4), none⟩,
            ⟨(.t 19), .mv (.x 6), none⟩,
            ⟨(.t 20), .mv (.x 5), none⟩,
            ⟨(.t 21), .mv (.x 0), none⟩,
            ⟨(.t 22), .mv (.x 6), none⟩,
            ⟨(.t 23), .iad 1 (.t 21) (.t 22), none⟩,
            ⟨(.t 24), .ld (.t 23), none⟩,
            ⟨(.t 25), .mv (.x 1), none⟩,
            ⟨(.t 26), .call 54 [(.t 20), (.t 24), (.t 25)], none⟩,
            ⟨(.t 17), .mv (.t 26), none⟩,
            ⟨(.t 27), .ext (.t 17) 0, none⟩,
            ⟨(.t 28), .ext (.t 17) 1, none⟩,
            ⟨(.t 29), .iad 1 (.t 18) (.t 19), none⟩,
            ⟨.no, .st (.t 29) (.t 27), none⟩,
            ⟨(.x 5), .mv (.t 28), none⟩]))
         (.reg [⟨(.t 15), .mv (.x 6), none⟩,
           ⟨(.t 16), .bin .sub (.t 15) (.c (.int .i64 1)), none⟩,
           ⟨(.x 6), .mv (.t 16), none⟩]))))))
    (.seq
     (.reg [⟨(.t 30), .mv (.x 4), none⟩,
       ⟨(.t 31), .call 40 [(.t 30)], none⟩,
       ⟨(.t 32), .mv (.x 5), none⟩,
       ⟨(.x 4), .mv (.t 31), none⟩,
       ⟨(.x 5), .mv (.t 32), none⟩])
     .ret))))
def resnShort : List RV := [.t 4, .t 5]
theorem nbnShort : fnnShort.nb = 0 := rfl
theorem isnShort : IsFn fnnShort 45 codenShort resnShort := ⟨⟨Try.f45, _, Try.func45, rfl, rfl, by kernel_rfl, by kernel_rfl, by kernel_rfl⟩⟩

/-- robuststats/natural.Div -/
noncomputable def fnnDiv : FnD := ⟨Try.prog, [0, 1, 4, 5, 6, 7, 8, 13, 17, 24], [], 48, 0, false⟩
def codenDiv : DC :=
 (.seq
  (.reg [⟨(.x 4), .mv (.c .nils), none⟩,
    ⟨(.x 5), .mv (.c .nils), none⟩,
    ⟨(.x 6), .mv (.c (.bool false)), none⟩])
  (.seq
   (.reg [⟨(.t 9), .mv (.x 0), none⟩,
     ⟨(.t 10), .call 38 [(.t 9)], none⟩,
     ⟨(.t 11), .mv (.x 1), none⟩,
     ⟨(.t 12), .call 38 [(.t 11)], none⟩,
     ⟨(.x 0), .mv (.t 10), none⟩,
     ⟨(.x 1), .mv (.t 12), none⟩])
   (.seq
    (.block 0
     (.seq
      (.reg [⟨(.t 14), .mv (.x 1), none⟩,
        ⟨(.t 15), .len 1 (.t 14), none⟩,
        ⟨(.t 16), .bin .eql (.t 15) (.c (.int .i64 0)), none⟩,
        ⟨(.x 13), .mv (.t 16), none⟩])
      (.cond (.x 13)
       (.seq
        (.reg [⟨(.x 4), .mv (.c .nils), none⟩,
          ⟨(.x 5), .mv (.c .nils), none⟩,
          ⟨(.x 6), .mv (.c (.bool false)), none⟩])
        .ret)
       (.seq
        (.reg [⟨(.t 18), .mv (.x 0), none⟩,
          ⟨(.t 19), .mv (.x 1), none⟩,
          ⟨(.t 20), .call 21 [(.t 18), (.t 19)], none⟩,
          ⟨(.t 21), .bin .lss (.t 20) (.c (.int .i64 0)), none⟩,
          ⟨(.x 17), .mv (.t 21), none⟩])
        (.cond (.x 17)
         (.seq
          (.reg [⟨(.t 22), .mv (.x 0), none⟩,
            ⟨(.t 23), .call 44 [(.t 22)], none⟩,
            ⟨(.x 4), .mv (.c .nils), none⟩,
            ⟨(.x 5), .mv (.t 23), none⟩,
            ⟨(.x 6), .mv (.c (.bool true)), none⟩])
          .ret)
         (.seq
          (.reg [⟨(.t 25), .mv (.x 1), none⟩,
            ⟨(.t 26), .len 1 (.t 25), none⟩,
            ⟨(.t 27), .bin .eql (.t 26) (.c (.int .i64 1)), none⟩,
            ⟨(.x 24), .mv (.t 27), none⟩])
          (.cond (.x 24)
           (.seq
            (.reg [⟨(.t 29), .mv (.x 0), none⟩,
              ⟨(.t 30), .mv (.x 1), none⟩,
              ⟨(.t 31), .iad 1 (.t 30) (.c (.int .i64 0)), none⟩,
              ⟨(.t 32), .ld (.t 31), none⟩,
              ⟨(.t 33), .call 45 [(.t 29), (.t 32)], none⟩,
              ⟨(.t 28), .mv (.t 33), none⟩,
              ⟨(.t 34), .ext (.t 28) 0, none⟩,
              ⟨(.t 35), .ext (.t 28) 1, none⟩,
              ⟨(.x 7), .mv (.t 34), none⟩,
              ⟨(.x 8), .mv (.t 35), none⟩])
            (.seq
             (.reg [⟨(.t 36), .mv (.x 7), none⟩,
               ⟨(.t 37), .mv (.x 8), none⟩,
               ⟨(.t 38), .conv .u64 (.t 37), none⟩,
               ⟨(.t 39), .call 19 [(.t 38)], none⟩,
               ⟨(.x 4), .mv (.t 36), none⟩,
               ⟨(.x 5), .mv (.t 39), none⟩,
               ⟨(.x 6), .mv (.c (.bool true)), none⟩])
             .ret))
           .skip)))))))
    (.seq
     (.reg [⟨(.t 41), .mv (.x 0), none⟩,
       ⟨(.t 42), .mv (.x 1), none⟩,
       ⟨(.t 43), .call 46 [(.t 41), (.t 42)], none⟩,
       ⟨(.t 40), .mv (.t 43), none⟩,
       ⟨(.t 44), .ext (.t 40) 0, none⟩,
       ⟨(.t 45), .ext (.t 40) 1, none⟩,
       ⟨(.x 4), .mv (.t 44), none⟩,
       ⟨(.x 5), .mv (.t 45), none⟩])
     (.seq
      (.reg [⟨(.t 46), .mv (.x 4), none⟩,
        ⟨(.t 47), .mv (.x 5), none⟩,
        ⟨(.x 4), .mv (.t 46), none⟩,
        ⟨(.x 5), .mv (.t 47), none⟩,
        ⟨(.x 6), .mv (.c (.bool true)), none⟩])
      .ret)))))
def resnDiv : List RV := [.t 4, .t 5, .t 6]
theorem nbnDiv : fnnDiv.nb = 0 := rfl
theorem isnDiv : IsFn fnnDiv 26 codenDiv resnDiv := ⟨⟨Try.f26, _, Try.func26, rfl, rfl, by kernel_rfl, by kernel_rfl, by kernel_rfl⟩⟩

/-- robuststats/natural.Root -/
noncomputable def fnnRoot : FnD := ⟨Try.prog, [0, 2, 3, 4, 5, 8, 14, 56], [], 59, 0, false⟩
def codenRoot : DC :=
 (.seq
  (.reg [⟨(.x 2), .mv (.c .nils), none⟩])
  (.seq
   (.reg [⟨(.t 10), .mv (.x 0), none⟩,
     ⟨(.t 11), .call 38 [(.t 10)], none⟩,
     ⟨(.x 0), .mv (.t 11), none⟩])
   (.seq
    (.seq
     (.reg [⟨(.t 12), .mv (.x 0), none⟩,
       ⟨(.t 13), .len 1 (.t 12), none⟩,
       ⟨(.x 14), .bin .eql (.t 13) (.c (.int .i64 0)), none⟩])
     (.cond (.x 14)
      (.seq
       (.reg [⟨(.x 2), .mv (.c .nils), none⟩])
       .ret)
      .skip))
    (.seq
     (.reg [⟨(.t 15), .mv (.x 0), none⟩,
       ⟨(.t 16), .len 1 (.t 15), none⟩,
       ⟨(.t 17), .bin .mul (.c (.int .i64 32)) (.t 16), none⟩,
       ⟨(.t 18), .mv (.x 0), none⟩,
       ⟨(.t 19), .mv (.x 0), none⟩,
       ⟨(.t 20), .len 1 (.t 19), none⟩,
       ⟨(.t 21), .bin .sub (.t 20) (.c (.int .i64 1)), none⟩,
       ⟨(.t 22), .iad 1 (.t 18) (.t 21), none⟩,
       ⟨(.t 23), .ld (.t 22), none⟩,
       ⟨(.t 24), .call 47 [(.t 23)], none⟩,
       ⟨(.t 25), .bin .sub (.t 17) (.t 24), none⟩,
       ⟨(.t 26), .bin .add (.t 25) (.c (.int .i64 1)), none⟩,
       ⟨(.t 27), .bin .quo (.t 26) (.c (.int .i64 2)), none⟩,
       ⟨(.x 3), .mv (.t 27), none⟩])
     (.seq
      (.reg [⟨(.t 28), .mv (.x 3), none⟩,
        ⟨(.t 29), .bin .quo (.t 28) (.c (.int .i64 32)), none⟩,
        ⟨(.t 30), .bin .add (.t 29) (.c (.int .i64 1)), none⟩,
        ⟨(.t 31), .mks 1 4 [(.int .u32 0)] (.t 30) (.t 30), none⟩,
        ⟨(.x 4), .mv (.t 31), none⟩])
      (.seq
       (.reg [⟨(.t 32), .mv (.x 4), none⟩,
         ⟨(.t 33), .mv (.x 3), none⟩,
         ⟨(.t 34), .bin .quo (.t 33) (.c (.int .i64 32)), none⟩,
         ⟨(.t 35), .mv (.x 3), none⟩,
         ⟨(.t 36), .bin .rem (.t 35) (.c (.int .i64 32)), none⟩,
         ⟨(.t 37), .bin .shl (.c (.int .u32 1)) (.t 36), none⟩,
         ⟨(.t 38), .iad 1 (.t 32) (.t 34), none⟩,
         ⟨.no, .st (.t 38) (.t 37), none⟩])
       (.block 0
        (.loop
         (.block 1
          (.seq
           (.reg [⟨(.t 40), .mv (.x 0), none⟩,
             ⟨(.t 41), .mv (.x 4), none⟩,
             ⟨(.t 42), .call 26 [(.t 40), (.t 41)], none⟩,
             ⟨(.t 39), .mv (.t 42), none⟩,
             ⟨(.t 43), .ext (.t 39) 0, none⟩,
             ⟨(.t 44), .ext (.t 39) 1, none⟩,
             ⟨(.t 45), .ext (.t 39) 2, none⟩,
             ⟨(.x 5), .mv (.t 43), none⟩,
             ⟨(.t 6), .mv (.t 44), none⟩,
             ⟨(.t 7), .mv (.t 45), none⟩])
           (.seq
            (.reg [⟨(.t 47), .mv (.x 4), none⟩,
              ⟨(.t 48), .mv (.x 5), none⟩,
              ⟨(.t 49), .call 24 [(.t 47), (.t 48)], none⟩,
              ⟨(.t 50), .call 45 [(.t 49), (.c (.int .u32 2))], none⟩,
              ⟨(.t 46), .mv (.t 50), none⟩,
              ⟨(.t 51), .ext (.t 46) 0, none⟩,
              ⟨(.t 52), .ext (.t 46) 1, none⟩,
              ⟨(.x 8), .mv (.t 51), none⟩,
              ⟨(.t 9), .mv (.t 52), none⟩])
            (.seq
             (.seq
              (.reg [⟨(.t 53), .mv (.x 8), none⟩,
                ⟨(.t 54), .mv (.x 4), none⟩,
                ⟨(.t 55), .call 21 [(.t 53), (.t 54)], none⟩,
                ⟨(.x 56), .bin .geq (.t 55) (.c (.int .i64 0)), none⟩])
              (.cond (.x 56)
               (.seq
                (.reg [⟨(.t 57), .mv (.x 4), none⟩,
                  ⟨(.x 2), .mv (.t 57), none⟩])
                .ret)
               .skip))
             (.reg [⟨(.t 58), .mv (.x 8), none⟩,
               ⟨(.x 4), .mv (.t 58), none⟩])))))))))))))
def resnRoot : List RV := [.t 2]
theorem nbnRoot : fnnRoot.nb = 0 := rfl
theorem isnRoot : IsFn fnnRoot 27 codenRoot resnRoot := ⟨⟨Try.f27, _, Try.func27, rfl, rfl, by kernel_rfl, by kernel_rfl, by kernel_rfl⟩⟩

/-- robuststats/natural.divide -/
noncomputable def fnnDivide : FnD := ⟨Try.prog, [0, 1, 4, 5, 6, 7, 8, 9, 10, 11, 12, 39, 82, 102, 103, 104], [], 130, 0, false⟩
def codenDivide : DC :=
 (.seq
  (.reg [⟨(.x 4), .mv (.c .nils), none⟩,
    ⟨(.x 5), .mv (.c .nils), none⟩])
  (.seq
   (.reg [⟨(.t 13), .mv (.x 1), none⟩,
     ⟨(.t 14), .mv (.x 1), none⟩,
     ⟨(.t 15), .len 1 (.t 14), none⟩,
     ⟨(.t 16), .bin .sub (.t 15) (.c (.int .i64 1)), none⟩,
     ⟨(.t 17), .iad 1 (.t 13) (.t 16), none⟩,
     ⟨(.t 18), .ld (.t 17), none⟩,
     ⟨(.t 19), .call 47 [(.t 18)], none⟩,
     ⟨(.t 20), .mv (.x 1), none⟩,
     ⟨(.t 21), .len 1 (.t 20), none⟩,
     ⟨(.x 6), .mv (.t 19), none⟩,
     ⟨(.x 7), .mv (.t 21), none⟩])
   (.seq
    (.reg [⟨(.t 22), .mv (.x 0), none⟩,
      ⟨(.t 23), .mv (.x 6), none⟩,
      ⟨(.t 24), .call 55 [(.t 22), (.t 23)], none⟩,
      ⟨(.t 25), .mv (.x 1), none⟩,
      ⟨(.t 26), .mv (.x 6), none⟩,
      ⟨(.t 27), .call 55 [(.t 25), (.t 26)], none⟩,
      ⟨(.t 28), .call 40 [(.t 27)], none⟩,
      ⟨(.x 8), .mv (.t 24), none⟩,
      ⟨(.x 9), .mv (.t 28), none⟩])
    (.seq
     (.reg [⟨(.t 29), .mv (.x 0), none⟩,
       ⟨(.t 30), .len 1 (.t 29), none⟩,
       ⟨(.t 31), .mv (.x 7), none⟩,
       ⟨(.t 32), .bin .sub (.t 30) (.t 31), none⟩,
       ⟨(.t 33), .bin .add (.t 32) (.c (.int .i64 1)), none⟩,
       ⟨(.t 34), .mks 1 4 [(.int .u32 0)] (.t 33) (.t 33), none⟩,
       ⟨(.x 4), .mv (.t 34), none⟩])
     (.seq
      (.seq
       (.reg [⟨(.t 35), .mv (.x 4), none⟩,
         ⟨(.t 36), .len 1 (.t 35), none⟩,
         ⟨(.t 37), .bin .sub (.t 36) (.c (.int .i64 1)), none⟩,
         ⟨(.x 10), .mv (.t 37), none⟩])
       (.block 0
        (.loop
         (.seq
          (.seq
           (.reg [⟨(.t 38), .mv (.x 10), none⟩,
             ⟨(.x 39), .bin .geq (.t 38) (.c (.int .i64 0)), none⟩])
           (.cond (.x 39)
            .skip
            (.exit 0)))
          (.seq
           (.block 1
            (.seq
             (.regd [⟨(.t 42), .mv (.x 8), none⟩,
               ⟨(.t 43), .mv (.x 10), none⟩,
               ⟨(.t 44), .mv (.x 7), none⟩,
               ⟨(.t 45), .bin .add (.t 43) (.t 44), none⟩,
               ⟨(.t 46), .iad 1 (.t 42) (.t 45), none⟩,
               ⟨(.t 47), .ld (.t 46), none⟩,
               ⟨(.t 48), .mv (.x 8), none⟩,
               ⟨(.t 49), .mv (.x 10), none⟩,
               ⟨(.t 50), .mv (.x 7), none⟩,
               ⟨(.t 51), .bin .add (.t 49) (.t 50), none⟩,
               ⟨(.t 52), .bin .sub (.t 51) (.c (.int .i64 1)), none⟩,
               ⟨(.t 53), .iad 1 (.t 48) (.t 52), none⟩,
               ⟨(.t 54), .ld (.t 53), none⟩,
               ⟨(.t 55), .mv (.x 8), none⟩,
               ⟨(.t 56), .mv (.x 10), none⟩,
               ⟨(.t 57), .mv (.x 7), none⟩,
               ⟨(.t 58), .bin .add (.t 56) (.t 57), none⟩,
               ⟨(.t 59), .bin .sub (.t 58) (.c (.int .i64 2)), none⟩,
               ⟨(.t 60), .iad 1 (.t 55) (.t 59), none⟩,
               ⟨(.t 61), .ld (.t 60), none⟩,
               ⟨(.t 62), .mv (.x 9), none⟩,
               ⟨(.t 63), .mv (.x 7), none⟩,
               ⟨(.t 64), .bin .sub (.t 63) (.c (.int .i64 1)), none⟩,
               ⟨(.t 65), .iad 1 (.t 62) (.t 64), none⟩,
               ⟨(.t 66), .ld (.t 65), none⟩,
               ⟨(.t 67), .mv (.x 9), none⟩,
               ⟨(.t 68), .mv (.x 7), none⟩,
               ⟨(.t 69), .bin .sub (.t 68) (.c (.int .i64 2)), none⟩,
               ⟨(.t 70), .iad 1 (.t 67) (.t 69), none⟩,
               ⟨(.t 71), .ld (.t 70), none⟩,
               ⟨(.t 72), .call 56 [(.t 47), (.t 54), (.t 61), (.t 66), (.t 71)], none⟩,
               ⟨(.x 11), .mv (.t 72), none⟩])
             (.seq
              (.seq
               (.reg [⟨(.t 73), .mv (.x 8), none⟩,
                 ⟨(.t 74), .mv (.x 10), none⟩,
                 ⟨(.t 75), .mv (.x 10), none⟩,
                 ⟨(.t 76), .mv (.x 7), none⟩,
                 ⟨(.t 77), .bin .add (.t 75) (.t 76), none⟩,
                 ⟨(.t 78), .bin .add (.t 77) (.c (.int .i64 1)), none⟩,
                 ⟨(.t 79), .slc 1 (.t 73) (some (.t 74)) (some (.t 78)), none⟩,
                 ⟨(.t 80), .mv (.x 9), none⟩,
                 ⟨(.t 81), .mv (.x 11), none⟩,
                 ⟨(.x 82), .call 57 [(.t 79), (.t 80), (.t 81)], none⟩])
               (.cond (.x 82)
                (.seq
                 (.reg [⟨(.t 83), .mv (.x 8), none⟩,
                   ⟨(.t 84), .mv (.x 10), none⟩,
                   ⟨(.t 85), .mv (.x 10), none⟩,
                   ⟨(.t 86), .mv (.x 7), none⟩,
                   ⟨(.t 87), .bin .add (.t 85) (.t 86), none⟩,
                   ⟨(.t 88), .bin .add (.t 87) (.c (.int .i64 1)), none⟩,
                   ⟨(.t 89), .slc 1 (.t 83) (some (.t 84)) (some (.t 88)), none⟩,
                   ⟨(.t 90), .mv (.x 9), none⟩,
                   ⟨(.t 91), .call 58 [(.t 89), (.t 90)], none⟩])
                 (.reg [⟨(.t 92), .mv (.x 11), none⟩,
                   ⟨(.t 93), .bin .sub (.t 92) (.c (.int .u64 1)), none⟩,
                   ⟨(.x 11), .mv (.t 93), none⟩]))
                .skip))
              (.reg [⟨(.t 94), .mv (.x 4), none⟩,
                ⟨(.t 95), .mv (.x 10), none⟩,
                ⟨(.t 96), .mv (.x 11), none⟩,
                ⟨(.t 97), .conv .u32 (.t 96), none⟩,
                ⟨(.t 98), .iad 1 (.t 94) (.t 95), none⟩,
                ⟨.no, .st (.t 98) (.t 97), none⟩]))))
           (.reg [⟨(.t 40), .mv (.x 10), none⟩,
             ⟨(.t 41), .bin .sub (.t 40) (.c (.int .i64 1)), none⟩,
             ⟨(.x 10), .mv (.t 41), none⟩]))))))
      (.seq
       (.reg [⟨(.t 99), .mv (.x 7), none⟩,
         ⟨(.t 100), .mks 1 4 [(.int .u32 0)] (.t 99) (.t 99), none⟩,
         ⟨(.x 5), .mv (.t 100), none⟩])
       (.seq
        (.seq
         (.reg [⟨(.t 101), .mv (.x 5), none⟩,
           ⟨(.x 102), .len 1 (.t 101), none⟩,
           ⟨(.x 103), .mv (.c (.int .i64 0)), none⟩])
         (.block 2
          (.loop
           (.seq
            (.reg [⟨(.x 104), .bin .lss (.x 103) (.x 102), none⟩])
            (.seq
             (.cond (.x 104)
              .skip
              (.exit 2))
             (.seq
              (.block 3
               (.seq
                (.reg [⟨(.t 105), .mv (.x 103), none⟩,
                  ⟨(.x 12), .mv (.t 105), none⟩])
                (.regd [⟨(.t 106), .mv (.x 5), none⟩,
                  ⟨(.t 107), .mv (.x 12), none⟩,
                  ⟨(.t 108), .mv (.x 8), none⟩,
                  ⟨(.t 109), .mv (.x 12), none⟩,
                  ⟨(.t 110), .bin .add (.t 109) (.c (.int .i64 1)), none⟩,
                  ⟨(.t 111), .iad 1 (.t 108) (.t 110), none⟩,
                  ⟨(.t 112), .ld (.t 111), none⟩,
                  ⟨(.t 113), .conv .u64 (.t 112), none⟩,
                  ⟨(.t 114), .bin .shl (.t 113) (.c (.int .u64 32)), none⟩,
                  ⟨(.t 115), .mv (.x 8), none⟩,
                  ⟨(.t 116), .mv (.x 12), none⟩,
                  ⟨(.t 117), .iad 1 (.t 115) (.t 116), none⟩,
                  ⟨(.t 118), .ld (.t 117), none⟩,
                  ⟨(.t 119), .conv .u64 (.t 118), none⟩,
                  ⟨(.t 120), .bin .or (.t 114) (.t 119), none⟩,
                  ⟨(.t 121), .mv (.x 6), none⟩,
                  ⟨(.t 122), .bin .shr (.t 120) (.t 121), none⟩,
                  ⟨(.t 123), .conv .u32 (.t 122), none⟩,
                  ⟨(.t 124), .iad 1 (.t 106) (.t 107), none⟩,
                  ⟨.no, .st (.t 124) (.t 123), none⟩])))
              (.reg [⟨(.t 125), .bin .add (.x 103) (.c (.int .i64 1)), none⟩,
                ⟨(.x 103), .mv (.t 125), none⟩])))))))
        (.seq
         (.reg [⟨(.t 126), .mv (.x 4), none⟩,
           ⟨(.t 127), .call 40 [(.t 126)], none⟩,
           ⟨(.t 128), .mv (.x 5), none⟩,
           ⟨(.t 129), .call 40 [(.t 128)], none⟩,
           ⟨(.x 4), .mv (.t 127), none⟩,
           ⟨(.x 5), .mv (.t 129), none⟩])
         .ret))))))))
def resnDivide : List RV := [.t 4, .t 5]
theorem nbnDivide : fnnDivide.nb = 0 := rfl
theorem isnDivide : IsFn fnnDivide 46 codenDivide resnDivide := ⟨⟨Try.f46, _, Try.func46, rfl, rfl, by kernel_rfl, by kernel_rfl, by kernel_rfl⟩⟩

/-- robuststats/natural.shifted -/
noncomputable def fnnShifted : FnD := ⟨Try.prog, [0, 1, 4, 5, 6, 7, 8, 13, 14, 15, 16], [], 41, 0, false⟩
def codenShifted : DC :=
 (.seq
  (.reg [⟨(.x 4), .mv (.c .nils), none⟩])
  (.seq
   (.reg [⟨(.t 9), .mv (.x 0), none⟩,
     ⟨(.t 10), .len 1 (.t 9), none⟩,
     ⟨(.t 11), .bin .add (.t 10) (.c (.int .i64 1)), none⟩,
     ⟨(.t 12), .mks 1 4 [(.int .u32 0)] (.t 11) (.t 11), none⟩,
     ⟨(.x 5), .mv (.t 12), none⟩])
   (.seq
    (.seq
     (.reg [⟨(.x 13), .mv (.x 0), none⟩,
       ⟨(.x 14), .len 1 (.x 13), none⟩,
       ⟨(.x 15), .mv (.c (.int .i64 0)), none⟩])
     (.block 0
      (.loop
       (.seq
        (.reg [⟨(.x 16), .bin .lss (.x 15) (.x 14), none⟩])
        (.seq
         (.cond (.x 16)
          .skip
          (.exit 0))
         (.seq
          (.block 1
           (.seq
            (.reg [⟨(.t 17), .mv (.x 15), none⟩,
              ⟨(.t 18), .iad 1 (.x 13) (.x 15), none⟩,
              ⟨(.t 19), .ld (.t 18), none⟩,
              ⟨(.x 6), .mv (.t 17), none⟩,
              ⟨(.x 7), .mv (.t 19), none⟩])
            (.seq
             (.reg [⟨(.t 20), .mv (.x 7), none⟩,
               ⟨(.t 21), .conv .u64 (.t 20), none⟩,
               ⟨(.t 22), .mv (.x 1), none⟩,
               ⟨(.t 23), .bin .shl (.t 21) (.t 22), none⟩,
               ⟨(.x 8), .mv (.t 23), none⟩])
             (.seq
              (.reg [⟨(.t 24), .mv (.x 5), none⟩,
                ⟨(.t 25), .mv (.x 6), none⟩,
                ⟨(.t 26), .iad 1 (.t 24) (.t 25), none⟩,
                ⟨(.t 27), .ld (.t 26), none⟩,
                ⟨(.t 28), .mv (.x 8), none⟩,
                ⟨(.t 29), .conv .u32 (.t 28), none⟩,
                ⟨(.t 30), .bin .or (.t 27) (.t 29), none⟩,
                ⟨(.t 31), .iad 1 (.t 24) (.t 25), none⟩,
                ⟨.no, .st (.t 31) (.t 30), none⟩])
              (.reg [⟨(.t 32), .mv (.x 5), none⟩,
                ⟨(.t 33), .mv (.x 6), none⟩,
                ⟨(.t 34), .bin .add (.t 33) (.c (.int .i64 1)), none⟩,
                ⟨(.t 35), .mv (.x 8), none⟩,
                ⟨(.t 36), .bin .shr (.t 35) (.c (.int .u64 32)), none⟩,
                ⟨(.t 37), .conv .u32 (.t 36), none⟩,
                ⟨(.t 38), .iad 1 (.t 32) (.t 34), none⟩,
                ⟨.no, .st (.t 38) (.t 37), none⟩])))))
          (.reg [⟨(.t 39), .bin .add (.x 15) (.c (.int .i64 1)), none⟩,
            ⟨(.x 15), .mv (.t 39), none⟩])))))))
    (.seq
     (.reg [⟨(.t 40), .mv (.x 5), none⟩,
       ⟨(.x 4), .mv (.t 40), none⟩])
     .ret))))
def resnShifted : List RV := [.t 4]
theorem nbnShifted : fnnShifted.nb = 0 := rfl
theorem isnShifted : IsFn fnnShifted 55 codenShifted resnShifted := ⟨⟨Try.f55, _, Try.func55, rfl, rfl, by kernel_rfl, by kernel_rfl, by kernel_rfl⟩⟩

/-- robuststats/natural.guess -/
noncomputable def fnnGuess : FnD := ⟨Try.prog, [0, 1, 2, 3, 4, 10, 11, 12, 13, 45], [], 53, 0, false⟩
def codenGuess : DC :=
 (.seq
  (.reg [⟨(.x 10), .mv (.c (.int .u64 0)), none⟩])
  (.seq
   (.reg [⟨(.t 14), .mv (.x 0), none⟩,
     ⟨(.t 15), .conv .u64 (.t 14), none⟩,
     ⟨(.t 16), .bin .shl (.t 15) (.c (.int .u64 32)), none⟩,
     ⟨(.t 17), .mv (.x 1), none⟩,
     ⟨(.t 18), .conv .u64 (.t 17), none⟩,
     ⟨(.t 19), .bin .or (.t 16) (.t 18), none⟩,
     ⟨(.x 11), .mv (.t 19), none⟩])
   (.seq
    (.regd [⟨(.t 20), .mv (.x 11), none⟩,
      ⟨(.t 21), .mv (.x 3), none⟩,
      ⟨(.t 22), .conv .u64 (.t 21), none⟩,
      ⟨(.t 23), .bin .quo (.t 20) (.t 22), none⟩,
      ⟨(.t 24), .mv (.x 11), none⟩,
      ⟨(.t 25), .mv (.x 3), none⟩,
      ⟨(.t 26), .conv .u64 (.t 25), none⟩,
      ⟨(.t 27), .bin .rem (.t 24) (.t 26), none⟩,
      ⟨(.x 12), .mv (.t 23), none⟩,
      ⟨(.x 13), .mv (.t 27), none⟩])
    (.seq
     (.block 0
      (.loop
       (.seq
        (.seq
         (.reg [⟨(.t 28), .mv (.x 13), none⟩,
           ⟨(.t 29), .bin .lss (.t 28) (.c (.int .u64 4294967296)), none⟩,
           ⟨(.t 30), .mv (.t 29), none⟩,
           ⟨(.t 31), .mv (.x 12), (some ((.t 30), true))⟩,
           ⟨(.t 32), .bin .geq (.t 31) (.c (.int .u64 4294967296)), (some ((.t 30), true))⟩,
           ⟨(.t 33), .mv (.t 32), (some ((.t 30), true))⟩,
           ⟨(.t 34), .mv (.x 12), (some ((.t 33), false))⟩,
           ⟨(.t 35), .mv (.x 4), (some ((.t 33), false))⟩,
           ⟨(.t 36), .conv .u64 (.t 35), (some ((.t 33), false))⟩,
           ⟨(.t 37), .bin .mul (.t 34) (.t 36), (some ((.t 33), false))⟩,
           ⟨(.t 38), .mv (.x 13), (some ((.t 33), false))⟩,
           ⟨(.t 39), .bin .shl (.t 38) (.c (.int .u64 32)), (some ((.t 33), false))⟩,
           ⟨(.t 40), .mv (.x 2), (some ((.t 33), false))⟩,
           ⟨(.t 41), .conv .u64 (.t 40), (some ((.t 33), false))⟩,
           ⟨(.t 42), .bin .or (.t 39) (.t 41), (some ((.t 33), false))⟩,
           ⟨(.t 43), .bin .gtr (.t 37) (.t 42), (some ((.t 33), false))⟩,
           ⟨(.t 44), .pick (.t 33) (.c (.bool true)) (.t 43), (some ((.t 30), true))⟩,
           ⟨(.x 45), .pick (.t 30) (.t 44) (.c (.bool false)), none⟩])
         (.cond (.x 45)
          .skip
          (.exit 0)))
        (.block 1
         (.seq
          (.reg [⟨(.t 46), .mv (.x 12), none⟩,
            ⟨(.t 47), .bin .sub (.t 46) (.c (.int .u64 1)), none⟩,
            ⟨(.x 12), .mv (.t 47), none⟩])
          (.reg [⟨(.t 48), .mv (.x 13), none⟩,
            ⟨(.t 49), .mv (.x 3), none⟩,
            ⟨(.t 50), .conv .u64 (.t 49), none⟩,
            ⟨(.t 51), .bin .add (.t 48) (.t 50), none⟩,
            ⟨(.x 13), .mv (.t 51), none⟩]))))))
     (.seq
      (.reg [⟨(.t 52), .mv (.x 12), none⟩,
        ⟨(.x 10), .mv (.t 52), none⟩])
      .ret)))))
def resnGuess : List RV := [.t 10]
theorem nbnGuess : fnnGuess.nb = 0 := rfl
theorem isnGuess : IsFn fnnGuess 56 codenGuess resnGuess := ⟨⟨Try.f56, _, Try.func56, rfl, rfl, by kernel_rfl, by kernel_rfl, by kernel_rfl⟩⟩

/-- robuststats/natural.reduce -/
noncomputable def fnnReduce : FnD := ⟨Try.prog, [0, 1, 2, 6, 7, 8, 9, 10, 12, 13, 14, 19], [], 49, 0, false⟩
def codenReduce : DC :=
 (.seq
  (.reg [⟨(.x 6), .mv (.c (.bool false)), none⟩])
  (.seq
   (.reg [⟨(.x 7), .mv (.c (.int .u64 0)), none⟩,
     ⟨(.x 8), .mv (.c (.int .u32 0)), none⟩])
   (.seq
    (.seq
     (.reg [⟨(.t 11), .mv (.x 0), none⟩,
       ⟨(.x 12), .len 1 (.t 11), none⟩,
       ⟨(.x 13), .mv (.c (.int .i64 0)), none⟩])
     (.block 0
      (.loop
       (.seq
        (.reg [⟨(.x 14), .bin .lss (.x 13) (.x 12), none⟩])
        (.seq
         (.cond (.x 14)
          .skip
          (.exit 0))
         (.seq
          (.block 1
           (.seq
            (.reg [⟨(.t 15), .mv (.x 13), none⟩,
              ⟨(.x 9), .mv (.t 15), none⟩])
            (.seq
             (.reg [⟨(.x 10), .mv (.c (.int .u64 0)), none⟩])
             (.seq
              (.seq
               (.reg [⟨(.t 16), .mv (.x 9), none⟩,
                 ⟨(.t 17), .mv (.x 1), none⟩,
                 ⟨(.t 18), .len 1 (.t 17), none⟩,
                 ⟨(.x 19), .bin .lss (.t 16) (.t 18), none⟩])
               (.cond (.x 19)
                (.reg [⟨(.t 20), .mv (.x 1), none⟩,
                  ⟨(.t 21), .mv (.x 9), none⟩,
                  ⟨(.t 22), .iad 1 (.t 20) (.t 21), none⟩,
                  ⟨(.t 23), .ld (.t 22), none⟩,
                  ⟨(.t 24), .conv .u64 (.t 23), none⟩,
                  ⟨(.x 10), .mv (.t 24), none⟩])
                .skip))
              (.seq
               (.reg [⟨(.t 25), .mv (.x 7), none⟩,
                 ⟨(.t 26), .mv (.x 2), none⟩,
                 ⟨(.t 27), .mv (.x 10), none⟩,
                 ⟨(.t 28), .bin .mul (.t 26) (.t 27), none⟩,
                 ⟨(.t 29), .bin .add (.t 25) (.t 28), none⟩,
                 ⟨(.x 7), .mv (.t 29), none⟩])
               (.seq
                (.reg [⟨(.t 31), .mv (.x 0), none⟩,
                  ⟨(.t 32), .mv (.x 9), none⟩,
                  ⟨(.t 33), .mv (.x 0), none⟩,
                  ⟨(.t 34), .mv (.x 9), none⟩,
                  ⟨(.t 35), .iad 1 (.t 33) (.t 34), none⟩,
                  ⟨(.t 36), .ld (.t 35), none⟩,
                  ⟨(.t 37), .mv (.x 7), none⟩,
                  ⟨(.t 38), .conv .u32 (.t 37), none⟩,
                  ⟨(.t 39), .mv (.x 8), none⟩,
                  ⟨(.t 40), .call 48 [(.t 36), (.t 38), (.t 39)], none⟩,
                  ⟨(.t 30), .mv (.t 40), none⟩,
                  ⟨(.t 41), .ext (.t 30) 0, none⟩,
                  ⟨(.t 42), .ext (.t 30) 1, none⟩,
                  ⟨(.t 43), .iad 1 (.t 31) (.t 32), none⟩,
                  ⟨.no, .st (.t 43) (.t 41), none⟩,
                  ⟨(.x 8), .mv (.t 42), none⟩])
                (.reg [⟨(.t 44), .mv (.x 7), none⟩,
                  ⟨(.t 45), .bin .shr (.t 44) (.c (.int .u64 32)), none⟩,
                  ⟨(.x 7), .mv (.t 45), none⟩])))))))
          (.reg [⟨(.t 46), .bin .add (.x 13) (.c (.int .i64 1)), none⟩,
            ⟨(.x 13), .mv (.t 46), none⟩])))))))
    (.seq
     (.reg [⟨(.t 47), .mv (.x 8), none⟩,
       ⟨(.t 48), .bin .neq (.t 47) (.c (.int .u32 0)), none⟩,
       ⟨(.x 6), .mv (.t 48), none⟩])
     .ret))))
def resnReduce : List RV := [.t 6]
theorem nbnReduce : fnnReduce.nb = 0 := rfl
theorem isnReduce : IsFn fnnReduce 57 codenReduce resnReduce := ⟨⟨Try.f57, _, Try.func57, rfl, rfl, by kernel_rfl, by kernel_rfl, by kernel_rfl⟩⟩

/-- robuststats/natural.restore -/
noncomputable def fnnRestore : FnD := ⟨Try.prog, [0, 1, 4, 5, 6, 8, 9, 10, 15], [], 34, 0, false⟩
def codenRestore : DC :=
 (.seq
  (.reg [⟨(.x 4), .mv (.c (.int .u32 0)), none⟩])
  (.seq
   (.reg [⟨(.t 7), .mv (.x 0), none⟩,
     ⟨(.x 8), .len 1 (.t 7), none⟩,
     ⟨(.x 9), .mv (.c (.int .i64 0)), none⟩])
   (.block 0
    (.loop
     (.seq
      (.reg [⟨(.x 10), .bin .lss (.x 9) (.x 8), none⟩])
      (.seq
       (.cond (.x 10)
        .skip
        (.exit 0))
       (.seq
        (.block 1
         (.seq
          (.reg [⟨(.t 11), .mv (.x 9), none⟩,
            ⟨(.x 5), .mv (.t 11), none⟩])
          (.seq
           (.reg [⟨(.x 6), .mv (.c (.int .u32 0)), none⟩])
           (.seq
            (.seq
             (.reg [⟨(.t 12), .mv (.x 5), none⟩,
               ⟨(.t 13), .mv (.x 1), none⟩,
               ⟨(.t 14), .len 1 (.t 13), none⟩,
               ⟨(.x 15), .bin .lss (.t 12) (.t 14), none⟩])
             (.cond (.x 15)
              (.reg [⟨(.t 16), .mv (.x 1), none⟩,
                ⟨(.t 17), .mv (.x 5), none⟩,
                ⟨(.t 18), .iad 1 (.t 16) (.t 17), none⟩,
                ⟨(.t 19), .ld (.t 18), none⟩,
                ⟨(.x 6), .mv (.t 19), none⟩])
              .skip))
            (.reg [⟨(.t 21), .mv (.x 0), none⟩,
              ⟨(.t 22), .mv (.x 5), none⟩,
              ⟨(.t 23), .mv (.x 0), none⟩,
              ⟨(.t 24), .mv (.x 5), none⟩,
              ⟨(.t 25), .iad 1 (.t 23) (.t 24), none⟩,
              ⟨(.t 26), .ld (.t 25), none⟩,
              ⟨(.t 27), .mv (.x 6), none⟩,
              ⟨(.t 28), .mv (.x 4), none⟩,
              ⟨(.t 29), .call 43 [(.t 26), (.t 27), (.t 28)], none⟩,
              ⟨(.t 20), .mv (.t 29), none⟩,
              ⟨(.t 30), .ext (.t 20) 0, none⟩,
              ⟨(.t 31), .ext (.t 20) 1, none⟩,
              ⟨(.t 32), .iad 1 (.t 21) (.t 22), none⟩,
              ⟨.no, .st (.t 32) (.t 30), none⟩,
              ⟨(.x 4), .mv (.t 31), none⟩])))))
        (.reg [⟨(.t 33), .bin .add (.x 9) (.c (.int .i64 1)), none⟩,
          ⟨(.x 9), .mv (.t 33), none⟩]))))))))
def resnRestore : List RV := []
theorem nbnRestore : fnnRestore.nb = 0 := rfl
theorem isnRestore : IsFn fnnRestore 58 codenRestore resnRestore := ⟨⟨Try.f58, _, Try.func58, rfl, rfl, by kernel_rfl, by kernel_rfl, by kernel_rfl⟩⟩

/-- robuststats/natural.gcd -/
noncomputable def fnngcd : FnD := ⟨Try.prog, [0, 1, 4, 6], [], 12, 0, false⟩
def codengcd : DC :=
 (.seq
  (.reg [⟨(.x 4), .mv (.c (.int .u64 0)), none⟩])
  (.seq
   (.block 0
    (.loop
     (.seq
      (.seq
       (.reg [⟨(.t 5), .mv (.x 1), none⟩,
         ⟨(.x 6), .bin .neq (.t 5) (.c (.int .u64 0)), none⟩])
       (.cond (.x 6)
        .skip
        (.exit 0)))
      (.block 1
       (.regd [⟨(.t 7), .mv (.x 1), none⟩,
         ⟨(.t 8), .mv (.x 0), none⟩,
         ⟨(.t 9), .mv (.x 1), none⟩,
         ⟨(.t 10), .bin .rem (.t 8) (.t 9), none⟩,
         ⟨(.x 0), .mv (.t 7), none⟩,
         ⟨(.x 1), .mv (.t 10), none⟩])))))
   (.seq
    (.reg [⟨(.t 11), .mv (.x 0), none⟩,
      ⟨(.x 4), .mv (.t 11), none⟩])
    .ret)))
def resngcd : List RV := [.t 4]
theorem nbngcd : fnngcd.nb = 0 := rfl
theorem isngcd : IsFn fnngcd 51 codengcd resngcd := ⟨⟨Try.f51, _, Try.func51, rfl, rfl, by kernel_rfl, by kernel_rfl, by kernel_rfl⟩⟩

/-- robuststats/natural.Gcd -/
noncomputable def fnnGcd : FnD := ⟨Try.prog, [0, 1, 4, 5, 6, 7, 8, 10, 18, 32], [], 48, 0, false⟩
def codenGcd : DC :=
 (.seq
  (.reg [⟨(.x 4), .mv (.c .nils), none⟩])
  (.seq
   (.reg [⟨(.t 12), .mv (.x 0), none⟩,
     ⟨(.t 13), .call 38 [(.t 12)], none⟩,
     ⟨(.t 14), .mv (.x 1), none⟩,
     ⟨(.t 15), .call 38 [(.t 14)], none⟩,
     ⟨(.x 0), .mv (.t 13), none⟩,
     ⟨(.x 1), .mv (.t 15), none⟩])
   (.seq
    (.block 0
     (.loop
      (.seq
       (.seq
        (.reg [⟨(.t 16), .mv (.x 1), none⟩,
          ⟨(.t 17), .len 1 (.t 16), none⟩,
          ⟨(.x 18), .bin .gtr (.t 17) (.c (.int .i64 0)), none⟩])
        (.cond (.x 18)
         .skip
         (.exit 0)))
       (.block 1
        (.seq
         (.reg [⟨(.t 20), .mv (.x 0), none⟩,
           ⟨(.t 21), .call 14 [(.t 20)], none⟩,
           ⟨(.t 19), .mv (.t 21), none⟩,
           ⟨(.t 22), .ext (.t 19) 0, none⟩,
           ⟨(.t 23), .ext (.t 19) 1, none⟩,
           ⟨(.x 5), .mv (.t 22), none⟩,
           ⟨(.x 6), .mv (.t 23), none⟩])
         (.seq
          (.seq
           (.reg [⟨(.t 25), .mv (.x 1), none⟩,
             ⟨(.t 26), .call 14 [(.t 25)], none⟩,
             ⟨(.t 24), .mv (.t 26), none⟩,
             ⟨(.t 27), .ext (.t 24) 0, none⟩,
             ⟨(.t 28), .ext (.t 24) 1, none⟩,
             ⟨(.x 7), .mv (.t 27), none⟩,
             ⟨(.x 8), .mv (.t 28), none⟩])
           (.seq
            (.reg [⟨(.t 29), .mv (.x 6), none⟩,
              ⟨(.t 30), .mv (.t 29), none⟩,
              ⟨(.t 31), .mv (.x 8), (some ((.t 30), true))⟩,
              ⟨(.x 32), .pick (.t 30) (.t 31) (.c (.bool false)), none⟩])
            (.cond (.x 32)
             (.seq
              (.reg [⟨(.t 33), .mv (.x 5), none⟩,
                ⟨(.t 34), .mv (.x 7), none⟩,
                ⟨(.t 35), .call 51 [(.t 33), (.t 34)], none⟩,
                ⟨(.t 36), .call 19 [(.t 35)], none⟩,
                ⟨(.x 4), .mv (.t 36), none⟩])
              .ret)
             .skip)))
          (.seq
           (.reg [⟨(.t 38), .mv (.x 0), none⟩,
             ⟨(.t 39), .mv (.x 1), none⟩,
             ⟨(.t 40), .call 26 [(.t 38), (.t 39)], none⟩,
             ⟨(.t 37), .mv (.t 40), none⟩,
             ⟨(.t 41), .ext (.t 37) 0, none⟩,
             ⟨(.t 42), .ext (.t 37) 1, none⟩,
             ⟨(.t 43), .ext (.t 37) 2, none⟩,
             ⟨(.t 9), .mv (.t 41), none⟩,
             ⟨(.x 10), .mv (.t 42), none⟩,
             ⟨(.t 11), .mv (.t 43), none⟩])
           (.reg [⟨(.t 44), .mv (.x 1), none⟩,
             ⟨(.t 45), .mv (.x 10), none⟩,
             ⟨(.x 0), .mv (.t 44), none⟩,
             ⟨(.x 1), .mv (.t 45), none⟩]))))))))
    (.seq
     (.reg [⟨(.t 46), .mv (.x 0), none⟩,
       ⟨(.t 47), .call 44 [(.t 46)], none⟩,
       ⟨(.x 4), .mv (.t 47), none⟩])
     .ret))))
def resnGcd : List RV := [.t 4]
theorem nbnGcd : fnnGcd.nb = 0 := rfl
theorem isnGcd : IsFn fnnGcd 33 codenGcd resnGcd := ⟨⟨Try.f33, _, Try.func33, rfl, rfl, by kernel_rfl, by kernel_rfl, by kernel_rfl⟩⟩

/-- robuststats/natural.Power -/
noncomputable def fnnPower : FnD := ⟨Try.prog, [0, 1, 4, 5, 11, 13, 14, 15], [], 21, 0, false⟩
def codenPower : DC :=
 (.seq
  (.reg [⟨(.x 4), .mv (.c .nils), none⟩])
  (.seq
   (.seq
    (.reg [⟨(.t 6), .mv (.x 1), none⟩,
      ⟨(.t 7), .bin .lss (.t 6) (.c (.int .i64 0)), none⟩,
      ⟨(.t 8), .mv (.t 7), none⟩,
      ⟨(.t 9), .mv (.x 1), (some ((.t 8), false))⟩,
      ⟨(.t 10), .bin .gtr (.t 9) (.c (.int .i64 64)), (some ((.t 8), false))⟩,
      ⟨(.x 11), .pick (.t 8) (.c (.bool true)) (.t 10), none⟩])
    (.cond (.x 11)
     (.seq
      (.reg [⟨(.x 4), .mv (.c .nils), none⟩])
      .ret)
     .skip))
   (.seq
    (.reg [⟨(.t 12), .bsl 1 [(.int .u32 0)] [(0, 1, (.c (.int .u32 1)))], none⟩,
      ⟨(.x 5), .mv (.t 12), none⟩])
    (.seq
     (.seq
      (.reg [⟨(.x 13), .mv (.x 1), none⟩,
        ⟨(.x 14), .mv (.c (.int .i64 0)), none⟩])
      (.block 0
       (.loop
        (.seq
         (.reg [⟨(.x 15), .bin .lss (.x 14) (.x 13), none⟩])
         (.seq
          (.cond (.x 15)
           .skip
           (.exit 0))
          (.seq
           (.block 1
            (.reg [⟨(.t 16), .mv (.x 5), none⟩,
              ⟨(.t 17), .mv (.x 0), none⟩,
              ⟨(.t 18), .call 25 [(.t 16), (.t 17)], none⟩,
              ⟨(.x 5), .mv (.t 18), none⟩]))
           (.reg [⟨(.t 19), .bin .add (.x 14) (.c (.int .i64 1)), none⟩,
             ⟨(.x 14), .mv (.t 19), none⟩])))))))
     (.seq
      (.reg [⟨(.t 20), .mv (.x 5), none⟩,
        ⟨(.x 4), .mv (.t 20), none⟩])
      .ret)))))
def resnPower : List RV := [.t 4]
theorem nbnPower : fnnPower.nb = 0 := rfl
theorem isnPower : IsFn fnnPower 30 codenPower resnPower := ⟨⟨Try.f30, _, Try.func30, rfl, rfl, by kernel_rfl, by kernel_rfl, by kernel_rfl⟩⟩

/-- math/bits.Sub32 -/
noncomputable def fnSub32 : FnD := ⟨Try.prog, [0, 1, 2, 6, 7], [], 25, 0, false⟩
def codeSub32 : DC :=
 (.seq
  (.reg [⟨(.x 6), .mv (.c (.int .u32 0)), none⟩,
    ⟨(.x 7), .mv (.c (.int .u32 0)), none⟩])
  (.seq
   (.reg [⟨(.t 8), .mv (.x 0), none⟩,
     ⟨(.t 9), .mv (.x 1), none⟩,
     ⟨(.t 10), .bin .sub (.t 8) (.t 9), none⟩,
     ⟨(.t 11), .mv (.x 2), none⟩,
     ⟨(.t 12), .bin .sub (.t 10) (.t 11), none⟩,
     ⟨(.x 6), .mv (.t 12), none⟩])
   (.seq
    (.reg [⟨(.t 13), .mv (.x 0), none⟩,
      ⟨(.t 14), .un .xor (.t 13), none⟩,
      ⟨(.t 15), .mv (.x 1), none⟩,
      ⟨(.t 16), .bin .and (.t 14) (.t 15), none⟩,
      ⟨(.t 17), .mv (.x 0), none⟩,
      ⟨(.t 18), .mv (.x 1), none⟩,
      ⟨(.t 19), .bin .xor (.t 17) (.t 18), none⟩,
      ⟨(.t 20), .un .xor (.t 19), none⟩,
      ⟨(.t 21), .mv (.x 6), none⟩,
      ⟨(.t 22), .bin .and (.t 20) (.t 21), none⟩,
      ⟨(.t 23), .bin .or (.t 16) (.t 22), none⟩,
      ⟨(.t 24), .bin .shr (.t 23) (.c (.int .u64 31)), none⟩,
      ⟨(.x 7), .mv (.t 24), none⟩])
    .ret)))
def resSub32 : List RV := [.t 6, .t 7]
theorem nbSub32 : fnSub32.nb = 0 := rfl
theorem isSub32 : IsFn fnSub32 48 codeSub32 resSub32 := ⟨⟨Try.f48, _, Try.func48, rfl, rfl, by kernel_rfl, by kernel_rfl, by kernel_rfl⟩⟩

/-- math/bits.Div32 -/
noncomputable def fnDiv32 : FnD := ⟨Try.prog, [0, 1, 2, 6, 7, 8, 15], [], 33, 0, false⟩
def codeDiv32 : DC :=
 (.seq
  (.reg [⟨(.x 6), .mv (.c (.int .u32 0)), none⟩,
    ⟨(.x 7), .mv (.c (.int .u32 0)), none⟩])
  (.seq
   (.seq
    (.reg [⟨(.t 9), .mv (.x 2), none⟩,
      ⟨(.t 10), .bin .neq (.t 9) (.c (.int .u32 0)), none⟩,
      ⟨(.t 11), .mv (.t 10), none⟩,
      ⟨(.t 12), .mv (.x 2), (some ((.t 11), true))⟩,
      ⟨(.t 13), .mv (.x 0), (some ((.t 11), true))⟩,
      ⟨(.t 14), .bin .leq (.t 12) (.t 13), (some ((.t 11), true))⟩,
      ⟨(.x 15), .pick (.t 11) (.t 14) (.c (.bool false)), none⟩])
    (.cond (.x 15)
     (.reg [⟨(.t 16), .ld (.c .undef), none⟩,
       ⟨.no, .pan (.t 16), none⟩])
     .skip))
   (.seq
    (.reg [⟨(.t 17), .mv (.x 0), none⟩,
      ⟨(.t 18), .conv .u64 (.t 17), none⟩,
      ⟨(.t 19), .bin .shl (.t 18) (.c (.int .u64 32)), none⟩,
      ⟨(.t 20), .mv (.x 1), none⟩,
      ⟨(.t 21), .conv .u64 (.t 20), none⟩,
      ⟨(.t 22), .bin .or (.t 19) (.t 21), none⟩,
      ⟨(.x 8), .mv (.t 22), none⟩])
    (.seq
     (.regd [⟨(.t 23), .mv (.x 8), none⟩,
       ⟨(.t 24), .mv (.x 2), none⟩,
       ⟨(.t 25), .conv .u64 (.t 24), none⟩,
       ⟨(.t 26), .bin .quo (.t 23) (.t 25), none⟩,
       ⟨(.t 27), .conv .u32 (.t 26), none⟩,
       ⟨(.t 28), .mv (.x 8), none⟩,
       ⟨(.t 29), .mv (.x 2), none⟩,
       ⟨(.t 30), .conv .u64 (.t 29), none⟩,
       ⟨(.t 31), .bin .rem (.t 28) (.t 30), none⟩,
       ⟨(.t 32), .conv .u32 (.t 31), none⟩,
       ⟨(.x 6), .mv (.t 27), none⟩,
       ⟨(.x 7), .mv (.t 32), none⟩])
     .ret))))
def resDiv32 : List RV := [.t 6, .t 7]
theorem nbDiv32 : fnDiv32.nb = 0 := rfl
theorem isDiv32 : IsFn fnDiv32 54 codeDiv32 resDiv32 := ⟨⟨Try.f54, _, Try.func54, rfl, rfl, by kernel_rfl, by kernel_rfl, by kernel_rfl⟩⟩

/-- math/bits.LeadingZeros32 -/
noncomputable def fnLz32 : FnD := ⟨Try.prog, [0, 2], [], 6, 0, false⟩
def codeLz32 : DC :=
 (.seq
  (.reg [⟨(.x 2), .mv (.c (.int .i64 0)), none⟩])
  (.seq
   (.reg [⟨(.t 3), .mv (.x 0), none⟩,
     ⟨(.t 4), .call 59 [(.t 3)], none⟩,
     ⟨(.t 5), .bin .sub (.c (.int .i64 32)) (.t 4), none⟩,
     ⟨(.x 2), .mv (.t 5), none⟩])
   .ret))
def resLz32 : List RV := [.t 2]
theorem nbLz32 : fnLz32.nb = 0 := rfl
theorem isLz32 : IsFn fnLz32 47 codeLz32 resLz32 := ⟨⟨Try.f47, _, Try.func47, rfl, rfl, by kernel_rfl, by kernel_rfl, by kernel_rfl⟩⟩

/-- math/bits.Len32 -/
noncomputable def fnLen32 : FnD := ⟨Try.prog, [0, 2, 4, 8], [], 19, 0, false⟩
def codeLen32 : DC :=
 (.seq
  (.reg [⟨(.x 2), .mv (.c (.int .i64 0)), none⟩])
  (.seq
   (.seq
    (.reg [⟨(.t 3), .mv (.x 0), none⟩,
      ⟨(.x 4), .bin .geq (.t 3) (.c (.int .u32 65536)), none⟩])
    (.cond (.x 4)
     (.seq
      (.reg [⟨(.t 5), .mv (.x 0), none⟩,
        ⟨(.t 6), .bin .shr (.t 5) (.c (.int .u64 16)), none⟩,
        ⟨(.x 0), .mv (.t 6), none⟩])
      (.reg [⟨(.x 2), .mv (.c (.int .i64 16)), none⟩]))
     .skip))
   (.seq
    (.seq
     (.reg [⟨(.t 7), .mv (.x 0), none⟩,
       ⟨(.x 8), .bin .geq (.t 7) (.c (.int .u32 256)), none⟩])
     (.cond (.x 8)
      (.seq
       (.reg [⟨(.t 9), .mv (.x 0), none⟩,
         ⟨(.t 10), .bin .shr (.t 9) (.c (.int .u64 8)), none⟩,
         ⟨(.x 0), .mv (.t 10), none⟩])
       (.reg [⟨(.t 11), .mv (.x 2), none⟩,
         ⟨(.t 12), .bin .add (.t 11) (.c (.int .i64 8)), none⟩,
         ⟨(.x 2), .mv (.t 12), none⟩]))
      .skip))
    (.seq
     (.reg [⟨(.t 13), .mv (.x 2), none⟩,
       ⟨(.t 14), .mv (.x 0), none⟩,
       ⟨(.t 15), .conv .u8 (.t 14), none⟩,
       ⟨(.t 16), .idx (.c (.str [0, 1, 2, 2, 3, 3, 3, 3, 4, 4, 4, 4, 4, 4, 4, 4, 5, 5, 5, 5, 5, 5, 5, 5, 5, 5, 5, 5, 5, 5, 5, 5, 6, 6, 6, 6, 6, 6, 6, 6, 6, 6, 6, 6, 6, 6, 6, 6, 6, 6, 6, 6, 6, 6, 6, 6, 6, 6, 6, 6, 6, 6, 6, 6, 7, 7, 7, 7, 7, 7, 7, 7, 7, 7, 7, 7, 7, 7, 7, 7, 7, 7, 7, 7, 7, 7, 7, 7, 7, 7, 7, 7, 7, 7, 7, 7, 7, 7, 7, 7, 7, 7, 7, 7, 7, 7, 7, 7, 7, 7, 7, 7, 7, 7, 7, 7, 7, 7, 7, 7, 7, 7, 7, 7, 7, 7, 7, 7, 8, 8, 8, 8, 8, 8, 8, 8, 8, 8, 8, 8, 8, 8, 8, 8, 8, 8, 8, 8, 8, 8, 8, 8, 8, 8, 8, 8, 8, 8, 8, 8, 8, 8, 8, 8, 8, 8, 8, 8, 8, 8, 8, 8, 8, 8, 8, 8, 8, 8, 8, 8, 8, 8, 8, 8, 8, 8, 8, 8, 8, 8, 8, 8, 8, 8, 8, 8, 8, 8, 8, 8, 8, 8, 8, 8, 8, 8, 8, 8, 8, 8, 8, 8, 8, 8, 8, 8, 8, 8, 8, 8, 8, 8, 8, 8, 8, 8, 8, 8, 8, 8, 8, 8, 8, 8, 8, 8, 8, 8, 8, 8, 8, 8, 8, 8, 8, 8, 8, 8, 8, 8, 8, 8, 8, 8, 8, 8])) (.t 15), none⟩,
       ⟨(.t 17), .conv .i64 (.t 16), none⟩,
       ⟨(.t 18), .bin .add (.t 13) (.t 17), none⟩,
       ⟨(.x 2), .mv (.t 18), none⟩])
     .ret))))
def resLen32 : List RV := [.t 2]
theorem nbLen32 : fnLen32.nb = 0 := rfl
theorem isLen32 : IsFn fnLen32 59 codeLen32 resLen32 := ⟨⟨Try.f59, _, Try.func59, rfl, rfl, by kernel_rfl, by kernel_rfl, by kernel_rfl⟩⟩

/-- slices.Clone[[]uint32,uint32] -/
noncomputable def fnClone : FnD := ⟨Try.prog, [0, 2, 4], [], 8, 0, false⟩
def codeClone : DC :=
 (.seq
  (.reg [⟨(.x 2), .mv (.c .nils), none⟩])
  (.seq
   (.seq
    .bad
    (.cond (.x 4)
     (.seq
      (.reg [⟨(.x 2), .mv (.c .nils), none⟩])
      .ret)
     .skip))
   (.seq
    (.reg [⟨(.t 5), .bsl 1 [] [], none⟩,
      ⟨(.t 6), .mv (.x 0), none⟩,
      ⟨(.t 7), .app 1 4 (.t 5) (.t 6), none⟩,
      ⟨(.x 2), .mv (.t 7), none⟩])
    .ret)))
def resClone : List RV := [.t 2]
theorem nbClone : fnClone.nb = 0 := rfl
theorem isClone : IsFn fnClone 44 codeClone resClone := ⟨⟨Try.f44, _, Try.func44, rfl, rfl, by kernel_rfl, by kernel_rfl, by kernel_rfl⟩⟩

/-- robuststats/robuststatsref01.Valid -/
noncomputable def fnrValid : FnD := ⟨Try.prog, [0, 2], [], 15, 0, false⟩
def coderValid : DC :=
 (.seq
  (.reg [⟨(.x 2), .mv (.c (.bool false)), none⟩])
  (.seq
   (.reg [⟨(.t 3), .mv (.x 0), none⟩,
     ⟨(.t 4), .len 1 (.t 3), none⟩,
     ⟨(.t 5), .bin .eql (.t 4) (.c (.int .i64 0)), none⟩,
     ⟨(.t 6), .mv (.t 5), none⟩,
     ⟨(.t 7), .mv (.x 0), (some ((.t 6), false))⟩,
     ⟨(.t 8), .mv (.x 0), (some ((.t 6), false))⟩,
     ⟨(.t 9), .len 1 (.t 8), (some ((.t 6), false))⟩,
     ⟨(.t 10), .bin .sub (.t 9) (.c (.int .i64 1)), (some ((.t 6), false))⟩,
     ⟨(.t 11), .iad 1 (.t 7) (.t 10), (some ((.t 6), false))⟩,
     ⟨(.t 12), .ld (.t 11), (some ((.t 6), false))⟩,
     ⟨(.t 13), .bin .neq (.t 12) (.c (.int .u32 0)), (some ((.t 6), false))⟩,
     ⟨(.t 14), .pick (.t 6) (.c (.bool true)) (.t 13), none⟩,
     ⟨(.x 2), .mv (.t 14), none⟩])
   .ret))
def resrValid : List RV := [.t 2]
theorem nbrValid : fnrValid.nb = 0 := rfl
theorem isrValid : IsFn fnrValid 17 coderValid resrValid := ⟨⟨Try.f17, _, Try.func17, rfl, rfl, by kernel_rfl, by kernel_rfl, by kernel_rfl⟩⟩

/-- robuststats/robuststatsref01.Take -/
noncomputable def fnrTake : FnD := ⟨Try.prog, [0, 2, 5], [], 8, 0, false⟩
def coderTake : DC :=
 (.seq
  (.reg [⟨(.x 2), .mv (.c .nils), none⟩])
  (.seq
   (.seq
    (.reg [⟨(.t 3), .mv (.x 0), none⟩,
      ⟨(.t 4), .call 17 [(.t 3)], none⟩,
      ⟨(.x 5), .un .not (.t 4), none⟩])
    (.cond (.x 5)
     (.seq
      (.reg [⟨(.x 2), .mv (.c .nils), none⟩])
      .ret)
     .skip))
   (.seq
    (.reg [⟨(.t 6), .mv (.x 0), none⟩,
      ⟨(.t 7), .app 1 4 (.c .nils) (.t 6), none⟩,
      ⟨(.x 2), .mv (.t 7), none⟩])
    .ret)))
def resrTake : List RV := [.t 2]
theorem nbrTake : fnrTake.nb = 0 := rfl
theorem isrTake : IsFn fnrTake 39 coderTake resrTake := ⟨⟨Try.f39, _, Try.func39, rfl, rfl, by kernel_rfl, by kernel_rfl, by kernel_rfl⟩⟩

/-- robuststats/robuststatsref01.trim -/
noncomputable def fnrTrim : FnD := ⟨Try.prog, [0, 2, 14], [], 21, 0, false⟩
def coderTrim : DC :=
 (.seq
  (.reg [⟨(.x 2), .mv (.c .nils), none⟩])
  (.seq
   (.block 0
    (.loop
     (.seq
      (.seq
       (.reg [⟨(.t 3), .mv (.x 0), none⟩,
         ⟨(.t 4), .len 1 (.t 3), none⟩,
         ⟨(.t 5), .bin .gtr (.t 4) (.c (.int .i64 0)), none⟩,
         ⟨(.t 6), .mv (.t 5), none⟩,
         ⟨(.t 7), .mv (.x 0), (some ((.t 6), true))⟩,
         ⟨(.t 8), .mv (.x 0), (some ((.t 6), true))⟩,
         ⟨(.t 9), .len 1 (.t 8), (some ((.t 6), true))⟩,
         ⟨(.t 10), .bin .sub (.t 9) (.c (.int .i64 1)), (some ((.t 6), true))⟩,
         ⟨(.t 11), .iad 1 (.t 7) (.t 10), (some ((.t 6), true))⟩,
         ⟨(.t 12), .ld (.t 11), (some ((.t 6), true))⟩,
         ⟨(.t 13), .bin .eql (.t 12) (.c (.int .u32 0)), (some ((.t 6), true))⟩,
         ⟨(.x 14), .pick (.t 6) (.t 13) (.c (.bool false)), none⟩])
       (.cond (.x 14)
        .skip
        (.exit 0)))
      (.block 1
       (.reg [⟨(.t 15), .mv (.x 0), none⟩,
         ⟨(.t 16), .mv (.x 0), none⟩,
         ⟨(.t 17), .len 1 (.t 16), none⟩,
         ⟨(.t 18), .bin .sub (.t 17) (.c (.int .i64 1)), none⟩,
         ⟨(.t 19), .slc 1 (.t 15) none (some (.t 18)), none⟩,
         ⟨(.x 0), .mv (.t 19), none⟩])))))
   (.seq
    (.reg [⟨(.t 20), .mv (.x 0), none⟩,
      ⟨(.x 2), .mv (.t 20), none⟩])
    .ret)))
def resrTrim : List RV := [.t 2]
theorem nbrTrim : fnrTrim.nb = 0 := rfl
theorem isrTrim : IsFn fnrTrim 41 coderTrim resrTrim := ⟨⟨Try.f41, _, Try.func41, rfl, rfl, by kernel_rfl, by kernel_rfl, by kernel_rfl⟩⟩

/-- robuststats/robuststatsref01.FromUint -/
noncomputable def fnrFromUint : FnD := ⟨Try.prog, [0, 2], [], 10, 0, false⟩
def coderFromUint : DC :=
 (.seq
  (.reg [⟨(.x 2), .mv (.c .nils), none⟩])
  (.seq
   (.reg [⟨(.t 3), .mv (.x 0), none⟩,
     ⟨(.t 4), .conv .u32 (.t 3), none⟩,
     ⟨(.t 5), .mv (.x 0), none⟩,
     ⟨(.t 6), .bin .shr (.t 5) (.c (.int .u64 32)), none⟩,
     ⟨(.t 7), .conv .u32 (.t 6), none⟩,
     ⟨(.t 8), .bsl 1 [(.int .u32 0), (.int .u32 0)] [(0, 1, (.t 4)), (1, 1, (.t 7))], none⟩,
     ⟨(.t 9), .call 41 [(.t 8)], none⟩,
     ⟨(.x 2), .mv (.t 9), none⟩])
   .ret))
def resrFromUint : List RV := [.t 2]
theorem nbrFromUint : fnrFromUint.nb = 0 := rfl
theorem isrFromUint : IsFn fnrFromUint 20 coderFromUint resrFromUint := ⟨⟨Try.f20, _, Try.func20, rfl, rfl, by kernel_rfl, by kernel_rfl, by kernel_rfl⟩⟩

/-- robuststats/robuststatsref01.Uint -/
noncomputable def fnrUint : FnD := ⟨Try.prog, [0, 2, 3, 4, 5, 10, 15], [], 27, 0, false⟩
def coderUint : DC :=
 (.seq
  (.reg [⟨(.x 2), .mv (.c (.int .u64 0)), none⟩,
    ⟨(.x 3), .mv (.c (.bool false)), none⟩])
  (.seq
   (.reg [⟨(.t 6), .mv (.x 0), none⟩,
     ⟨(.t 7), .call 39 [(.t 6)], none⟩,
     ⟨(.x 0), .mv (.t 7), none⟩])
   (.seq
    (.seq
     (.reg [⟨(.t 8), .mv (.x 0), none⟩,
       ⟨(.t 9), .len 1 (.t 8), none⟩,
       ⟨(.x 10), .bin .gtr (.t 9) (.c (.int .i64 2)), none⟩])
     (.cond (.x 10)
      (.seq
       (.reg [⟨(.x 2), .mv (.c (.int .u64 0)), none⟩,
         ⟨(.x 3), .mv (.c (.bool false)), none⟩])
       .ret)
      .skip))
    (.seq
     (.reg [⟨(.x 4), .mv (.c (.int .u64 0)), none⟩])
     (.seq
      (.seq
       (.reg [⟨(.t 11), .mv (.x 0), none⟩,
         ⟨(.t 12), .len 1 (.t 11), none⟩,
         ⟨(.t 13), .bin .sub (.t 12) (.c (.int .i64 1)), none⟩,
         ⟨(.x 5), .mv (.t 13), none⟩])
       (.block 0
        (.loop
         (.seq
          (.seq
           (.reg [⟨(.t 14), .mv (.x 5), none⟩,
             ⟨(.x 15), .bin .geq (.t 14) (.c (.int .i64 0)), none⟩])
           (.cond (.x 15)
            .skip
            (.exit 0)))
          (.seq
           (.block 1
            (.reg [⟨(.t 18), .mv (.x 4), none⟩,
              ⟨(.t 19), .bin .shl (.t 18) (.c (.int .u64 32)), none⟩,
              ⟨(.t 20), .mv (.x 0), none⟩,
              ⟨(.t 21), .mv (.x 5), none⟩,
              ⟨(.t 22), .iad 1 (.t 20) (.t 21), none⟩,
              ⟨(.t 23), .ld (.t 22), none⟩,
              ⟨(.t 24), .conv .u64 (.t 23), none⟩,
              ⟨(.t 25), .bin .or (.t 19) (.t 24), none⟩,
              ⟨(.x 4), .mv (.t 25), none⟩]))
           (.reg [⟨(.t 16), .mv (.x 5), none⟩,
             ⟨(.t 17), .bin .sub (.t 16) (.c (.int .i64 1)), none⟩,
             ⟨(.x 5), .mv (.t 17), none⟩]))))))
      (.seq
       (.reg [⟨(.t 26), .mv (.x 4), none⟩,
         ⟨(.x 2), .mv (.t 26), none⟩,
         ⟨(.x 3), .mv (.c (.bool true)), none⟩])
       .ret))))))
def resrUint : List RV := [.t 2, .t 3]
theorem nbrUint : fnrUint.nb = 0 := rfl
theorem isrUint : IsFn fnrUint 15 coderUint resrUint := ⟨⟨Try.f15, _, Try.func15, rfl, rfl, by kernel_rfl, by kernel_rfl, by kernel_rfl⟩⟩

/-- robuststats/robuststatsref01.compare -/
noncomputable def fnrcmp : FnD := ⟨Try.prog, [0, 1, 4, 5, 10, 15, 20, 31, 40], [], 41, 0, false⟩
def codercmp : DC :=
 (.seq
  (.reg [⟨(.x 4), .mv (.c (.int .i64 0)), none⟩])
  (.seq
   (.seq
    (.reg [⟨(.t 6), .mv (.x 0), none⟩,
      ⟨(.t 7), .len 1 (.t 6), none⟩,
      ⟨(.t 8), .mv (.x 1), none⟩,
      ⟨(.t 9), .len 1 (.t 8), none⟩,
      ⟨(.x 10), .bin .neq (.t 7) (.t 9), none⟩])
    (.cond (.x 10)
     (.seq
      (.seq
       (.reg [⟨(.t 11), .mv (.x 0), none⟩,
         ⟨(.t 12), .len 1 (.t 11), none⟩,
         ⟨(.t 13), .mv (.x 1), none⟩,
         ⟨(.t 14), .len 1 (.t 13), none⟩,
         ⟨(.x 15), .bin .lss (.t 12) (.t 14), none⟩])
       (.cond (.x 15)
        (.seq
         (.reg [⟨(.x 4), .mv (.c (.int .i64 (-1))), none⟩])
         .ret)
        .skip))
      (.seq
       (.reg [⟨(.x 4), .mv (.c (.int .i64 1)), none⟩])
       .ret))
     .skip))
   (.seq
    (.seq
     (.reg [⟨(.t 16), .mv (.x 0), none⟩,
       ⟨(.t 17), .len 1 (.t 16), none⟩,
       ⟨(.t 18), .bin .sub (.t 17) (.c (.int .i64 1)), none⟩,
       ⟨(.x 5), .mv (.t 18), none⟩])
     (.block 0
      (.loop
       (.seq
        (.seq
         (.reg [⟨(.t 19), .mv (.x 5), none⟩,
           ⟨(.x 20), .bin .geq (.t 19) (.c (.int .i64 0)), none⟩])
         (.cond (.x 20)
          .skip
          (.exit 0)))
        (.seq
         (.block 1
          (.seq
           (.seq
            (.regd [⟨(.t 23), .mv (.x 0), none⟩,
              ⟨(.t 24), .mv (.x 5), none⟩,
              ⟨(.t 25), .iad 1 (.t 23) (.t 24), none⟩,
              ⟨(.t 26), .ld (.t 25), none⟩,
              ⟨(.t 27), .mv (.x 1), none⟩,
              ⟨(.t 28), .mv (.x 5), none⟩,
              ⟨(.t 29), .iad 1 (.t 27) (.t 28), none⟩,
              ⟨(.t 30), .ld (.t 29), none⟩,
              ⟨(.x 31), .bin .lss (.t 26) (.t 30), none⟩])
            (.cond (.x 31)
             (.seq
              (.reg [⟨(.x 4), .mv (.c (.int .i64 (-1))), none⟩])
              .ret)
             .skip))
           (.seq
            (.regd [⟨(.t 32), .mv (.x 0), none⟩,
              ⟨(.t 33), .mv (.x 5), none⟩,
              ⟨(.t 34), .iad 1 (.t 32) (.t 33), none⟩,
              ⟨(.t 35), .ld (.t 34), none⟩,
              ⟨(.t 36), .mv (.x 1), none⟩,
              ⟨(.t 37), .mv (.x 5), none⟩,
              ⟨(.t 38), .iad 1 (.t 36) (.t 37), none⟩,
              ⟨(.t 39), .ld (.t 38), none⟩,
              ⟨(.x 40), .bin .gtr (.t 35) (.t 39), none⟩])
            (.cond (.x 40)
             (.seq
              (.reg [⟨(.x 4), .mv (.c (.int .i64 1)), none⟩])
              .ret)
             .skip))))
         (.reg [⟨(.t 21), .mv (.x 5), none⟩,
           ⟨(.t 22), .bin .sub (.t 21) (.c (.int .i64 1)), none⟩,
           ⟨(.x 5), .mv (.t 22), none⟩]))))))
    (.seq
     (.reg [⟨(.x 4), .mv (.c (.int .i64 0)), none⟩])
     .ret))))
def resrcmp : List RV := [.t 4]
theorem nbrcmp : fnrcmp.nb = 0 := rfl
theorem isrcmp : IsFn fnrcmp 42 codercmp resrcmp := ⟨⟨Try.f42, _, Try.func42, rfl, rfl, by kernel_rfl, by kernel_rfl, by kernel_rfl⟩⟩

/-- robuststats/robuststatsref01.Compare -/
noncomputable def fnrCmp : FnD := ⟨Try.prog, [0, 1, 4], [], 10, 0, false⟩
def coderCmp : DC :=
 (.seq
  (.reg [⟨(.x 4), .mv (.c (.int .i64 0)), none⟩])
  (.seq
   (.reg [⟨(.t 5), .mv (.x 0), none⟩,
     ⟨(.t 6), .call 39 [(.t 5)], none⟩,
     ⟨(.t 7), .mv (.x 1), none⟩,
     ⟨(.t 8), .call 39 [(.t 7)], none⟩,
     ⟨(.t 9), .call 42 [(.t 6), (.t 8)], none⟩,
     ⟨(.x 4), .mv (.t 9), none⟩])
   .ret))
def resrCmp : List RV := [.t 4]
theorem nbrCmp : fnrCmp.nb = 0 := rfl
theorem isrCmp : IsFn fnrCmp 22 coderCmp resrCmp := ⟨⟨Try.f22, _, Try.func22, rfl, rfl, by kernel_rfl, by kernel_rfl, by kernel_rfl⟩⟩

/-- robuststats/robuststatsref01.limb -/
noncomputable def fnrLimb : FnD := ⟨Try.prog, [0, 1, 4, 8], [], 14, 0, false⟩
def coderLimb : DC :=
 (.seq
  (.reg [⟨(.x 4), .mv (.c (.int .u64 0)), none⟩])
  (.seq
   (.seq
    (.reg [⟨(.t 5), .mv (.x 1), none⟩,
      ⟨(.t 6), .mv (.x 0), none⟩,
      ⟨(.t 7), .len 1 (.t 6), none⟩,
      ⟨(.x 8), .bin .geq (.t 5) (.t 7), none⟩])
    (.cond (.x 8)
     (.seq
      (.reg [⟨(.x 4), .mv (.c (.int .u64 0)), none⟩])
      .ret)
     .skip))
   (.seq
    (.reg [⟨(.t 9), .mv (.x 0), none⟩,
      ⟨(.t 10), .mv (.x 1), none⟩,
      ⟨(.t 11), .iad 1 (.t 9) (.t 10), none⟩,
      ⟨(.t 12), .ld (.t 11), none⟩,
      ⟨(.t 13), .conv .u64 (.t 12), none⟩,
      ⟨(.x 4), .mv (.t 13), none⟩])
    .ret)))
def resrLimb : List RV := [.t 4]
theorem nbrLimb : fnrLimb.nb = 0 := rfl
theorem isrLimb : IsFn fnrLimb 52 coderLimb resrLimb := ⟨⟨Try.f52, _, Try.func52, rfl, rfl, by kernel_rfl, by kernel_rfl, by kernel_rfl⟩⟩

/-- robuststats/robuststatsref01.Add -/
noncomputable def fnrAdd : FnD := ⟨Try.prog, [0, 1, 4, 5, 6, 7, 8, 19], [], 40, 0, false⟩
def coderAdd : DC :=
 (.seq
  (.reg [⟨(.x 4), .mv (.c .nils), none⟩])
  (.seq
   (.reg [⟨(.t 9), .mv (.x 0), none⟩,
     ⟨(.t 10), .call 39 [(.t 9)], none⟩,
     ⟨(.t 11), .mv (.x 1), none⟩,
     ⟨(.t 12), .call 39 [(.t 11)], none⟩,
     ⟨(.x 0), .mv (.t 10), none⟩,
     ⟨(.x 1), .mv (.t 12), none⟩])
   (.seq
    (.reg [⟨(.x 5), .mv (.c .nils), none⟩])
    (.seq
     (.reg [⟨(.x 6), .mv (.c (.int .u64 0)), none⟩])
     (.seq
      (.seq
       (.reg [⟨(.x 7), .mv (.c (.int .i64 0)), none⟩])
       (.block 0
        (.loop
         (.seq
          (.seq
           (.reg [⟨(.t 13), .mv (.x 7), none⟩,
             ⟨(.t 14), .mv (.x 0), none⟩,
             ⟨(.t 15), .len 1 (.t 14), none⟩,
             ⟨(.t 16), .mv (.x 1), none⟩,
             ⟨(.t 17), .len 1 (.t 16), none⟩,
             ⟨(.t 18), .max2 (.t 15) (.t 17), none⟩,
             ⟨(.x 19), .bin .leq (.t 13) (.t 18), none⟩])
           (.cond (.x 19)
            .skip
            (.exit 0)))
          (.seq
           (.block 1
            (.seq
             (.reg [⟨(.t 22), .mv (.x 0), none⟩,
               ⟨(.t 23), .mv (.x 7), none⟩,
               ⟨(.t 24), .call 52 [(.t 22), (.t 23)], none⟩,
               ⟨(.t 25), .mv (.x 1), none⟩,
               ⟨(.t 26), .mv (.x 7), none⟩,
               ⟨(.t 27), .call 52 [(.t 25), (.t 26)], none⟩,
               ⟨(.t 28), .bin .add (.t 24) (.t 27), none⟩,
               ⟨(.t 29), .mv (.x 6), none⟩,
               ⟨(.t 30), .bin .add (.t 28) (.t 29), none⟩,
               ⟨(.x 8), .mv (.t 30), none⟩])
             (.reg [⟨(.t 31), .mv (.x 5), none⟩,
               ⟨(.t 32), .mv (.x 8), none⟩,
               ⟨(.t 33), .conv .u32 (.t 32), none⟩,
               ⟨(.t 34), .bsl 1 [(.int .u32 0)] [(0, 1, (.t 33))], none⟩,
               ⟨(.t 35), .app 1 4 (.t 31) (.t 34), none⟩,
               ⟨(.t 36), .mv (.x 8), none⟩,
               ⟨(.t 37), .bin .shr (.t 36) (.c (.int .u64 32)), none⟩,
               ⟨(.x 5), .mv (.t 35), none⟩,
               ⟨(.x 6), .mv (.t 37), none⟩])))
           (.reg [⟨(.t 20), .mv (.x 7), none⟩,
             ⟨(.t 21), .bin .add (.t 20) (.c (.int .i64 1)), none⟩,
             ⟨(.x 7), .mv (.t 21), none⟩]))))))
      (.seq
       (.reg [⟨(.t 38), .mv (.x 5), none⟩,
         ⟨(.t 39), .call 41 [(.t 38)], none⟩,
         ⟨(.x 4), .mv (.t 39), none⟩])
       .ret))))))
def resrAdd : List RV := [.t 4]
theorem nbrAdd : fnrAdd.nb = 0 := rfl
theorem isrAdd : IsFn fnrAdd 36 coderAdd resrAdd := ⟨⟨Try.f36, _, Try.func36, rfl, rfl, by kernel_rfl, by kernel_rfl, by kernel_rfl⟩⟩

/-- robuststats/robuststatsref01.Sub -/
noncomputable def fnrSub : FnD := ⟨Try.prog, [0, 1, 4, 5, 6, 7, 8, 9, 17, 21], [], 44, 0, false⟩
def coderSub : DC :=
 (.seq
  (.reg [⟨(.x 4), .mv (.c .nils), none⟩,
    ⟨(.x 5), .mv (.c (.bool false)), none⟩])
  (.seq
   (.reg [⟨(.t 10), .mv (.x 0), none⟩,
     ⟨(.t 11), .call 39 [(.t 10)], none⟩,
     ⟨(.t 12), .mv (.x 1), none⟩,
     ⟨(.t 13), .call 39 [(.t 12)], none⟩,
     ⟨(.x 0), .mv (.t 11), none⟩,
     ⟨(.x 1), .mv (.t 13), none⟩])
   (.seq
    (.seq
     (.reg [⟨(.t 14), .mv (.x 0), none⟩,
       ⟨(.t 15), .mv (.x 1), none⟩,
       ⟨(.t 16), .call 42 [(.t 14), (.t 15)], none⟩,
       ⟨(.x 17), .bin .lss (.t 16) (.c (.int .i64 0)), none⟩])
     (.cond (.x 17)
      (.seq
       (.reg [⟨(.x 4), .mv (.c .nils), none⟩,
         ⟨(.x 5), .mv (.c (.bool false)), none⟩])
       .ret)
      .skip))
    (.seq
     (.reg [⟨(.x 6), .mv (.c .nils), none⟩])
     (.seq
      (.reg [⟨(.x 7), .mv (.c (.int .u64 0)), none⟩])
      (.seq
       (.seq
        (.reg [⟨(.x 8), .mv (.c (.int .i64 0)), none⟩])
        (.block 0
         (.loop
          (.seq
           (.seq
            (.reg [⟨(.t 18), .mv (.x 8), none⟩,
              ⟨(.t 19), .mv (.x 0), none⟩,
              ⟨(.t 20), .len 1 (.t 19), none⟩,
              ⟨(.x 21), .bin .lss (.t 18) (.t 20), none⟩])
            (.cond (.x 21)
             .skip
             (.exit 0)))
           (.seq
            (.block 1
             (.seq
              (.reg [⟨(.t 24), .mv (.x 0), none⟩,
                ⟨(.t 25), .mv (.x 8), none⟩,
                ⟨(.t 26), .call 52 [(.t 24), (.t 25)], none⟩,
                ⟨(.t 27), .bin .add (.t 26) (.c (.int .u64 4294967296)), none⟩,
                ⟨(.t 28), .mv (.x 1), none⟩,
                ⟨(.t 29), .mv (.x 8), none⟩,
                ⟨(.t 30), .call 52 [(.t 28), (.t 29)], none⟩,
                ⟨(.t 31), .bin .sub (.t 27) (.t 30), none⟩,
                ⟨(.t 32), .mv (.x 7), none⟩,
                ⟨(.t 33), .bin .sub (.t 31) (.t 32), none⟩,
                ⟨(.x 9), .mv (.t 33), none⟩])
              (.reg [⟨(.t 34), .mv (.x 6), none⟩,
                ⟨(.t 35), .mv (.x 9), none⟩,
                ⟨(.t 36), .conv .u32 (.t 35), none⟩,
                ⟨(.t 37), .bsl 1 [(.int .u32 0)] [(0, 1, (.t 36))], none⟩,
                ⟨(.t 38), .app 1 4 (.t 34) (.t 37), none⟩,
                ⟨(.t 39), .mv (.x 9), none⟩,
                ⟨(.t 40), .bin .shr (.t 39) (.c (.int .u64 32)), none⟩,
                ⟨(.t 41), .bin .sub (.c (.int .u64 1)) (.t 40), none⟩,
                ⟨(.x 6), .mv (.t 38), none⟩,
                ⟨(.x 7), .mv (.t 41), none⟩])))
            (.reg [⟨(.t 22), .mv (.x 8), none⟩,
              ⟨(.t 23), .bin .add (.t 22) (.c (.int .i64 1)), none⟩,
              ⟨(.x 8), .mv (.t 23), none⟩]))))))
       (.seq
        (.reg [⟨(.t 42), .mv (.x 6), none⟩,
          ⟨(.t 43), .call 41 [(.t 42)], none⟩,
          ⟨(.x 4), .mv (.t 43), none⟩,
          ⟨(.x 5), .mv (.c (.bool true)), none⟩])
        .ret)))))))
def resrSub : List RV := [.t 4, .t 5]
theorem nbrSub : fnrSub.nb = 0 := rfl
theorem isrSub : IsFn fnrSub 35 coderSub resrSub := ⟨⟨Try.f35, _, Try.func35, rfl, rfl, by kernel_rfl, by kernel_rfl, by kernel_rfl⟩⟩

/-- robuststats/robuststatsref01.times -/
noncomputable def fnrTimes : FnD := ⟨Try.prog, [0, 1, 2, 6, 7, 8, 9, 10, 16], [], 36, 0, false⟩
def coderTimes : DC :=
 (.seq
  (.reg [⟨(.x 6), .mv (.c .nils), none⟩])
  (.seq
   (.reg [⟨(.t 11), .mv (.x 2), none⟩,
     ⟨(.t 12), .mks 1 4 [(.int .u32 0)] (.t 11) (.t 11), none⟩,
     ⟨(.x 7), .mv (.t 12), none⟩])
   (.seq
    (.reg [⟨(.x 8), .mv (.c (.int .u64 0)), none⟩])
    (.seq
     (.seq
      (.reg [⟨(.x 9), .mv (.c (.int .i64 0)), none⟩])
      (.block 0
       (.loop
        (.seq
         (.seq
          (.reg [⟨(.t 13), .mv (.x 9), none⟩,
            ⟨(.t 14), .mv (.x 0), none⟩,
            ⟨(.t 15), .len 1 (.t 14), none⟩,
            ⟨(.x 16), .bin .leq (.t 13) (.t 15), none⟩])
          (.cond (.x 16)
           .skip
           (.exit 0)))
         (.seq
          (.block 1
           (.seq
            (.reg [⟨(.t 19), .mv (.x 0), none⟩,
              ⟨(.t 20), .mv (.x 9), none⟩,
              ⟨(.t 21), .call 52 [(.t 19), (.t 20)], none⟩,
              ⟨(.t 22), .mv (.x 1), none⟩,
              ⟨(.t 23), .conv .u64 (.t 22), none⟩,
              ⟨(.t 24), .bin .mul (.t 21) (.t 23), none⟩,
              ⟨(.t 25), .mv (.x 8), none⟩,
              ⟨(.t 26), .bin .add (.t 24) (.t 25), none⟩,
              ⟨(.x 10), .mv (.t 26), none⟩])
            (.reg [⟨(.t 27), .mv (.x 7), none⟩,
              ⟨(.t 28), .mv (.x 10), none⟩,
              ⟨(.t 29), .conv .u32 (.t 28), none⟩,
              ⟨(.t 30), .bsl 1 [(.int .u32 0)] [(0, 1, (.t 29))], none⟩,
              ⟨(.t 31), .app 1 4 (.t 27) (.t 30), none⟩,
              ⟨(.t 32), .mv (.x 10), none⟩,
              ⟨(.t 33), .bin .shr (.t 32) (.c (.int .u64 32)), none⟩,
              ⟨(.x 7), .mv (.t 31), none⟩,
              ⟨(.x 8), .mv (.t 33), none⟩])))
          (.reg [⟨(.t 17), .mv (.x 9), none⟩,
            ⟨(.t 18), .bin .add (.t 17) (.c (.int .i64 1)), none⟩,
            ⟨(.x 9), .mv (.t 18), none⟩]))))))
     (.seq
      (.reg [⟨(.t 34), .mv (.x 7), none⟩,
        ⟨(.t 35), .call 41 [(.t 34)], none⟩,
        ⟨(.x 6), .mv (.t 35), none⟩])
      .ret)))))
def resrTimes : List RV := [.t 6]
theorem nbrTimes : fnrTimes.nb = 0 := rfl
theorem isrTimes : IsFn fnrTimes 53 coderTimes resrTimes := ⟨⟨Try.f53, _, Try.func53, rfl, rfl, by kernel_rfl, by kernel_rfl, by kernel_rfl⟩⟩

/-- robuststats/robuststatsref01.Mul -/
noncomputable def fnrMul : FnD := ⟨Try.prog, [0, 1, 4, 5, 6, 14], [], 27, 0, false⟩
def coderMul : DC :=
 (.seq
  (.reg [⟨(.x 4), .mv (.c .nils), none⟩])
  (.seq
   (.reg [⟨(.t 7), .mv (.x 0), none⟩,
     ⟨(.t 8), .call 39 [(.t 7)], none⟩,
     ⟨(.t 9), .mv (.x 1), none⟩,
     ⟨(.t 10), .call 39 [(.t 9)], none⟩,
     ⟨(.x 0), .mv (.t 8), none⟩,
     ⟨(.x 1), .mv (.t 10), none⟩])
   (.seq
    (.reg [⟨(.x 5), .mv (.c .nils), none⟩])
    (.seq
     (.seq
      (.reg [⟨(.x 6), .mv (.c (.int .i64 0)), none⟩])
      (.block 0
       (.loop
        (.seq
         (.seq
          (.reg [⟨(.t 11), .mv (.x 6), none⟩,
            ⟨(.t 12), .mv (.x 1), none⟩,
            ⟨(.t 13), .len 1 (.t 12), none⟩,
            ⟨(.x 14), .bin .lss (.t 11) (.t 13), none⟩])
          (.cond (.x 14)
           .skip
           (.exit 0)))
         (.seq
          (.block 1
           (.reg [⟨(.t 17), .mv (.x 5), none⟩,
             ⟨(.t 18), .mv (.x 0), none⟩,
             ⟨(.t 19), .mv (.x 1), none⟩,
             ⟨(.t 20), .mv (.x 6), none⟩,
             ⟨(.t 21), .iad 1 (.t 19) (.t 20), none⟩,
             ⟨(.t 22), .ld (.t 21), none⟩,
             ⟨(.t 23), .mv (.x 6), none⟩,
             ⟨(.t 24), .call 53 [(.t 18), (.t 22), (.t 23)], none⟩,
             ⟨(.t 25), .call 36 [(.t 17), (.t 24)], none⟩,
             ⟨(.x 5), .mv (.t 25), none⟩]))
          (.reg [⟨(.t 15), .mv (.x 6), none⟩,
            ⟨(.t 16), .bin .add (.t 15) (.c (.int .i64 1)), none⟩,
            ⟨(.x 6), .mv (.t 16), none⟩]))))))
     (.seq
      (.reg [⟨(.t 26), .mv (.x 5), none⟩,
        ⟨(.x 4), .mv (.t 26), none⟩])
      .ret)))))
def resrMul : List RV := [.t 4]
theorem nbrMul : fnrMul.nb = 0 := rfl
theorem isrMul : IsFn fnrMul 37 coderMul resrMul := ⟨⟨Try.f37, _, Try.func37, rfl, rfl, by kernel_rfl, by kernel_rfl, by kernel_rfl⟩⟩

/-- robuststats/robuststatsref01.bit -/
noncomputable def fnrBit : FnD := ⟨Try.prog, [0, 1, 4], [], 15, 0, false⟩
def coderBit : DC :=
 (.seq
  (.reg [⟨(.x 4), .mv (.c (.int .u32 0)), none⟩])
  (.seq
   (.reg [⟨(.t 5), .mv (.x 0), none⟩,
     ⟨(.t 6), .mv (.x 1), none⟩,
     ⟨(.t 7), .bin .quo (.t 6) (.c (.int .i64 32)), none⟩,
     ⟨(.t 8), .iad 1 (.t 5) (.t 7), none⟩,
     ⟨(.t 9), .ld (.t 8), none⟩,
     ⟨(.t 10), .mv (.x 1), none⟩,
     ⟨(.t 11), .bin .rem (.t 10) (.c (.int .i64 32)), none⟩,
     ⟨(.t 12), .conv .u64 (.t 11), none⟩,
     ⟨(.t 13), .bin .shr (.t 9) (.t 12), none⟩,
     ⟨(.t 14), .bin .and (.t 13) (.c (.int .u32 1)), none⟩,
     ⟨(.x 4), .mv (.t 14), none⟩])
   .ret))
def resrBit : List RV := [.t 4]
theorem nbrBit : fnrBit.nb = 0 := rfl
theorem isrBit : IsFn fnrBit 50 coderBit resrBit := ⟨⟨Try.f50, _, Try.func50, rfl, rfl, by kernel_rfl, by kernel_rfl, by kernel_rfl⟩⟩

/-- robuststats/robuststatsref01.double -/
noncomputable def fnrDouble : FnD := ⟨Try.prog, [0, 1, 4, 5, 9], [], 14, 0, false⟩
def coderDouble : DC :=
 (.seq
  (.reg [⟨(.x 4), .mv (.c .nils), none⟩])
  (.seq
   (.reg [⟨(.t 6), .mv (.x 0), none⟩,
     ⟨(.t 7), .call 53 [(.t 6), (.c (.int .u32 2)), (.c (.int .i64 0))], none⟩,
     ⟨(.x 5), .mv (.t 7), none⟩])
   (.seq
    (.seq
     (.reg [⟨(.t 8), .mv (.x 1), none⟩,
       ⟨(.x 9), .bin .eql (.t 8) (.c (.int .u32 1)), none⟩])
     (.cond (.x 9)
      (.reg [⟨(.t 10), .mv (.x 5), none⟩,
        ⟨(.t 11), .bsl 1 [(.int .u32 0)] [(0, 1, (.c (.int .u32 1)))], none⟩,
        ⟨(.t 12), .call 36 [(.t 10), (.t 11)], none⟩,
        ⟨(.x 5), .mv (.t 12), none⟩])
      .skip))
    (.seq
     (.reg [⟨(.t 13), .mv (.x 5), none⟩,
       ⟨(.x 4), .mv (.t 13), none⟩])
     .ret))))
def resrDouble : List RV := [.t 4]
theorem nbrDouble : fnrDouble.nb = 0 := rfl
theorem isrDouble : IsFn fnrDouble 49 coderDouble resrDouble := ⟨⟨Try.f49, _, Try.func49, rfl, rfl, by kernel_rfl, by kernel_rfl, by kernel_rfl⟩⟩

/-- robuststats/robuststatsref01.Div -/
noncomputable def fnrDiv : FnD := ⟨Try.prog, [0, 1, 4, 5, 6, 7, 8, 9, 10, 11, 18, 24, 38], [], 46, 0, false⟩
def coderDiv : DC :=
 (.seq
  (.reg [⟨(.x 4), .mv (.c .nils), none⟩,
    ⟨(.x 5), .mv (.c .nils), none⟩,
    ⟨(.x 6), .mv (.c (.bool false)), none⟩])
  (.seq
   (.reg [⟨(.t 12), .mv (.x 0), none⟩,
     ⟨(.t 13), .call 39 [(.t 12)], none⟩,
     ⟨(.t 14), .mv (.x 1), none⟩,
     ⟨(.t 15), .call 39 [(.t 14)], none⟩,
     ⟨(.x 0), .mv (.t 13), none⟩,
     ⟨(.x 1), .mv (.t 15), none⟩])
   (.seq
    (.seq
     (.reg [⟨(.t 16), .mv (.x 1), none⟩,
       ⟨(.t 17), .len 1 (.t 16), none⟩,
       ⟨(.x 18), .bin .eql (.t 17) (.c (.int .i64 0)), none⟩])
     (.cond (.x 18)
      (.seq
       (.reg [⟨(.x 4), .mv (.c .nils), none⟩,
         ⟨(.x 5), .mv (.c .nils), none⟩,
         ⟨(.x 6), .mv (.c (.bool false)), none⟩])
       .ret)
      .skip))
    (.seq
     (.reg [⟨(.x 7), .mv (.c .nils), none⟩,
       ⟨(.x 8), .mv (.c .nils), none⟩])
     (.seq
      (.seq
       (.reg [⟨(.t 19), .mv (.x 0), none⟩,
         ⟨(.t 20), .len 1 (.t 19), none⟩,
         ⟨(.t 21), .bin .mul (.c (.int .i64 32)) (.t 20), none⟩,
         ⟨(.t 22), .bin .sub (.t 21) (.c (.int .i64 1)), none⟩,
         ⟨(.x 9), .mv (.t 22), none⟩])
       (.block 0
        (.loop
         (.seq
          (.seq
           (.reg [⟨(.t 23), .mv (.x 9), none⟩,
             ⟨(.x 24), .bin .geq (.t 23) (.c (.int .i64 0)), none⟩])
           (.cond (.x 24)
            .skip
            (.exit 0)))
          (.seq
           (.block 1
            (.seq
             (.reg [⟨(.t 27), .mv (.x 8), none⟩,
               ⟨(.t 28), .mv (.x 0), none⟩,
               ⟨(.t 29), .mv (.x 9), none⟩,
               ⟨(.t 30), .call 50 [(.t 28), (.t 29)], none⟩,
               ⟨(.t 31), .call 49 [(.t 27), (.t 30)], none⟩,
               ⟨(.x 8), .mv (.t 31), none⟩])
             (.seq
              (.reg [⟨(.t 33), .mv (.x 8), none⟩,
                ⟨(.t 34), .mv (.x 1), none⟩,
                ⟨(.t 35), .call 35 [(.t 33), (.t 34)], none⟩,
                ⟨(.t 32), .mv (.t 35), none⟩,
                ⟨(.t 36), .ext (.t 32) 0, none⟩,
                ⟨(.t 37), .ext (.t 32) 1, none⟩,
                ⟨(.x 10), .mv (.t 36), none⟩,
                ⟨(.x 11), .mv (.t 37), none⟩])
              (.seq
               (.reg [⟨(.x 38), .mv (.x 11), none⟩])
               (.cond (.x 38)
                (.reg [⟨(.t 39), .mv (.x 10), none⟩,
                  ⟨(.t 40), .mv (.x 7), none⟩,
                  ⟨(.t 41), .call 49 [(.t 40), (.c (.int .u32 1))], none⟩,
                  ⟨(.x 8), .mv (.t 39), none⟩,
                  ⟨(.x 7), .mv (.t 41), none⟩])
                (.reg [⟨(.t 42), .mv (.x 7), none⟩,
                  ⟨(.t 43), .call 49 [(.t 42), (.c (.int .u32 0))], none⟩,
                  ⟨(.x 7), .mv (.t 43), none⟩]))))))
           (.reg [⟨(.t 25), .mv (.x 9), none⟩,
             ⟨(.t 26), .bin .sub (.t 25) (.c (.int .i64 1)), none⟩,
             ⟨(.x 9), .mv (.t 26), none⟩]))))))
      (.seq
       (.reg [⟨(.t 44), .mv (.x 7), none⟩,
         ⟨(.t 45), .mv (.x 8), none⟩,
         ⟨(.x 4), .mv (.t 44), none⟩,
         ⟨(.x 5), .mv (.t 45), none⟩,
         ⟨(.x 6), .mv (.c (.bool true)), none⟩])
       .ret))))))
def resrDiv : List RV := [.t 4, .t 5, .t 6]
theorem nbrDiv : fnrDiv.nb = 0 := rfl
theorem isrDiv : IsFn fnrDiv 32 coderDiv resrDiv := ⟨⟨Try.f32, _, Try.func32, rfl, rfl, by kernel_rfl, by kernel_rfl, by kernel_rfl⟩⟩

/-- robuststats/robuststatsref01.Gcd -/
noncomputable def fnrGcd : FnD := ⟨Try.prog, [0, 1, 4, 6, 14], [], 25, 0, false⟩
def coderGcd : DC :=
 (.seq
  (.reg [⟨(.x 4), .mv (.c .nils), none⟩])
  (.seq
   (.reg [⟨(.t 8), .mv (.x 0), none⟩,
     ⟨(.t 9), .call 39 [(.t 8)], none⟩,
     ⟨(.t 10), .mv (.x 1), none⟩,
     ⟨(.t 11), .call 39 [(.t 10)], none⟩,
     ⟨(.x 0), .mv (.t 9), none⟩,
     ⟨(.x 1), .mv (.t 11), none⟩])
   (.seq
    (.block 0
     (.loop
      (.seq
       (.seq
        (.reg [⟨(.t 12), .mv (.x 1), none⟩,
          ⟨(.t 13), .len 1 (.t 12), none⟩,
          ⟨(.x 14), .bin .gtr (.t 13) (.c (.int .i64 0)), none⟩])
        (.cond (.x 14)
         .skip
         (.exit 0)))
       (.block 1
        (.seq
         (.reg [⟨(.t 16), .mv (.x 0), none⟩,
           ⟨(.t 17), .mv (.x 1), none⟩,
           ⟨(.t 18), .call 32 [(.t 16), (.t 17)], none⟩,
           ⟨(.t 15), .mv (.t 18), none⟩,
           ⟨(.t 19), .ext (.t 15) 0, none⟩,
           ⟨(.t 20), .ext (.t 15) 1, none⟩,
           ⟨(.t 21), .ext (.t 15) 2, none⟩,
           ⟨(.t 5), .mv (.t 19), none⟩,
           ⟨(.x 6), .mv (.t 20), none⟩,
           ⟨(.t 7), .mv (.t 21), none⟩])
         (.reg [⟨(.t 22), .mv (.x 1), none⟩,
           ⟨(.t 23), .mv (.x 6), none⟩,
           ⟨(.x 0), .mv (.t 22), none⟩,
           ⟨(.x 1), .mv (.t 23), none⟩]))))))
    (.seq
     (.reg [⟨(.t 24), .mv (.x 0), none⟩,
       ⟨(.x 4), .mv (.t 24), none⟩])
     .ret))))
def resrGcd : List RV := [.t 4]
theorem nbrGcd : fnrGcd.nb = 0 := rfl
theorem isrGcd : IsFn fnrGcd 34 coderGcd resrGcd := ⟨⟨Try.f34, _, Try.func34, rfl, rfl, by kernel_rfl, by kernel_rfl, by kernel_rfl⟩⟩

/-- robuststats/robuststatsref01.Root -/
noncomputable def fnrRoot : FnD := ⟨Try.prog, [0, 2, 3, 4, 5, 25, 32], [], 35, 0, false⟩
def coderRoot : DC :=
 (.seq
  (.reg [⟨(.x 2), .mv (.c .nils), none⟩])
  (.seq
   (.reg [⟨(.t 8), .mv (.x 0), none⟩,
     ⟨(.t 9), .call 39 [(.t 8)], none⟩,
     ⟨(.x 0), .mv (.t 9), none⟩])
   (.seq
    (.reg [⟨(.x 3), .mv (.c .nils), none⟩])
    (.seq
     (.reg [⟨(.t 10), .mv (.x 0), none⟩,
       ⟨(.t 11), .bsl 1 [(.int .u32 0)] [(0, 1, (.c (.int .u32 1)))], none⟩,
       ⟨(.t 12), .call 36 [(.t 10), (.t 11)], none⟩,
       ⟨(.x 4), .mv (.t 12), none⟩])
     (.block 0
      (.loop
       (.block 1
        (.seq
         (.reg [⟨(.t 14), .mv (.x 3), none⟩,
           ⟨(.t 15), .mv (.x 4), none⟩,
           ⟨(.t 16), .call 36 [(.t 14), (.t 15)], none⟩,
           ⟨(.t 17), .bsl 1 [(.int .u32 0)] [(0, 1, (.c (.int .u32 2)))], none⟩,
           ⟨(.t 18), .call 32 [(.t 16), (.t 17)], none⟩,
           ⟨(.t 13), .mv (.t 18), none⟩,
           ⟨(.t 19), .ext (.t 13) 0, none⟩,
           ⟨(.t 20), .ext (.t 13) 1, none⟩,
           ⟨(.t 21), .ext (.t 13) 2, none⟩,
           ⟨(.x 5), .mv (.t 19), none⟩,
           ⟨(.t 6), .mv (.t 20), none⟩,
           ⟨(.t 7), .mv (.t 21), none⟩])
         (.seq
          (.seq
           (.reg [⟨(.t 22), .mv (.x 5), none⟩,
             ⟨(.t 23), .mv (.x 3), none⟩,
             ⟨(.t 24), .call 42 [(.t 22), (.t 23)], none⟩,
             ⟨(.x 25), .bin .eql (.t 24) (.c (.int .i64 0)), none⟩])
           (.cond (.x 25)
            (.seq
             (.reg [⟨(.t 26), .mv (.x 3), none⟩,
               ⟨(.x 2), .mv (.t 26), none⟩])
             .ret)
            .skip))
          (.seq
           (.reg [⟨(.t 27), .mv (.x 5), none⟩,
             ⟨(.t 28), .mv (.x 5), none⟩,
             ⟨(.t 29), .call 37 [(.t 27), (.t 28)], none⟩,
             ⟨(.t 30), .mv (.x 0), none⟩,
             ⟨(.t 31), .call 42 [(.t 29), (.t 30)], none⟩,
             ⟨(.x 32), .bin .leq (.t 31) (.c (.int .i64 0)), none⟩])
           (.cond (.x 32)
            (.reg [⟨(.t 33), .mv (.x 5), none⟩,
              ⟨(.x 3), .mv (.t 33), none⟩])
            (.reg [⟨(.t 34), .mv (.x 5), none⟩,
              ⟨(.x 4), .mv (.t 34), none⟩]))))))))))))
def resrRoot : List RV := [.t 2]
theorem nbrRoot : fnrRoot.nb = 0 := rfl
theorem isrRoot : IsFn fnrRoot 29 coderRoot resrRoot := ⟨⟨Try.f29, _, Try.func29, rfl, rfl, by kernel_rfl, by kernel_rfl, by kernel_rfl⟩⟩

/-- robuststats/robuststatsref01.Power -/
noncomputable def fnrPower : FnD := ⟨Try.prog, [0, 1, 4, 5, 6, 12, 16], [], 23, 0, false⟩
def coderPower : DC :=
 (.seq
  (.reg [⟨(.x 4), .mv (.c .nils), none⟩])
  (.seq
   (.seq
    (.reg [⟨(.t 7), .mv (.x 1), none⟩,
      ⟨(.t 8), .bin .lss (.t 7) (.c (.int .i64 0)), none⟩,
      ⟨(.t 9), .mv (.t 8), none⟩,
      ⟨(.t 10), .mv (.x 1), (some ((.t 9), false))⟩,
      ⟨(.t 11), .bin .gtr (.t 10) (.c (.int .i64 64)), (some ((.t 9), false))⟩,
      ⟨(.x 12), .pick (.t 9) (.c (.bool true)) (.t 11), none⟩])
    (.cond (.x 12)
     (.seq
      (.reg [⟨(.x 4), .mv (.c .nils), none⟩])
      .ret)
     .skip))
   (.seq
    (.reg [⟨(.t 13), .bsl 1 [(.int .u32 0)] [(0, 1, (.c (.int .u32 1)))], none⟩,
      ⟨(.x 5), .mv (.t 13), none⟩])
    (.seq
     (.seq
      (.reg [⟨(.x 6), .mv (.c (.int .i64 0)), none⟩])
      (.block 0
       (.loop
        (.seq
         (.seq
          (.reg [⟨(.t 14), .mv (.x 6), none⟩,
            ⟨(.t 15), .mv (.x 1), none⟩,
            ⟨(.x 16), .bin .lss (.t 14) (.t 15), none⟩])
          (.cond (.x 16)
           .skip
           (.exit 0)))
         (.seq
          (.block 1
           (.reg [⟨(.t 19), .mv (.x 5), none⟩,
             ⟨(.t 20), .mv (.x 0), none⟩,
             ⟨(.t 21), .call 37 [(.t 19), (.t 20)], none⟩,
             ⟨(.x 5), .mv (.t 21), none⟩]))
          (.reg [⟨(.t 17), .mv (.x 6), none⟩,
            ⟨(.t 18), .bin .add (.t 17) (.c (.int .i64 1)), none⟩,
            ⟨(.x 6), .mv (.t 18), none⟩]))))))
     (.seq
      (.reg [⟨(.t 22), .mv (.x 5), none⟩,
        ⟨(.x 4), .mv (.t 22), none⟩])
      .ret)))))
def resrPower : List RV := [.t 4]
theorem nbrPower : fnrPower.nb = 0 := rfl
theorem isrPower : IsFn fnrPower 31 coderPower resrPower := ⟨⟨Try.f31, _, Try.func31, rfl, rfl, by kernel_rfl, by kernel_rfl, by kernel_rfl⟩⟩

/-- robuststats/robuststatsref01.Same -/
noncomputable def fnrSame : FnD := ⟨Try.prog, [0, 1, 4, 5, 10, 14, 25], [], 26, 0, false⟩
def coderSame : DC :=
 (.seq
  (.reg [⟨(.x 4), .mv (.c (.bool false)), none⟩])
  (.seq
   (.seq
    (.reg [⟨(.t 6), .mv (.x 0), none⟩,
      ⟨(.t 7), .len 1 (.t 6), none⟩,
      ⟨(.t 8), .mv (.x 1), none⟩,
      ⟨(.t 9), .len 1 (.t 8), none⟩,
      ⟨(.x 10), .bin .neq (.t 7) (.t 9), none⟩])
    (.cond (.x 10)
     (.seq
      (.reg [⟨(.x 4), .mv (.c (.bool false)), none⟩])
      .ret)
     .skip))
   (.seq
    (.seq
     (.reg [⟨(.x 5), .mv (.c (.int .i64 0)), none⟩])
     (.block 0
      (.loop
       (.seq
        (.seq
         (.reg [⟨(.t 11), .mv (.x 5), none⟩,
           ⟨(.t 12), .mv (.x 0), none⟩,
           ⟨(.t 13), .len 1 (.t 12), none⟩,
           ⟨(.x 14), .bin .lss (.t 11) (.t 13), none⟩])
         (.cond (.x 14)
          .skip
          (.exit 0)))
        (.seq
         (.block 1
          (.seq
           (.regd [⟨(.t 17), .mv (.x 0), none⟩,
             ⟨(.t 18), .mv (.x 5), none⟩,
             ⟨(.t 19), .iad 1 (.t 17) (.t 18), none⟩,
             ⟨(.t 20), .ld (.t 19), none⟩,
             ⟨(.t 21), .mv (.x 1), none⟩,
             ⟨(.t 22), .mv (.x 5), none⟩,
             ⟨(.t 23), .iad 1 (.t 21) (.t 22), none⟩,
             ⟨(.t 24), .ld (.t 23), none⟩,
             ⟨(.x 25), .bin .neq (.t 20) (.t 24), none⟩])
           (.cond (.x 25)
            (.seq
             (.reg [⟨(.x 4), .mv (.c (.bool false)), none⟩])
             .ret)
            .skip)))
         (.reg [⟨(.t 15), .mv (.x 5), none⟩,
           ⟨(.t 16), .bin .add (.t 15) (.c (.int .i64 1)), none⟩,
           ⟨(.x 5), .mv (.t 16), none⟩]))))))
    (.seq
     (.reg [⟨(.x 4), .mv (.c (.bool true)), none⟩])
     .ret))))
def resrSame : List RV := [.t 4]
theorem nbrSame : fnrSame.nb = 0 := rfl
theorem isrSame : IsFn fnrSame 18 coderSame resrSame := ⟨⟨Try.f18, _, Try.func18, rfl, rfl, by kernel_rfl, by kernel_rfl, by kernel_rfl⟩⟩

/-- robuststats/robuststatslaw01.awake -/
noncomputable def fnawake : FnD := ⟨Try.prog, [0, 1, 2, 3], [], 33, 0, false⟩
def codeawake : DC :=
 (.seq
  (.reg [⟨(.x 0), .mv (.c (.bool false)), none⟩])
  (.seq
   (.reg [⟨(.t 5), .bsl 1 [(.int .u32 0)] [(0, 1, (.c (.int .u32 7)))], none⟩,
     ⟨(.t 6), .bsl 1 [(.int .u32 0)] [(0, 1, (.c (.int .u32 2)))], none⟩,
     ⟨(.t 7), .call 26 [(.t 5), (.t 6)], none⟩,
     ⟨(.t 4), .mv (.t 7), none⟩,
     ⟨(.t 8), .ext (.t 4) 0, none⟩,
     ⟨(.t 9), .ext (.t 4) 1, none⟩,
     ⟨(.t 10), .ext (.t 4) 2, none⟩,
     ⟨(.x 1), .mv (.t 8), none⟩,
     ⟨(.x 2), .mv (.t 9), none⟩,
     ⟨(.x 3), .mv (.t 10), none⟩])
   (.seq
    (.reg [⟨(.t 11), .mv (.x 3), none⟩,
      ⟨(.t 12), .mv (.t 11), none⟩,
      ⟨(.t 13), .call 19 [(.c (.int .u64 4294967296))], (some ((.t 12), true))⟩,
      ⟨(.t 14), .bsl 1 [(.int .u32 0), (.int .u32 0)] [(0, 1, (.c (.int .u32 0))), (1, 1, (.c (.int .u32 1)))], (some ((.t 12), true))⟩,
      ⟨(.t 15), .call 18 [(.t 13), (.t 14)], (some ((.t 12), true))⟩,
      ⟨(.t 16), .pick (.t 12) (.t 15) (.c (.bool false)), none⟩,
      ⟨(.t 17), .mv (.t 16), none⟩,
      ⟨(.t 18), .bsl 1 [(.int .u32 0)] [(0, 1, (.c (.int .u32 99)))], (some ((.t 17), true))⟩,
      ⟨(.t 19), .call 27 [(.t 18)], (some ((.t 17), true))⟩,
      ⟨(.t 20), .bsl 1 [(.int .u32 0)] [(0, 1, (.c (.int .u32 9)))], (some ((.t 17), true))⟩,
      ⟨(.t 21), .call 18 [(.t 19), (.t 20)], (some ((.t 17), true))⟩,
      ⟨(.t 22), .pick (.t 17) (.t 21) (.c (.bool false)), none⟩,
      ⟨(.t 23), .mv (.t 22), none⟩,
      ⟨(.t 24), .mv (.x 1), (some ((.t 23), true))⟩,
      ⟨(.t 25), .bsl 1 [(.int .u32 0)] [(0, 1, (.c (.int .u32 3)))], (some ((.t 23), true))⟩,
      ⟨(.t 26), .call 18 [(.t 24), (.t 25)], (some ((.t 23), true))⟩,
      ⟨(.t 27), .pick (.t 23) (.t 26) (.c (.bool false)), none⟩,
      ⟨(.t 28), .mv (.t 27), none⟩,
      ⟨(.t 29), .mv (.x 2), (some ((.t 28), true))⟩,
      ⟨(.t 30), .bsl 1 [(.int .u32 0)] [(0, 1, (.c (.int .u32 1)))], (some ((.t 28), true))⟩,
      ⟨(.t 31), .call 18 [(.t 29), (.t 30)], (some ((.t 28), true))⟩,
      ⟨(.t 32), .pick (.t 28) (.t 31) (.c (.bool false)), none⟩,
      ⟨(.x 0), .mv (.t 32), none⟩])
    .ret)))
def resawake : List RV := [.t 0]
theorem nbawake : fnawake.nb = 0 := rfl
theorem isawake : IsFn fnawake 13 codeawake resawake := ⟨⟨Try.f13, _, Try.func13, rfl, rfl, by kernel_rfl, by kernel_rfl, by kernel_rfl⟩⟩

/-- robuststats/robuststatslaw01.light -/
noncomputable def fnlight : FnD := ⟨Try.prog, [0, 2], [], 6, 0, false⟩
def codelight : DC :=
 (.seq
  (.reg [⟨(.x 2), .mv (.c (.bool false)), none⟩])
  (.seq
   (.reg [⟨(.t 3), .mv (.x 0), none⟩,
     ⟨(.t 4), .len 1 (.t 3), none⟩,
     ⟨(.t 5), .bin .leq (.t 4) (.c (.int .i64 12)), none⟩,
     ⟨(.x 2), .mv (.t 5), none⟩])
   .ret))
def reslight : List RV := [.t 2]
theorem nblight : fnlight.nb = 0 := rfl
theorem islight : IsFn fnlight 12 codelight reslight := ⟨⟨Try.f12, _, Try.func12, rfl, rfl, by kernel_rfl, by kernel_rfl, by kernel_rfl⟩⟩

/-- robuststats/robuststatslaw01.fair -/
noncomputable def fnfair : FnD := ⟨Try.prog, [0, 1, 2, 6], [], 29, 0, false⟩
def codefair : DC :=
 (.seq
  (.reg [⟨(.x 6), .mv (.c (.bool false)), none⟩])
  (.seq
   (.reg [⟨(.t 7), .mv (.x 0), none⟩,
     ⟨(.t 8), .call 12 [(.t 7)], none⟩,
     ⟨(.t 9), .mv (.t 8), none⟩,
     ⟨(.t 10), .mv (.x 1), (some ((.t 9), true))⟩,
     ⟨(.t 11), .call 12 [(.t 10)], (some ((.t 9), true))⟩,
     ⟨(.t 12), .pick (.t 9) (.t 11) (.c (.bool false)), none⟩,
     ⟨(.t 13), .mv (.t 12), none⟩,
     ⟨(.t 14), .mv (.x 2), (some ((.t 13), true))⟩,
     ⟨(.t 15), .call 12 [(.t 14)], (some ((.t 13), true))⟩,
     ⟨(.t 16), .pick (.t 13) (.t 15) (.c (.bool false)), none⟩,
     ⟨(.t 17), .mv (.t 16), none⟩,
     ⟨(.t 18), .mv (.x 0), (some ((.t 17), true))⟩,
     ⟨(.t 19), .call 17 [(.t 18)], (some ((.t 17), true))⟩,
     ⟨(.t 20), .pick (.t 17) (.t 19) (.c (.bool false)), none⟩,
     ⟨(.t 21), .mv (.t 20), none⟩,
     ⟨(.t 22), .mv (.x 1), (some ((.t 21), true))⟩,
     ⟨(.t 23), .call 17 [(.t 22)], (some ((.t 21), true))⟩,
     ⟨(.t 24), .pick (.t 21) (.t 23) (.c (.bool false)), none⟩,
     ⟨(.t 25), .mv (.t 24), none⟩,
     ⟨(.t 26), .mv (.x 2), (some ((.t 25), true))⟩,
     ⟨(.t 27), .call 17 [(.t 26)], (some ((.t 25), true))⟩,
     ⟨(.t 28), .pick (.t 25) (.t 27) (.c (.bool false)), none⟩,
     ⟨(.x 6), .mv (.t 28), none⟩])
   .ret))
def resfair : List RV := [.t 6]
theorem nbfair : fnfair.nb = 0 := rfl
theorem isfair : IsFn fnfair 23 codefair resfair := ⟨⟨Try.f23, _, Try.func23, rfl, rfl, by kernel_rfl, by kernel_rfl, by kernel_rfl⟩⟩

/-- robuststats/robuststatslaw01.NaturalValues -/
noncomputable def fnlwValues : FnD := ⟨Try.prog, [0, 1, 2, 6, 7, 8, 9, 10, 18], [], 64, 0, false⟩
def codelwValues : DC :=
 (.seq
  (.reg [⟨(.x 6), .mv (.c (.bool false)), none⟩])
  (.seq
   (.seq
    (.reg [⟨(.t 11), .mv (.x 0), none⟩,
      ⟨(.t 12), .call 12 [(.t 11)], none⟩,
      ⟨(.t 13), .un .not (.t 12), none⟩,
      ⟨(.t 14), .mv (.t 13), none⟩,
      ⟨(.t 15), .mv (.x 1), (some ((.t 14), false))⟩,
      ⟨(.t 16), .call 12 [(.t 15)], (some ((.t 14), false))⟩,
      ⟨(.t 17), .un .not (.t 16), (some ((.t 14), false))⟩,
      ⟨(.x 18), .pick (.t 14) (.c (.bool true)) (.t 17), none⟩])
    (.cond (.x 18)
     (.seq
      (.reg [⟨(.t 19), .call 13 [], none⟩,
        ⟨(.x 6), .mv (.t 19), none⟩])
      .ret)
     .skip))
   (.seq
    (.reg [⟨(.t 21), .mv (.x 0), none⟩,
      ⟨(.t 22), .call 14 [(.t 21)], none⟩,
      ⟨(.t 20), .mv (.t 22), none⟩,
      ⟨(.t 23), .ext (.t 20) 0, none⟩,
      ⟨(.t 24), .ext (.t 20) 1, none⟩,
      ⟨(.x 7), .mv (.t 23), none⟩,
      ⟨(.x 8), .mv (.t 24), none⟩])
    (.seq
     (.reg [⟨(.t 26), .mv (.x 0), none⟩,
       ⟨(.t 27), .call 15 [(.t 26)], none⟩,
       ⟨(.t 25), .mv (.t 27), none⟩,
       ⟨(.t 28), .ext (.t 25) 0, none⟩,
       ⟨(.t 29), .ext (.t 25) 1, none⟩,
       ⟨(.x 9), .mv (.t 28), none⟩,
       ⟨(.x 10), .mv (.t 29), none⟩])
     (.seq
      (.reg [⟨(.t 30), .call 13 [], none⟩,
        ⟨(.t 31), .mv (.t 30), none⟩,
        ⟨(.t 32), .mv (.x 0), (some ((.t 31), true))⟩,
        ⟨(.t 33), .call 16 [(.t 32)], (some ((.t 31), true))⟩,
        ⟨(.t 34), .mv (.x 0), (some ((.t 31), true))⟩,
        ⟨(.t 35), .call 17 [(.t 34)], (some ((.t 31), true))⟩,
        ⟨(.t 36), .beq false (.t 33) (.t 35), (some ((.t 31), true))⟩,
        ⟨(.t 37), .pick (.t 31) (.t 36) (.c (.bool false)), none⟩,
        ⟨(.t 38), .mv (.t 37), none⟩,
        ⟨(.t 39), .mv (.x 2), (some ((.t 38), true))⟩,
        ⟨(.t 40), .call 19 [(.t 39)], (some ((.t 38), true))⟩,
        ⟨(.t 41), .mv (.x 2), (some ((.t 38), true))⟩,
        ⟨(.t 42), .call 20 [(.t 41)], (some ((.t 38), true))⟩,
        ⟨(.t 43), .call 18 [(.t 40), (.t 42)], (some ((.t 38), true))⟩,
        ⟨(.t 44), .pick (.t 38) (.t 43) (.c (.bool false)), none⟩,
        ⟨(.t 45), .mv (.t 44), none⟩,
        ⟨(.t 46), .mv (.x 7), (some ((.t 45), true))⟩,
        ⟨(.t 47), .mv (.x 9), (some ((.t 45), true))⟩,
        ⟨(.t 48), .bin .eql (.t 46) (.t 47), (some ((.t 45), true))⟩,
        ⟨(.t 49), .pick (.t 45) (.t 48) (.c (.bool false)), none⟩,
        ⟨(.t 50), .mv (.t 49), none⟩,
        ⟨(.t 51), .mv (.x 8), (some ((.t 50), true))⟩,
        ⟨(.t 52), .mv (.x 10), (some ((.t 50), true))⟩,
        ⟨(.t 53), .beq false (.t 51) (.t 52), (some ((.t 50), true))⟩,
        ⟨(.t 54), .pick (.t 50) (.t 53) (.c (.bool false)), none⟩,
        ⟨(.t 55), .mv (.t 54), none⟩,
        ⟨(.t 56), .mv (.x 0), (some ((.t 55), true))⟩,
        ⟨(.t 57), .mv (.x 1), (some ((.t 55), true))⟩,
        ⟨(.t 58), .call 21 [(.t 56), (.t 57)], (some ((.t 55), true))⟩,
        ⟨(.t 59), .mv (.x 0), (some ((.t 55), true))⟩,
        ⟨(.t 60), .mv (.x 1), (some ((.t 55), true))⟩,
        ⟨(.t 61), .call 22 [(.t 59), (.t 60)], (some ((.t 55), true))⟩,
        ⟨(.t 62), .bin .eql (.t 58) (.t 61), (some ((.t 55), true))⟩,
        ⟨(.t 63), .pick (.t 55) (.t 62) (.c (.bool false)), none⟩,
        ⟨(.x 6), .mv (.t 63), none⟩])
      .ret)))))
def reslwValues : List RV := [.t 6]
theorem nblwValues : fnlwValues.nb = 0 := rfl
theorem islwValues : IsFn fnlwValues 3 codelwValues reslwValues := ⟨⟨Try.f3, _, Try.func3, rfl, rfl, by kernel_rfl, by kernel_rfl, by kernel_rfl⟩⟩

/-- robuststats/robuststatslaw01.NaturalCalculates -/
noncomputable def fnlwCalc : FnD := ⟨Try.prog, [0, 1, 4, 5, 6, 7, 8, 16], [], 59, 0, false⟩
def codelwCalc : DC :=
 (.seq
  (.reg [⟨(.x 4), .mv (.c (.bool false)), none⟩])
  (.seq
   (.seq
    (.reg [⟨(.t 9), .mv (.x 0), none⟩,
      ⟨(.t 10), .call 12 [(.t 9)], none⟩,
      ⟨(.t 11), .un .not (.t 10), none⟩,
      ⟨(.t 12), .mv (.t 11), none⟩,
      ⟨(.t 13), .mv (.x 1), (some ((.t 12), false))⟩,
      ⟨(.t 14), .call 12 [(.t 13)], (some ((.t 12), false))⟩,
      ⟨(.t 15), .un .not (.t 14), (some ((.t 12), false))⟩,
      ⟨(.x 16), .pick (.t 12) (.c (.bool true)) (.t 15), none⟩])
    (.cond (.x 16)
     (.seq
      (.reg [⟨(.t 17), .call 13 [], none⟩,
        ⟨(.x 4), .mv (.t 17), none⟩])
      .ret)
     .skip))
   (.seq
    (.reg [⟨(.t 19), .mv (.x 0), none⟩,
      ⟨(.t 20), .mv (.x 1), none⟩,
      ⟨(.t 21), .call 28 [(.t 19), (.t 20)], none⟩,
      ⟨(.t 18), .mv (.t 21), none⟩,
      ⟨(.t 22), .ext (.t 18) 0, none⟩,
      ⟨(.t 23), .ext (.t 18) 1, none⟩,
      ⟨(.x 5), .mv (.t 22), none⟩,
      ⟨(.x 6), .mv (.t 23), none⟩])
    (.seq
     (.reg [⟨(.t 25), .mv (.x 0), none⟩,
       ⟨(.t 26), .mv (.x 1), none⟩,
       ⟨(.t 27), .call 35 [(.t 25), (.t 26)], none⟩,
       ⟨(.t 24), .mv (.t 27), none⟩,
       ⟨(.t 28), .ext (.t 24) 0, none⟩,
       ⟨(.t 29), .ext (.t 24) 1, none⟩,
       ⟨(.x 7), .mv (.t 28), none⟩,
       ⟨(.x 8), .mv (.t 29), none⟩])
     (.seq
      (.reg [⟨(.t 30), .call 13 [], none⟩,
        ⟨(.t 31), .mv (.t 30), none⟩,
        ⟨(.t 32), .mv (.x 0), (some ((.t 31), true))⟩,
        ⟨(.t 33), .mv (.x 1), (some ((.t 31), true))⟩,
        ⟨(.t 34), .call 24 [(.t 32), (.t 33)], (some ((.t 31), true))⟩,
        ⟨(.t 35), .mv (.x 0), (some ((.t 31), true))⟩,
        ⟨(.t 36), .mv (.x 1), (some ((.t 31), true))⟩,
        ⟨(.t 37), .call 36 [(.t 35), (.t 36)], (some ((.t 31), true))⟩,
        ⟨(.t 38), .call 18 [(.t 34), (.t 37)], (some ((.t 31), true))⟩,
        ⟨(.t 39), .pick (.t 31) (.t 38) (.c (.bool false)), none⟩,
        ⟨(.t 40), .mv (.t 39), none⟩,
        ⟨(.t 41), .mv (.x 5), (some ((.t 40), true))⟩,
        ⟨(.t 42), .mv (.x 7), (some ((.t 40), true))⟩,
        ⟨(.t 43), .call 18 [(.t 41), (.t 42)], (some ((.t 40), true))⟩,
        ⟨(.t 44), .pick (.t 40) (.t 43) (.c (.bool false)), none⟩,
        ⟨(.t 45), .mv (.t 44), none⟩,
        ⟨(.t 46), .mv (.x 6), (some ((.t 45), true))⟩,
        ⟨(.t 47), .mv (.x 8), (some ((.t 45), true))⟩,
        ⟨(.t 48), .beq false (.t 46) (.t 47), (some ((.t 45), true))⟩,
        ⟨(.t 49), .pick (.t 45) (.t 48) (.c (.bool false)), none⟩,
        ⟨(.t 50), .mv (.t 49), none⟩,
        ⟨(.t 51), .mv (.x 0), (some ((.t 50), true))⟩,
        ⟨(.t 52), .mv (.x 1), (some ((.t 50), true))⟩,
        ⟨(.t 53), .call 25 [(.t 51), (.t 52)], (some ((.t 50), true))⟩,
        ⟨(.t 54), .mv (.x 0), (some ((.t 50), true))⟩,
        ⟨(.t 55), .mv (.x 1), (some ((.t 50), true))⟩,
        ⟨(.t 56), .call 37 [(.t 54), (.t 55)], (some ((.t 50), true))⟩,
        ⟨(.t 57), .call 18 [(.t 53), (.t 56)], (some ((.t 50), true))⟩,
        ⟨(.t 58), .pick (.t 50) (.t 57) (.c (.bool false)), none⟩,
        ⟨(.x 4), .mv (.t 58), none⟩])
      .ret)))))
def reslwCalc : List RV := [.t 4]
theorem nblwCalc : fnlwCalc.nb = 0 := rfl
theorem islwCalc : IsFn fnlwCalc 10 codelwCalc reslwCalc := ⟨⟨Try.f10, _, Try.func10, rfl, rfl, by kernel_rfl, by kernel_rfl, by kernel_rfl⟩⟩

/-- robuststats/robuststatslaw01.NaturalIsARing -/
noncomputable def fnlwRing : FnD := ⟨Try.prog, [0, 1, 2, 6, 7, 12], [], 94, 0, false⟩
def codelwRing : DC :=
 (.seq
  (.reg [⟨(.x 6), .mv (.c (.bool false)), none⟩])
  (.seq
   (.seq
    (.reg [⟨(.t 8), .mv (.x 0), none⟩,
      ⟨(.t 9), .mv (.x 1), none⟩,
      ⟨(.t 10), .mv (.x 2), none⟩,
      ⟨(.t 11), .call 23 [(.t 8), (.t 9), (.t 10)], none⟩,
      ⟨(.x 12), .un .not (.t 11), none⟩])
    (.cond (.x 12)
     (.seq
      (.reg [⟨(.t 13), .call 13 [], none⟩,
        ⟨(.x 6), .mv (.t 13), none⟩])
      .ret)
     .skip))
   (.seq
    (.reg [⟨(.t 14), .bsl 1 [(.int .u32 0)] [(0, 1, (.c (.int .u32 1)))], none⟩,
      ⟨(.x 7), .mv (.t 14), none⟩])
    (.seq
     (.reg [⟨(.t 15), .call 13 [], none⟩,
       ⟨(.t 16), .mv (.t 15), none⟩,
       ⟨(.t 17), .mv (.x 0), (some ((.t 16), true))⟩,
       ⟨(.t 18), .mv (.x 1), (some ((.t 16), true))⟩,
       ⟨(.t 19), .call 24 [(.t 17), (.t 18)], (some ((.t 16), true))⟩,
       ⟨(.t 20), .mv (.x 1), (some ((.t 16), true))⟩,
       ⟨(.t 21), .mv (.x 0), (some ((.t 16), true))⟩,
       ⟨(.t 22), .call 24 [(.t 20), (.t 21)], (some ((.t 16), true))⟩,
       ⟨(.t 23), .call 18 [(.t 19), (.t 22)], (some ((.t 16), true))⟩,
       ⟨(.t 24), .pick (.t 16) (.t 23) (.c (.bool false)), none⟩,
       ⟨(.t 25), .mv (.t 24), none⟩,
       ⟨(.t 26), .mv (.x 0), (some ((.t 25), true))⟩,
       ⟨(.t 27), .mv (.x 1), (some ((.t 25), true))⟩,
       ⟨(.t 28), .call 25 [(.t 26), (.t 27)], (some ((.t 25), true))⟩,
       ⟨(.t 29), .mv (.x 1), (some ((.t 25), true))⟩,
       ⟨(.t 30), .mv (.x 0), (some ((.t 25), true))⟩,
       ⟨(.t 31), .call 25 [(.t 29), (.t 30)], (some ((.t 25), true))⟩,
       ⟨(.t 32), .call 18 [(.t 28), (.t 31)], (some ((.t 25), true))⟩,
       ⟨(.t 33), .pick (.t 25) (.t 32) (.c (.bool false)), none⟩,
       ⟨(.t 34), .mv (.t 33), none⟩,
       ⟨(.t 35), .mv (.x 0), (some ((.t 34), true))⟩,
       ⟨(.t 36), .mv (.x 1), (some ((.t 34), true))⟩,
       ⟨(.t 37), .call 24 [(.t 35), (.t 36)], (some ((.t 34), true))⟩,
       ⟨(.t 38), .mv (.x 2), (some ((.t 34), true))⟩,
       ⟨(.t 39), .call 24 [(.t 37), (.t 38)], (some ((.t 34), true))⟩,
       ⟨(.t 40), .mv (.x 0), (some ((.t 34), true))⟩,
       ⟨(.t 41), .mv (.x 1), (some ((.t 34), true))⟩,
       ⟨(.t 42), .mv (.x 2), (some ((.t 34), true))⟩,
       ⟨(.t 43), .call 24 [(.t 41), (.t 42)], (some ((.t 34), true))⟩,
       ⟨(.t 44), .call 24 [(.t 40), (.t 43)], (some ((.t 34), true))⟩,
       ⟨(.t 45), .call 18 [(.t 39), (.t 44)], (some ((.t 34), true))⟩,
       ⟨(.t 46), .pick (.t 34) (.t 45) (.c (.bool false)), none⟩,
       ⟨(.t 47), .mv (.t 46), none⟩,
       ⟨(.t 48), .mv (.x 0), (some ((.t 47), true))⟩,
       ⟨(.t 49), .mv (.x 1), (some ((.t 47), true))⟩,
       ⟨(.t 50), .call 25 [(.t 48), (.t 49)], (some ((.t 47), true))⟩,
       ⟨(.t 51), .mv (.x 2), (some ((.t 47), true))⟩,
       ⟨(.t 52), .call 25 [(.t 50), (.t 51)], (some ((.t 47), true))⟩,
       ⟨(.t 53), .mv (.x 0), (some ((.t 47), true))⟩,
       ⟨(.t 54), .mv (.x 1), (some ((.t 47), true))⟩,
       ⟨(.t 55), .mv (.x 2), (some ((.t 47), true))⟩,
       ⟨(.t 56), .call 25 [(.t 54), (.t 55)], (some ((.t 47), true))⟩,
       ⟨(.t 57), .call 25 [(.t 53), (.t 56)], (some ((.t 47), true))⟩,
       ⟨(.t 58), .call 18 [(.t 52), (.t 57)], (some ((.t 47), true))⟩,
       ⟨(.t 59), .pick (.t 47) (.t 58) (.c (.bool false)), none⟩,
       ⟨(.t 60), .mv (.t 59), none⟩,
       ⟨(.t 61), .mv (.x 0), (some ((.t 60), true))⟩,
       ⟨(.t 62), .mv (.x 1), (some ((.t 60), true))⟩,
       ⟨(.t 63), .mv (.x 2), (some ((.t 60), true))⟩,
       ⟨(.t 64), .call 24 [(.t 62), (.t 63)], (some ((.t 60), true))⟩,
       ⟨(.t 65), .call 25 [(.t 61), (.t 64)], (some ((.t 60), true))⟩,
       ⟨(.t 66), .mv (.x 0), (some ((.t 60), true))⟩,
       ⟨(.t 67), .mv (.x 1), (some ((.t 60), true))⟩,
       ⟨(.t 68), .call 25 [(.t 66), (.t 67)], (some ((.t 60), true))⟩,
       ⟨(.t 69), .mv (.x 0), (some ((.t 60), true))⟩,
       ⟨(.t 70), .mv (.x 2), (some ((.t 60), true))⟩,
       ⟨(.t 71), .call 25 [(.t 69), (.t 70)], (some ((.t 60), true))⟩,
       ⟨(.t 72), .call 24 [(.t 68), (.t 71)], (some ((.t 60), true))⟩,
       ⟨(.t 73), .call 18 [(.t 65), (.t 72)], (some ((.t 60), true))⟩,
       ⟨(.t 74), .pick (.t 60) (.t 73) (.c (.bool false)), none⟩,
       ⟨(.t 75), .mv (.t 74), none⟩,
       ⟨(.t 76), .mv (.x 0), (some ((.t 75), true))⟩,
       ⟨(.t 77), .call 24 [(.t 76), (.c .nils)], (some ((.t 75), true))⟩,
       ⟨(.t 78), .mv (.x 0), (some ((.t 75), true))⟩,
       ⟨(.t 79), .call 18 [(.t 77), (.t 78)], (some ((.t 75), true))⟩,
       ⟨(.t 80), .pick (.t 75) (.t 79) (.c (.bool false)), none⟩,
       ⟨(.t 81), .mv (.t 80), none⟩,
       ⟨(.t 82), .mv (.x 0), (some ((.t 81), true))⟩,
       ⟨(.t 83), .mv (.x 7), (some ((.t 81), true))⟩,
       ⟨(.t 84), .call 25 [(.t 82), (.t 83)], (some ((.t 81), true))⟩,
       ⟨(.t 85), .mv (.x 0), (some ((.t 81), true))⟩,
       ⟨(.t 86), .call 18 [(.t 84), (.t 85)], (some ((.t 81), true))⟩,
       ⟨(.t 87), .pick (.t 81) (.t 86) (.c (.bool false)), none⟩,
       ⟨(.t 88), .mv (.t 87), none⟩,
       ⟨(.t 89), .mv (.x 0), (some ((.t 88), true))⟩,
       ⟨(.t 90), .call 25 [(.t 89), (.c .nils)], (some ((.t 88), true))⟩,
       ⟨(.t 91), .len 1 (.t 90), (some ((.t 88), true))⟩,
       ⟨(.t 92), .bin .eql (.t 91) (.c (.int .i64 0)), (some ((.t 88), true))⟩,
       ⟨(.t 93), .pick (.t 88) (.t 92) (.c (.bool false)), none⟩,
       ⟨(.x 6), .mv (.t 93), none⟩])
     .ret))))
def reslwRing : List RV := [.t 6]
theorem nblwRing : fnlwRing.nb = 0 := rfl
theorem islwRing : IsFn fnlwRing 4 codelwRing reslwRing := ⟨⟨Try.f4, _, Try.func4, rfl, rfl, by kernel_rfl, by kernel_rfl, by kernel_rfl⟩⟩

/-- robuststats/robuststatslaw01.NaturalSubtractsBack -/
noncomputable def fnlwSubBack : FnD := ⟨Try.prog, [0, 1, 2, 6, 7, 8, 10, 15], [], 71, 0, false⟩
def codelwSubBack : DC :=
 (.seq
  (.reg [⟨(.x 6), .mv (.c (.bool false)), none⟩])
  (.seq
   (.seq
    (.reg [⟨(.t 11), .mv (.x 0), none⟩,
      ⟨(.t 12), .mv (.x 1), none⟩,
      ⟨(.t 13), .mv (.x 2), none⟩,
      ⟨(.t 14), .call 23 [(.t 11), (.t 12), (.t 13)], none⟩,
      ⟨(.x 15), .un .not (.t 14), none⟩])
    (.cond (.x 15)
     (.seq
      (.reg [⟨(.t 16), .call 13 [], none⟩,
        ⟨(.x 6), .mv (.t 16), none⟩])
      .ret)
     .skip))
   (.seq
    (.reg [⟨(.t 18), .mv (.x 0), none⟩,
      ⟨(.t 19), .mv (.x 1), none⟩,
      ⟨(.t 20), .call 24 [(.t 18), (.t 19)], none⟩,
      ⟨(.t 21), .mv (.x 1), none⟩,
      ⟨(.t 22), .call 28 [(.t 20), (.t 21)], none⟩,
      ⟨(.t 17), .mv (.t 22), none⟩,
      ⟨(.t 23), .ext (.t 17) 0, none⟩,
      ⟨(.t 24), .ext (.t 17) 1, none⟩,
      ⟨(.x 7), .mv (.t 23), none⟩,
      ⟨(.x 8), .mv (.t 24), none⟩])
    (.seq
     (.reg [⟨(.t 26), .mv (.x 0), none⟩,
       ⟨(.t 27), .mv (.x 1), none⟩,
       ⟨(.t 28), .call 28 [(.t 26), (.t 27)], none⟩,
       ⟨(.t 25), .mv (.t 28), none⟩,
       ⟨(.t 29), .ext (.t 25) 0, none⟩,
       ⟨(.t 30), .ext (.t 25) 1, none⟩,
       ⟨(.t 9), .mv (.t 29), none⟩,
       ⟨(.x 10), .mv (.t 30), none⟩])
     (.seq
      (.reg [⟨(.t 31), .call 13 [], none⟩,
        ⟨(.t 32), .mv (.t 31), none⟩,
        ⟨(.t 33), .mv (.x 8), (some ((.t 32), true))⟩,
        ⟨(.t 34), .pick (.t 32) (.t 33) (.c (.bool false)), none⟩,
        ⟨(.t 35), .mv (.t 34), none⟩,
        ⟨(.t 36), .mv (.x 7), (some ((.t 35), true))⟩,
        ⟨(.t 37), .mv (.x 0), (some ((.t 35), true))⟩,
        ⟨(.t 38), .call 18 [(.t 36), (.t 37)], (some ((.t 35), true))⟩,
        ⟨(.t 39), .pick (.t 35) (.t 38) (.c (.bool false)), none⟩,
        ⟨(.t 40), .mv (.t 39), none⟩,
        ⟨(.t 41), .mv (.x 10), (some ((.t 40), true))⟩,
        ⟨(.t 42), .mv (.x 0), (some ((.t 40), true))⟩,
        ⟨(.t 43), .mv (.x 1), (some ((.t 40), true))⟩,
        ⟨(.t 44), .call 21 [(.t 42), (.t 43)], (some ((.t 40), true))⟩,
        ⟨(.t 45), .bin .geq (.t 44) (.c (.int .i64 0)), (some ((.t 40), true))⟩,
        ⟨(.t 46), .beq false (.t 41) (.t 45), (some ((.t 40), true))⟩,
        ⟨(.t 47), .pick (.t 40) (.t 46) (.c (.bool false)), none⟩,
        ⟨(.t 48), .mv (.t 47), none⟩,
        ⟨(.t 49), .mv (.x 0), (some ((.t 48), true))⟩,
        ⟨(.t 50), .mv (.x 1), (some ((.t 48), true))⟩,
        ⟨(.t 51), .call 21 [(.t 49), (.t 50)], (some ((.t 48), true))⟩,
        ⟨(.t 52), .mv (.x 1), (some ((.t 48), true))⟩,
        ⟨(.t 53), .mv (.x 0), (some ((.t 48), true))⟩,
        ⟨(.t 54), .call 21 [(.t 52), (.t 53)], (some ((.t 48), true))⟩,
        ⟨(.t 55), .un .neg (.t 54), (some ((.t 48), true))⟩,
        ⟨(.t 56), .bin .eql (.t 51) (.t 55), (some ((.t 48), true))⟩,
        ⟨(.t 57), .pick (.t 48) (.t 56) (.c (.bool false)), none⟩,
        ⟨(.t 58), .mv (.t 57), none⟩,
        ⟨(.t 59), .mv (.x 0), (some ((.t 58), true))⟩,
        ⟨(.t 60), .mv (.x 2), (some ((.t 58), true))⟩,
        ⟨(.t 61), .call 24 [(.t 59), (.t 60)], (some ((.t 58), true))⟩,
        ⟨(.t 62), .mv (.x 1), (some ((.t 58), true))⟩,
        ⟨(.t 63), .mv (.x 2), (some ((.t 58), true))⟩,
        ⟨(.t 64), .call 24 [(.t 62), (.t 63)], (some ((.t 58), true))⟩,
        ⟨(.t 65), .call 21 [(.t 61), (.t 64)], (some ((.t 58), true))⟩,
        ⟨(.t 66), .mv (.x 0), (some ((.t 58), true))⟩,
        ⟨(.t 67), .mv (.x 1), (some ((.t 58), true))⟩,
        ⟨(.t 68), .call 21 [(.t 66), (.t 67)], (some ((.t 58), true))⟩,
        ⟨(.t 69), .bin .eql (.t 65) (.t 68), (some ((.t 58), true))⟩,
        ⟨(.t 70), .pick (.t 58) (.t 69) (.c (.bool false)), none⟩,
        ⟨(.x 6), .mv (.t 70), none⟩])
      .ret)))))
def reslwSubBack : List RV := [.t 6]
theorem nblwSubBack : fnlwSubBack.nb = 0 := rfl
theorem islwSubBack : IsFn fnlwSubBack 7 codelwSubBack reslwSubBack := ⟨⟨Try.f7, _, Try.func7, rfl, rfl, by kernel_rfl, by kernel_rfl, by kernel_rfl⟩⟩

/-- robuststats/robuststatslaw01.NaturalDividesBack -/
noncomputable def fnlwDivBack : FnD := ⟨Try.prog, [0, 1, 4, 5, 6, 7, 16], [], 48, 0, false⟩
def codelwDivBack : DC :=
 (.seq
  (.reg [⟨(.x 4), .mv (.c (.bool false)), none⟩])
  (.seq
   (.seq
    (.reg [⟨(.t 8), .mv (.x 0), none⟩,
      ⟨(.t 9), .mv (.x 1), none⟩,
      ⟨(.t 10), .call 23 [(.t 8), (.t 9), (.c .nils)], none⟩,
      ⟨(.t 11), .un .not (.t 10), none⟩,
      ⟨(.t 12), .mv (.t 11), none⟩,
      ⟨(.t 13), .mv (.x 1), (some ((.t 12), false))⟩,
      ⟨(.t 14), .len 1 (.t 13), (some ((.t 12), false))⟩,
      ⟨(.t 15), .bin .eql (.t 14) (.c (.int .i64 0)), (some ((.t 12), false))⟩,
      ⟨(.x 16), .pick (.t 12) (.c (.bool true)) (.t 15), none⟩])
    (.cond (.x 16)
     (.seq
      (.reg [⟨(.t 17), .call 13 [], none⟩,
        ⟨(.x 4), .mv (.t 17), none⟩])
      .ret)
     .skip))
   (.seq
    (.reg [⟨(.t 19), .mv (.x 0), none⟩,
      ⟨(.t 20), .mv (.x 1), none⟩,
      ⟨(.t 21), .call 26 [(.t 19), (.t 20)], none⟩,
      ⟨(.t 18), .mv (.t 21), none⟩,
      ⟨(.t 22), .ext (.t 18) 0, none⟩,
      ⟨(.t 23), .ext (.t 18) 1, none⟩,
      ⟨(.t 24), .ext (.t 18) 2, none⟩,
      ⟨(.x 5), .mv (.t 22), none⟩,
      ⟨(.x 6), .mv (.t 23), none⟩,
      ⟨(.x 7), .mv (.t 24), none⟩])
    (.seq
     (.reg [⟨(.t 25), .call 13 [], none⟩,
       ⟨(.t 26), .mv (.t 25), none⟩,
       ⟨(.t 27), .mv (.x 7), (some ((.t 26), true))⟩,
       ⟨(.t 28), .pick (.t 26) (.t 27) (.c (.bool false)), none⟩,
       ⟨(.t 29), .mv (.t 28), none⟩,
       ⟨(.t 30), .mv (.x 5), (some ((.t 29), true))⟩,
       ⟨(.t 31), .call 16 [(.t 30)], (some ((.t 29), true))⟩,
       ⟨(.t 32), .pick (.t 29) (.t 31) (.c (.bool false)), none⟩,
       ⟨(.t 33), .mv (.t 32), none⟩,
       ⟨(.t 34), .mv (.x 6), (some ((.t 33), true))⟩,
       ⟨(.t 35), .mv (.x 1), (some ((.t 33), true))⟩,
       ⟨(.t 36), .call 21 [(.t 34), (.t 35)], (some ((.t 33), true))⟩,
       ⟨(.t 37), .bin .lss (.t 36) (.c (.int .i64 0)), (some ((.t 33), true))⟩,
       ⟨(.t 38), .pick (.t 33) (.t 37) (.c (.bool false)), none⟩,
       ⟨(.t 39), .mv (.t 38), none⟩,
       ⟨(.t 40), .mv (.x 5), (some ((.t 39), true))⟩,
       ⟨(.t 41), .mv (.x 1), (some ((.t 39), true))⟩,
       ⟨(.t 42), .call 25 [(.t 40), (.t 41)], (some ((.t 39), true))⟩,
       ⟨(.t 43), .mv (.x 6), (some ((.t 39), true))⟩,
       ⟨(.t 44), .call 24 [(.t 42), (.t 43)], (some ((.t 39), true))⟩,
       ⟨(.t 45), .mv (.x 0), (some ((.t 39), true))⟩,
       ⟨(.t 46), .call 18 [(.t 44), (.t 45)], (some ((.t 39), true))⟩,
       ⟨(.t 47), .pick (.t 39) (.t 46) (.c (.bool false)), none⟩,
       ⟨(.x 4), .mv (.t 47), none⟩])
     .ret))))
def reslwDivBack : List RV := [.t 4]
theorem nblwDivBack : fnlwDivBack.nb = 0 := rfl
theorem islwDivBack : IsFn fnlwDivBack 5 codelwDivBack reslwDivBack := ⟨⟨Try.f5, _, Try.func5, rfl, rfl, by kernel_rfl, by kernel_rfl, by kernel_rfl⟩⟩

/-- robuststats/robuststatslaw01.NaturalDivisorIsGreatest -/
noncomputable def fnlwGcd : FnD := ⟨Try.prog, [0, 1, 2, 6, 7, 8, 9, 10, 11, 12, 13, 38], [], 94, 0, false⟩
def codelwGcd : DC :=
 (.seq
  (.reg [⟨(.x 6), .mv (.c (.bool false)), none⟩])
  (.seq
   (.seq
    (.reg [⟨(.t 14), .mv (.x 0), none⟩,
      ⟨(.t 15), .mv (.x 1), none⟩,
      ⟨(.t 16), .mv (.x 2), none⟩,
      ⟨(.t 17), .call 23 [(.t 14), (.t 15), (.t 16)], none⟩,
      ⟨(.t 18), .un .not (.t 17), none⟩,
      ⟨(.t 19), .mv (.t 18), none⟩,
      ⟨(.t 20), .mv (.x 0), (some ((.t 19), false))⟩,
      ⟨(.t 21), .len 1 (.t 20), (some ((.t 19), false))⟩,
      ⟨(.t 22), .bin .gtr (.t 21) (.c (.int .i64 6)), (some ((.t 19), false))⟩,
      ⟨(.t 23), .pick (.t 19) (.c (.bool true)) (.t 22), none⟩,
      ⟨(.t 24), .mv (.t 23), none⟩,
      ⟨(.t 25), .mv (.x 1), (some ((.t 24), false))⟩,
      ⟨(.t 26), .len 1 (.t 25), (some ((.t 24), false))⟩,
      ⟨(.t 27), .bin .gtr (.t 26) (.c (.int .i64 6)), (some ((.t 24), false))⟩,
      ⟨(.t 28), .pick (.t 24) (.c (.bool true)) (.t 27), none⟩,
      ⟨(.t 29), .mv (.t 28), none⟩,
      ⟨(.t 30), .mv (.x 2), (some ((.t 29), false))⟩,
      ⟨(.t 31), .len 1 (.t 30), (some ((.t 29), false))⟩,
      ⟨(.t 32), .bin .gtr (.t 31) (.c (.int .i64 3)), (some ((.t 29), false))⟩,
      ⟨(.t 33), .pick (.t 29) (.c (.bool true)) (.t 32), none⟩,
      ⟨(.t 34), .mv (.t 33), none⟩,
      ⟨(.t 35), .mv (.x 0), (some ((.t 34), false))⟩,
      ⟨(.t 36), .len 1 (.t 35), (some ((.t 34), false))⟩,
      ⟨(.t 37), .bin .eql (.t 36) (.c (.int .i64 0)), (some ((.t 34), false))⟩,
      ⟨(.x 38), .pick (.t 34) (.c (.bool true)) (.t 37), none⟩])
    (.cond (.x 38)
     (.seq
      (.reg [⟨(.t 39), .call 13 [], none⟩,
        ⟨(.x 6), .mv (.t 39), none⟩])
      .ret)
     .skip))
   (.seq
    (.reg [⟨(.t 40), .mv (.x 0), none⟩,
      ⟨(.t 41), .mv (.x 1), none⟩,
      ⟨(.t 42), .call 33 [(.t 40), (.t 41)], none⟩,
      ⟨(.x 7), .mv (.t 42), none⟩])
    (.seq
     (.reg [⟨(.t 44), .mv (.x 0), none⟩,
       ⟨(.t 45), .mv (.x 7), none⟩,
       ⟨(.t 46), .call 26 [(.t 44), (.t 45)], none⟩,
       ⟨(.t 43), .mv (.t 46), none⟩,
       ⟨(.t 47), .ext (.t 43) 0, none⟩,
       ⟨(.t 48), .ext (.t 43) 1, none⟩,
       ⟨(.t 49), .ext (.t 43) 2, none⟩,
       ⟨(.x 8), .mv (.t 47), none⟩,
       ⟨(.x 9), .mv (.t 48), none⟩,
       ⟨(.x 10), .mv (.t 49), none⟩])
     (.seq
      (.reg [⟨(.t 51), .mv (.x 1), none⟩,
        ⟨(.t 52), .mv (.x 7), none⟩,
        ⟨(.t 53), .call 26 [(.t 51), (.t 52)], none⟩,
        ⟨(.t 50), .mv (.t 53), none⟩,
        ⟨(.t 54), .ext (.t 50) 0, none⟩,
        ⟨(.t 55), .ext (.t 50) 1, none⟩,
        ⟨(.t 56), .ext (.t 50) 2, none⟩,
        ⟨(.x 11), .mv (.t 54), none⟩,
        ⟨(.x 12), .mv (.t 55), none⟩,
        ⟨(.x 13), .mv (.t 56), none⟩])
      (.seq
       (.reg [⟨(.t 57), .call 13 [], none⟩,
         ⟨(.t 58), .mv (.t 57), none⟩,
         ⟨(.t 59), .mv (.x 10), (some ((.t 58), true))⟩,
         ⟨(.t 60), .pick (.t 58) (.t 59) (.c (.bool false)), none⟩,
         ⟨(.t 61), .mv (.t 60), none⟩,
         ⟨(.t 62), .mv (.x 13), (some ((.t 61), true))⟩,
         ⟨(.t 63), .pick (.t 61) (.t 62) (.c (.bool false)), none⟩,
         ⟨(.t 64), .mv (.t 63), none⟩,
         ⟨(.t 65), .mv (.x 9), (some ((.t 64), true))⟩,
         ⟨(.t 66), .len 1 (.t 65), (some ((.t 64), true))⟩,
         ⟨(.t 67), .bin .eql (.t 66) (.c (.int .i64 0)), (some ((.t 64), true))⟩,
         ⟨(.t 68), .pick (.t 64) (.t 67) (.c (.bool false)), none⟩,
         ⟨(.t 69), .mv (.t 68), none⟩,
         ⟨(.t 70), .mv (.x 12), (some ((.t 69), true))⟩,
         ⟨(.t 71), .len 1 (.t 70), (some ((.t 69), true))⟩,
         ⟨(.t 72), .bin .eql (.t 71) (.c (.int .i64 0)), (some ((.t 69), true))⟩,
         ⟨(.t 73), .pick (.t 69) (.t 72) (.c (.bool false)), none⟩,
         ⟨(.t 74), .mv (.t 73), none⟩,
         ⟨(.t 75), .mv (.x 8), (some ((.t 74), true))⟩,
         ⟨(.t 76), .mv (.x 11), (some ((.t 74), true))⟩,
         ⟨(.t 77), .call 33 [(.t 75), (.t 76)], (some ((.t 74), true))⟩,
         ⟨(.t 78), .bsl 1 [(.int .u32 0)] [(0, 1, (.c (.int .u32 1)))], (some ((.t 74), true))⟩,
         ⟨(.t 79), .call 18 [(.t 77), (.t 78)], (some ((.t 74), true))⟩,
         ⟨(.t 80), .pick (.t 74) (.t 79) (.c (.bool false)), none⟩,
         ⟨(.t 81), .mv (.t 80), none⟩,
         ⟨(.t 82), .mv (.x 0), (some ((.t 81), true))⟩,
         ⟨(.t 83), .mv (.x 2), (some ((.t 81), true))⟩,
         ⟨(.t 84), .call 25 [(.t 82), (.t 83)], (some ((.t 81), true))⟩,
         ⟨(.t 85), .mv (.x 1), (some ((.t 81), true))⟩,
         ⟨(.t 86), .mv (.x 2), (some ((.t 81), true))⟩,
         ⟨(.t 87), .call 25 [(.t 85), (.t 86)], (some ((.t 81), true))⟩,
         ⟨(.t 88), .call 33 [(.t 84), (.t 87)], (some ((.t 81), true))⟩,
         ⟨(.t 89), .mv (.x 7), (some ((.t 81), true))⟩,
         ⟨(.t 90), .mv (.x 2), (some ((.t 81), true))⟩,
         ⟨(.t 91), .call 25 [(.t 89), (.t 90)], (some ((.t 81), true))⟩,
         ⟨(.t 92), .call 18 [(.t 88), (.t 91)], (some ((.t 81), true))⟩,
         ⟨(.t 93), .pick (.t 81) (.t 92) (.c (.bool false)), none⟩,
         ⟨(.x 6), .mv (.t 93), none⟩])
       .ret))))))
def reslwGcd : List RV := [.t 6]
theorem nblwGcd : fnlwGcd.nb = 0 := rfl
theorem islwGcd : IsFn fnlwGcd 11 codelwGcd reslwGcd := ⟨⟨Try.f11, _, Try.func11, rfl, rfl, by kernel_rfl, by kernel_rfl, by kernel_rfl⟩⟩

/-- robuststats/robuststatslaw01.NaturalRootIsGreatest -/
noncomputable def fnlwRoot : FnD := ⟨Try.prog, [0, 2, 3, 4, 12], [], 44, 0, false⟩
def codelwRoot : DC :=
 (.seq
  (.reg [⟨(.x 2), .mv (.c (.bool false)), none⟩])
  (.seq
   (.seq
    (.reg [⟨(.t 5), .mv (.x 0), none⟩,
      ⟨(.t 6), .call 12 [(.t 5)], none⟩,
      ⟨(.t 7), .un .not (.t 6), none⟩,
      ⟨(.t 8), .mv (.t 7), none⟩,
      ⟨(.t 9), .mv (.x 0), (some ((.t 8), false))⟩,
      ⟨(.t 10), .call 17 [(.t 9)], (some ((.t 8), false))⟩,
      ⟨(.t 11), .un .not (.t 10), (some ((.t 8), false))⟩,
      ⟨(.x 12), .pick (.t 8) (.c (.bool true)) (.t 11), none⟩])
    (.cond (.x 12)
     (.seq
      (.reg [⟨(.t 13), .call 13 [], none⟩,
        ⟨(.x 2), .mv (.t 13), none⟩])
      .ret)
     .skip))
   (.seq
    (.reg [⟨(.t 14), .mv (.x 0), none⟩,
      ⟨(.t 15), .call 27 [(.t 14)], none⟩,
      ⟨(.x 3), .mv (.t 15), none⟩])
    (.seq
     (.reg [⟨(.t 16), .mv (.x 3), none⟩,
       ⟨(.t 17), .bsl 1 [(.int .u32 0)] [(0, 1, (.c (.int .u32 1)))], none⟩,
       ⟨(.t 18), .call 24 [(.t 16), (.t 17)], none⟩,
       ⟨(.x 4), .mv (.t 18), none⟩])
     (.seq
      (.reg [⟨(.t 19), .call 13 [], none⟩,
        ⟨(.t 20), .mv (.t 19), none⟩,
        ⟨(.t 21), .mv (.x 3), (some ((.t 20), true))⟩,
        ⟨(.t 22), .mv (.x 3), (some ((.t 20), true))⟩,
        ⟨(.t 23), .call 25 [(.t 21), (.t 22)], (some ((.t 20), true))⟩,
        ⟨(.t 24), .mv (.x 0), (some ((.t 20), true))⟩,
        ⟨(.t 25), .call 21 [(.t 23), (.t 24)], (some ((.t 20), true))⟩,
        ⟨(.t 26), .bin .leq (.t 25) (.c (.int .i64 0)), (some ((.t 20), true))⟩,
        ⟨(.t 27), .pick (.t 20) (.t 26) (.c (.bool false)), none⟩,
        ⟨(.t 28), .mv (.t 27), none⟩,
        ⟨(.t 29), .mv (.x 4), (some ((.t 28), true))⟩,
        ⟨(.t 30), .mv (.x 4), (some ((.t 28), true))⟩,
        ⟨(.t 31), .call 25 [(.t 29), (.t 30)], (some ((.t 28), true))⟩,
        ⟨(.t 32), .mv (.x 0), (some ((.t 28), true))⟩,
        ⟨(.t 33), .call 21 [(.t 31), (.t 32)], (some ((.t 28), true))⟩,
        ⟨(.t 34), .bin .gtr (.t 33) (.c (.int .i64 0)), (some ((.t 28), true))⟩,
        ⟨(.t 35), .pick (.t 28) (.t 34) (.c (.bool false)), none⟩,
        ⟨(.t 36), .mv (.t 35), none⟩,
        ⟨(.t 37), .mv (.x 0), (some ((.t 36), true))⟩,
        ⟨(.t 38), .mv (.x 0), (some ((.t 36), true))⟩,
        ⟨(.t 39), .call 25 [(.t 37), (.t 38)], (some ((.t 36), true))⟩,
        ⟨(.t 40), .call 27 [(.t 39)], (some ((.t 36), true))⟩,
        ⟨(.t 41), .mv (.x 0), (some ((.t 36), true))⟩,
        ⟨(.t 42), .call 18 [(.t 40), (.t 41)], (some ((.t 36), true))⟩,
        ⟨(.t 43), .pick (.t 36) (.t 42) (.c (.bool false)), none⟩,
        ⟨(.x 2), .mv (.t 43), none⟩])
      .ret)))))
def reslwRoot : List RV := [.t 2]
theorem nblwRoot : fnlwRoot.nb = 0 := rfl
theorem islwRoot : IsFn fnlwRoot 6 codelwRoot reslwRoot := ⟨⟨Try.f6, _, Try.func6, rfl, rfl, by kernel_rfl, by kernel_rfl, by kernel_rfl⟩⟩

/-- robuststats/robuststatslaw01.NaturalPowers -/
noncomputable def fnlwPow : FnD := ⟨Try.prog, [0, 1, 4, 7], [], 26, 0, false⟩
def codelwPow : DC :=
 (.seq
  (.reg [⟨(.x 4), .mv (.c (.bool false)), none⟩])
  (.seq
   (.seq
    (.reg [⟨(.t 5), .mv (.x 0), none⟩,
      ⟨(.t 6), .len 1 (.t 5), none⟩,
      ⟨(.x 7), .bin .gtr (.t 6) (.c (.int .i64 6)), none⟩])
    (.cond (.x 7)
     (.seq
      (.reg [⟨(.t 8), .call 13 [], none⟩,
        ⟨(.x 4), .mv (.t 8), none⟩])
      .ret)
     .skip))
   (.seq
    (.reg [⟨(.t 9), .call 13 [], none⟩,
      ⟨(.t 10), .mv (.t 9), none⟩,
      ⟨(.t 11), .mv (.x 0), (some ((.t 10), true))⟩,
      ⟨(.t 12), .call 27 [(.t 11)], (some ((.t 10), true))⟩,
      ⟨(.t 13), .mv (.x 0), (some ((.t 10), true))⟩,
      ⟨(.t 14), .call 29 [(.t 13)], (some ((.t 10), true))⟩,
      ⟨(.t 15), .call 18 [(.t 12), (.t 14)], (some ((.t 10), true))⟩,
      ⟨(.t 16), .pick (.t 10) (.t 15) (.c (.bool false)), none⟩,
      ⟨(.t 17), .mv (.t 16), none⟩,
      ⟨(.t 18), .mv (.x 0), (some ((.t 17), true))⟩,
      ⟨(.t 19), .mv (.x 1), (some ((.t 17), true))⟩,
      ⟨(.t 20), .call 30 [(.t 18), (.t 19)], (some ((.t 17), true))⟩,
      ⟨(.t 21), .mv (.x 0), (some ((.t 17), true))⟩,
      ⟨(.t 22), .mv (.x 1), (some ((.t 17), true))⟩,
      ⟨(.t 23), .call 31 [(.t 21), (.t 22)], (some ((.t 17), true))⟩,
      ⟨(.t 24), .call 18 [(.t 20), (.t 23)], (some ((.t 17), true))⟩,
      ⟨(.t 25), .pick (.t 17) (.t 24) (.c (.bool false)), none⟩,
      ⟨(.x 4), .mv (.t 25), none⟩])
    .ret)))
def reslwPow : List RV := [.t 4]
theorem nblwPow : fnlwPow.nb = 0 := rfl
theorem islwPow : IsFn fnlwPow 8 codelwPow reslwPow := ⟨⟨Try.f8, _, Try.func8, rfl, rfl, by kernel_rfl, by kernel_rfl, by kernel_rfl⟩⟩

/-- robuststats/robuststatslaw01.NaturalDivides -/
noncomputable def fnlwDiv : FnD := ⟨Try.prog, [0, 1, 4, 5, 6, 7, 8, 9, 10, 18], [], 59, 0, false⟩
def codelwDiv : DC :=
 (.seq
  (.reg [⟨(.x 4), .mv (.c (.bool false)), none⟩])
  (.seq
   (.seq
    (.reg [⟨(.t 11), .mv (.x 0), none⟩,
      ⟨(.t 12), .call 12 [(.t 11)], none⟩,
      ⟨(.t 13), .un .not (.t 12), none⟩,
      ⟨(.t 14), .mv (.t 13), none⟩,
      ⟨(.t 15), .mv (.x 1), (some ((.t 14), false))⟩,
      ⟨(.t 16), .call 12 [(.t 15)], (some ((.t 14), false))⟩,
      ⟨(.t 17), .un .not (.t 16), (some ((.t 14), false))⟩,
      ⟨(.x 18), .pick (.t 14) (.c (.bool true)) (.t 17), none⟩])
    (.cond (.x 18)
     (.seq
      (.reg [⟨(.t 19), .call 13 [], none⟩,
        ⟨(.x 4), .mv (.t 19), none⟩])
      .ret)
     .skip))
   (.seq
    (.reg [⟨(.t 21), .mv (.x 0), none⟩,
      ⟨(.t 22), .mv (.x 1), none⟩,
      ⟨(.t 23), .call 26 [(.t 21), (.t 22)], none⟩,
      ⟨(.t 20), .mv (.t 23), none⟩,
      ⟨(.t 24), .ext (.t 20) 0, none⟩,
      ⟨(.t 25), .ext (.t 20) 1, none⟩,
      ⟨(.t 26), .ext (.t 20) 2, none⟩,
      ⟨(.x 5), .mv (.t 24), none⟩,
      ⟨(.x 6), .mv (.t 25), none⟩,
      ⟨(.x 7), .mv (.t 26), none⟩])
    (.seq
     (.reg [⟨(.t 28), .mv (.x 0), none⟩,
       ⟨(.t 29), .mv (.x 1), none⟩,
       ⟨(.t 30), .call 32 [(.t 28), (.t 29)], none⟩,
       ⟨(.t 27), .mv (.t 30), none⟩,
       ⟨(.t 31), .ext (.t 27) 0, none⟩,
       ⟨(.t 32), .ext (.t 27) 1, none⟩,
       ⟨(.t 33), .ext (.t 27) 2, none⟩,
       ⟨(.x 8), .mv (.t 31), none⟩,
       ⟨(.x 9), .mv (.t 32), none⟩,
       ⟨(.x 10), .mv (.t 33), none⟩])
     (.seq
      (.reg [⟨(.t 34), .call 13 [], none⟩,
        ⟨(.t 35), .mv (.t 34), none⟩,
        ⟨(.t 36), .mv (.x 5), (some ((.t 35), true))⟩,
        ⟨(.t 37), .mv (.x 8), (some ((.t 35), true))⟩,
        ⟨(.t 38), .call 18 [(.t 36), (.t 37)], (some ((.t 35), true))⟩,
        ⟨(.t 39), .pick (.t 35) (.t 38) (.c (.bool false)), none⟩,
        ⟨(.t 40), .mv (.t 39), none⟩,
        ⟨(.t 41), .mv (.x 6), (some ((.t 40), true))⟩,
        ⟨(.t 42), .mv (.x 9), (some ((.t 40), true))⟩,
        ⟨(.t 43), .call 18 [(.t 41), (.t 42)], (some ((.t 40), true))⟩,
        ⟨(.t 44), .pick (.t 40) (.t 43) (.c (.bool false)), none⟩,
        ⟨(.t 45), .mv (.t 44), none⟩,
        ⟨(.t 46), .mv (.x 7), (some ((.t 45), true))⟩,
        ⟨(.t 47), .mv (.x 10), (some ((.t 45), true))⟩,
        ⟨(.t 48), .beq false (.t 46) (.t 47), (some ((.t 45), true))⟩,
        ⟨(.t 49), .pick (.t 45) (.t 48) (.c (.bool false)), none⟩,
        ⟨(.t 50), .mv (.t 49), none⟩,
        ⟨(.t 51), .mv (.x 0), (some ((.t 50), true))⟩,
        ⟨(.t 52), .mv (.x 1), (some ((.t 50), true))⟩,
        ⟨(.t 53), .call 33 [(.t 51), (.t 52)], (some ((.t 50), true))⟩,
        ⟨(.t 54), .mv (.x 0), (some ((.t 50), true))⟩,
        ⟨(.t 55), .mv (.x 1), (some ((.t 50), true))⟩,
        ⟨(.t 56), .call 34 [(.t 54), (.t 55)], (some ((.t 50), true))⟩,
        ⟨(.t 57), .call 18 [(.t 53), (.t 56)], (some ((.t 50), true))⟩,
        ⟨(.t 58), .pick (.t 50) (.t 57) (.c (.bool false)), none⟩,
        ⟨(.x 4), .mv (.t 58), none⟩])
      .ret)))))
def reslwDiv : List RV := [.t 4]
theorem nblwDiv : fnlwDiv.nb = 0 := rfl
theorem islwDiv : IsFn fnlwDiv 9 codelwDiv reslwDiv := ⟨⟨Try.f9, _, Try.func9, rfl, rfl, by kernel_rfl, by kernel_rfl, by kernel_rfl⟩⟩

end Go.Proofs.Ytecilkmigjbfoaa
