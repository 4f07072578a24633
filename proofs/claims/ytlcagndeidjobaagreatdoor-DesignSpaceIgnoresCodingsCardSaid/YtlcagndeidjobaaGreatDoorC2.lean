/- Lemmas of the walk; no conditions beyond those that each states. -/
import Derived.Test.YtlcagndeidjobaaGreatDoorProg
import Derived.Shelf.Small.Bits
import Derived.Shelf.Strconv.Itoa0
import Derived.Shelf.Strconv.Itoa1
import Derived.Shelf.LaysM
import Derived.Shelf.Strconv.Itoa2
import Derived.Shelf.Strconv.Itoa3
import Derived.Shelf.Slices.Turned
import Derived.Test.YtlcagndeidjobaaGreatDoorD3
set_option linter.unusedSimpArgs false
set_option linter.unusedVariables false
set_option linter.unnecessarySimpa false
set_option maxHeartbeats 4000000
namespace Go.Proofs.YtlcagndeidjobaaGreatDoor
open Tryz
open Go Go.Dat Go.Proofs
noncomputable def z7A : FnD := ⟨prog,[0,1,4,5,10,14,25],[],26,false⟩
def z4Z : DC := (.seq (.reg [ox 4 (.mv (.c (.bool false)))]) (.seq (.seq (.reg [om 6 0,ot 7 (.len 1 (.t 6)),om 8 1,ot 9 (.len 1 (.t 8)),ox 10 (.bin .neq (.t 7) (.t 9))]) (.cond (.x 10) (.seq (.reg [ox 4 (.mv (.c (.bool false)))]) .ret) .skip)) (.seq (.seq (.reg [ox 5 (.mv (oi 0))]) (.block 0 (.loop (.seq (.seq (.reg [om 11 5,om 12 0,ot 13 (.len 1 (.t 12)),ox 14 (.bin .lss (.t 11) (.t 13))]) (.cond (.x 14) .skip (.exit 0))) (.seq (.block 1 (.seq (.regd [om 17 0,om 18 5,ot 19 (.iad 1 (.t 17) (.t 18)),ot 20 (.ld (.t 19)),om 21 1,om 22 5,ot 23 (.iad 1 (.t 21) (.t 22)),ot 24 (.ld (.t 23)),ox 25 (.bin .neq (.t 20) (.t 24))]) (.cond (.x 25) (.seq (.reg [ox 4 (.mv (.c (.bool false)))]) .ret) .skip))) (.reg [om 15 5,ot 16 (.bin .add (.t 15) (oi 1)),ow 5 16])))))) (.seq (.reg [ox 4 (.mv (.c (.bool true)))]) .ret))))
def y25 : List RV := [.t 4]
theorem y4R : IsFn z7A 18 z4Z y25 := .k func18 rfl (by kernel_rfl)
noncomputable def x28 : FnD := ⟨prog,[0,1,2,3,4],[],26,false⟩
def y8d : DC := (.seq (.reg [ox 2 (.box (.x 0)),ox 3 (.box (.x 1)),ox 4 (.alloc [(.bool false),.nils,.nils])]) (.seq (.regd [ot 5 (.ldn 3 (.x 2)),ot 6 (.call 43 [.t 5]),ot 7 (.ldn 3 (.x 3)),ot 8 (.call 43 [.t 7]),on (.stn 3 (.x 2) (.t 6)),on (.stn 3 (.x 3) (.t 8))]) (.seq (.regd [ot 9 (.fad 0 (.x 2)),ot 10 (.ldn 2 (.t 9)),ot 11 (.ldn 3 (.x 3)),ot 12 (.call 58 [.t 11]),ot 13 (.call 57 [.t 10,.t 12]),ot 14 (.fad 0 (.x 3)),ot 15 (.ldn 2 (.t 14)),ot 16 (.ldn 3 (.x 2)),ot 17 (.call 58 [.t 16]),ot 18 (.call 57 [.t 15,.t 17]),ot 19 (.call 56 [.t 13,.t 18]),ot 20 (.ldn 3 (.x 2)),ot 21 (.call 58 [.t 20]),ot 22 (.ldn 3 (.x 3)),ot 23 (.call 58 [.t 22]),ot 24 (.call 57 [.t 21,.t 23]),ot 25 (.call 55 [.t 19,.t 24]),on (.stn 3 (.x 4) (.t 25))]) .ret)))
def w1v : List RV := [.cn 3 4]
theorem w4x : x28.nb = 0 := rfl
theorem w3L : IsFn x28 26 y8d w1v := .k func26 rfl (by kernel_rfl)
noncomputable def y1c : FnD := ⟨prog,[0,2],[],11,false⟩
def z7e : DC := (.seq (.reg [ox 2 (.alloc [(.bool false),.nils,.nils])]) (.seq (.reg [om 3 0,ot 4 (.call 11 [.t 3,(oi 61)]),ot 5 (.bin .sub (.t 4) (oi 30)),om 6 0,ot 7 (.bin .quo (.t 6) (oi 61)),ot 8 (.call 11 [.t 7,(oi 4)]),ot 9 (.bin .add (oi 1) (.t 8)),ot 10 (.call 62 [.t 5,.t 9]),on (.stn 3 (.x 2) (.t 10))]) .ret))
def y67 : List RV := [.cn 3 2]
theorem x0H : IsFn y1c 30 z7e y67 := .k func30 rfl (by kernel_rfl)
noncomputable def x3e : FnD := ⟨prog,[0,1,2,3,4,18],[],42,false⟩
def y8i : DC := (.seq (.reg [ox 2 (.box (.x 0)),ox 3 (.box (.x 1)),ox 4 (.alloc [(.bool false),.nils,.nils])]) (.seq (.regd [ot 5 (.ldn 3 (.x 2)),ot 6 (.call 86 [.t 5]),ot 7 (.ldn 3 (.x 3)),ot 8 (.call 86 [.t 7]),on (.stn 3 (.x 2) (.t 6)),on (.stn 3 (.x 3) (.t 8))]) (.seq (.seq (.reg [ot 9 (.fad 2 (.x 2)),ot 10 (.ld (.t 9)),ot 11 (.len 1 (.t 10)),ot 12 (.bin .eql (.t 11) (oi 0)),ot 13 (.mv (.t 12)),og 14 (.fad 2 (.x 3)) 13 true,og 15 (.ld (.t 14)) 13 true,og 16 (.len 1 (.t 15)) 13 true,og 17 (.bin .eql (.t 16) (oi 0)) 13 true,ox 18 (.pick (.t 13) (.t 17) (.c (.bool false)))]) (.cond (.x 18) (.seq (.reg [ot 19 (.fad 0 (.x 2)),ot 20 (.ldn 2 (.t 19)),ot 21 (.fad 0 (.x 3)),ot 22 (.ldn 2 (.t 21)),ot 23 (.call 87 [.t 20,.t 22]),ot 24 (.build [(.bool false),.nils,.nils] [(0,2,.t 23)]),on (.stn 3 (.x 4) (.t 24))]) .ret) .skip)) (.seq (.regd [ot 25 (.fad 0 (.x 2)),ot 26 (.ldn 2 (.t 25)),ot 27 (.ldn 3 (.x 3)),ot 28 (.call 90 [.t 27]),ot 29 (.call 89 [.t 26,.t 28]),ot 30 (.fad 0 (.x 3)),ot 31 (.ldn 2 (.t 30)),ot 32 (.ldn 3 (.x 2)),ot 33 (.call 90 [.t 32]),ot 34 (.call 89 [.t 31,.t 33]),ot 35 (.call 87 [.t 29,.t 34]),ot 36 (.ldn 3 (.x 2)),ot 37 (.call 90 [.t 36]),ot 38 (.ldn 3 (.x 3)),ot 39 (.call 90 [.t 38]),ot 40 (.call 91 [.t 37,.t 39]),ot 41 (.call 88 [.t 35,.t 40]),on (.stn 3 (.x 4) (.t 41))]) .ret))))
def w1A : List RV := [.cn 3 4]
theorem y1B : x3e.nb = 0 := rfl
theorem w3Q : IsFn x3e 38 y8i w1A := .k func38 rfl (by kernel_rfl)
noncomputable def x3t : FnD := ⟨prog,[0,1,2,4,5,8,13,23],[],25,false⟩
def y4a : DC := (.seq (.reg [ox 2 (.box (.x 0)),ox 4 (.mv (oi 0))]) (.seq (.seq (.reg [ot 6 (.ldn 2 (.x 2)),ot 7 (.call 92 [.t 6]),ox 8 (.un .not (.t 7))]) (.cond (.x 8) (.seq (.reg [ox 4 (.mv (oi (-1)))]) .ret) .skip)) (.seq (.seq (.reg [ox 5 (.mv (oi 0))]) (.block 0 (.loop (.seq (.seq (.reg [om 9 5,ot 10 (.fad 1 (.x 2)),ot 11 (.ld (.t 10)),ot 12 (.len 4 (.t 11)),ox 13 (.bin .lss (.t 9) (.t 12))]) (.cond (.x 13) .skip (.exit 0))) (.seq (.block 1 (.seq (.reg [ot 16 (.fad 1 (.x 2)),ot 17 (.ld (.t 16)),om 18 5,ot 19 (.iad 4 (.t 17) (.t 18)),ot 20 (.fad 0 (.t 19)),ot 21 (.ld (.t 20)),om 22 1,ox 23 (.bin .eql (.t 21) (.t 22))]) (.cond (.x 23) (.seq (.reg [om 24 5,ow 4 24]) .ret) .skip))) (.reg [om 14 5,ot 15 (.bin .add (.t 14) (oi 1)),ow 5 15])))))) (.seq (.reg [ox 4 (.mv (oi (-1)))]) .ret))))
def x7Q : List RV := [.t 4]
theorem w0O : IsFn x3t 42 y4a x7Q := .k func42 rfl (by kernel_rfl)
noncomputable def z89 : FnD := ⟨prog,[0,2,5],[],10,false⟩
def z5E : DC := (.seq (.reg [ox 2 (.mv (oi 0))]) (.seq (.seq (.reg [om 3 0,ot 4 (.len 1 (.t 3)),ox 5 (.bin .eql (.t 4) (oi 0))]) (.cond (.x 5) (.seq (.reg [ox 2 (.mv (oi 0))]) .ret) .skip)) (.seq (.reg [om 6 0,ot 7 (.iad 1 (.t 6) (oi 0)),ot 8 (.ld (.t 7)),ot 9 (.len 3 (.t 8)),ow 2 9]) .ret)))
def y5r : List RV := [.t 2]
theorem y6H : IsFn z89 54 z5E y5r := .k func54 rfl (by kernel_rfl)
noncomputable def x29 : FnD := ⟨prog,[0,1,2,6],[],13,false⟩
def y8e : DC := (.seq (.reg [ox 1 (.box (.x 0)),ox 2 (.alloc [(.bool false),.nils])]) (.seq (.seq (.reg [ot 3 (.fad 2 (.x 1)),ot 4 (.ld (.t 3)),ot 5 (.len 1 (.t 4)),ox 6 (.bin .eql (.t 5) (oi 0))]) (.cond (.x 6) (.seq (.reg [ot 7 (.bsl 1 [(.int .u32 0)] [(0,1,(.c (.int .u32 1)))]),ot 8 (.build [(.bool false),.nils] [(1,1,.t 7)]),on (.stn 2 (.x 2) (.t 8))]) .ret) .skip)) (.seq (.reg [ot 9 (.fad 2 (.x 1)),ot 10 (.ld (.t 9)),ot 11 (.call 96 [.t 10]),ot 12 (.build [(.bool false),.nils] [(1,1,.t 11)]),on (.stn 2 (.x 2) (.t 12))]) .ret)))
def w1w : List RV := [.cn 2 2]
theorem y9w : x29.nb = 0 := rfl
theorem w3M : IsFn x29 58 y8e w1w := .k func58 rfl (by kernel_rfl)
noncomputable def z9d : FnD := ⟨prog,[0,1,4],[],10,false⟩
def z5H : DC := (.seq (.reg [ox 4 (.alloc [(.bool false),.nils,.nils])]) (.seq (.reg [om 5 0,ot 6 (.call 97 [.t 5]),om 7 1,ot 8 (.call 97 [.t 7]),ot 9 (.call 55 [.t 6,.t 8]),on (.stn 3 (.x 4) (.t 9))]) .ret))
def y5t : List RV := [.cn 3 4]
theorem y6K : IsFn z9d 62 z5H y5t := .k func62 rfl (by kernel_rfl)
noncomputable def y4v : FnD := ⟨prog,[0,1,4],[],9,false⟩
def z8G : DC := (.seq (.reg [ox 4 (.mv (.c (.bool false)))]) (.seq (.reg [om 5 0,om 6 1,ot 7 (.call 155 [.t 5,.t 6]),ot 8 (.bin .geq (.t 7) (oi 0)),ow 4 8]) .ret))
def x1y : List RV := [.t 4]
theorem x4i : IsFn y4v 82 z8G x1y := .k func82 rfl (by kernel_rfl)
noncomputable def z9h : FnD := ⟨prog,[0,1,2,4],[],7,false⟩
def z8C : DC := (.seq (.reg [ox 1 (.box (.x 0)),ox 2 (.alloc [(.bool false),.nils,.nils])]) (.seq (.seq (.reg [ot 3 (.ldn 3 (.x 1)),ox 4 (.call 158 [.t 3])]) (.cond (.x 4) (.seq (.reg [ot 5 (.ldn 3 (.x 1)),on (.stn 3 (.x 2) (.t 5))]) .ret) .skip)) (.seq (.reg [ot 6 (.build [(.bool false),.nils,.nils] []),on (.stn 3 (.x 2) (.t 6))]) .ret)))
def x1v : List RV := [.cn 3 2]
theorem z57 : z9h.nb = 0 := rfl
theorem x4e : IsFn z9h 86 z8C x1v := .k func86 rfl (by kernel_rfl)
noncomputable def y6u : FnD := ⟨prog,[0,1,2,6],[],10,false⟩
def y3Z : DC := (.seq (.reg [ox 1 (.box (.x 0)),ox 2 (.mv (.c .nils))]) (.seq (.seq (.reg [ot 3 (.fad 2 (.x 1)),ot 4 (.ld (.t 3)),ot 5 (.len 1 (.t 4)),ox 6 (.bin .eql (.t 5) (oi 0))]) (.cond (.x 6) (.seq (.reg [ot 7 (.call 166 []),ow 2 7]) .ret) .skip)) (.seq (.reg [ot 8 (.fad 2 (.x 1)),ot 9 (.ld (.t 8)),ow 2 9]) .ret)))
def x7F : List RV := [.t 2]
theorem y2V : y6u.nb = 0 := rfl
theorem w0D : IsFn y6u 90 y3Z x7F := .k func90 rfl (by kernel_rfl)
noncomputable def y2m : FnD := ⟨prog,[0,1,2,17],[],38,false⟩
def y0O : DC := (.seq (.reg [ox 1 (.box (.x 0)),ox 2 (.mv (.c (.bool false)))]) (.seq (.seq (.reg [ot 3 (.fad 0 (.x 1)),ot 4 (.ldn 2 (.t 3)),ot 5 (.call 173 [.t 4]),ot 6 (.un .not (.t 5)),ot 7 (.mv (.t 6)),og 8 (.fad 2 (.x 1)) 7 false,og 9 (.ld (.t 8)) 7 false,og 10 (.call 174 [.t 9]) 7 false,og 11 (.un .not (.t 10)) 7 false,ot 12 (.pick (.t 7) (.c (.bool true)) (.t 11)),ot 13 (.mv (.t 12)),og 14 (.fad 2 (.x 1)) 13 false,og 15 (.ld (.t 14)) 13 false,og 16 (.call 115 [.t 15]) 13 false,ox 17 (.pick (.t 13) (.c (.bool true)) (.t 16))]) (.cond (.x 17) (.seq (.reg [ox 2 (.mv (.c (.bool false)))]) .ret) .skip)) (.seq (.reg [ot 18 (.fad 2 (.x 1)),ot 19 (.ld (.t 18)),ot 20 (.len 1 (.t 19)),ot 21 (.bin .eql (.t 20) (oi 0)),ot 22 (.mv (.t 21)),og 23 (.fad 0 (.x 1)) 22 false,og 24 (.fad 1 (.t 23)) 22 false,og 25 (.ld (.t 24)) 22 false,og 26 (.len 1 (.t 25)) 22 false,og 27 (.bin .gtr (.t 26) (oi 0)) 22 false,og 28 (.mv (.t 27)) 22 false,og 29 (.fad 0 (.x 1)) 28 true,og 30 (.fad 1 (.t 29)) 28 true,og 31 (.ld (.t 30)) 28 true,og 32 (.fad 2 (.x 1)) 28 true,og 33 (.ld (.t 32)) 28 true,og 34 (.call 175 [.t 31,.t 33]) 28 true,og 35 (.call 115 [.t 34]) 28 true,og 36 (.pick (.t 28) (.t 35) (.c (.bool false))) 22 false,ot 37 (.pick (.t 22) (.c (.bool true)) (.t 36)),ow 2 37]) .ret)))
def x5e : List RV := [.t 2]
theorem z1S : y2m.nb = 0 := rfl
theorem x60 : IsFn y2m 94 y0O x5e := .k func94 rfl (by kernel_rfl)
noncomputable def y1d : FnD := ⟨prog,[0,2,3,6,10,38],[],39,false⟩
def z7f : DC := (.seq (.reg [ox 2 (.mv (.c (.bool false)))]) (.seq (.seq (.reg [om 4 0,ot 5 (.len 1 (.t 4)),ox 6 (.bin .gtr (.t 5) (oi 96))]) (.cond (.x 6) (.seq (.reg [ox 2 (.mv (.c (.bool false)))]) .ret) .skip)) (.seq (.seq (.reg [ox 3 (.mv (oi 0))]) (.block 0 (.loop (.seq (.seq (.reg [om 7 3,om 8 0,ot 9 (.len 1 (.t 8)),ox 10 (.bin .lss (.t 7) (.t 9))]) (.cond (.x 10) .skip (.exit 0))) (.seq (.block 1 (.seq (.regd [om 13 0,om 14 3,ot 15 (.iad 1 (.t 13) (.t 14)),ot 16 (.ld (.t 15)),ot 17 (.len 3 (.t 16)),ot 18 (.bin .lss (.t 17) (oi 1)),ot 19 (.mv (.t 18)),og 20 (.mv (.x 0)) 19 false,og 21 (.mv (.x 3)) 19 false,og 22 (.iad 1 (.t 20) (.t 21)) 19 false,og 23 (.ld (.t 22)) 19 false,og 24 (.len 3 (.t 23)) 19 false,og 25 (.bin .gtr (.t 24) (oi 96)) 19 false,ot 26 (.pick (.t 19) (.c (.bool true)) (.t 25)),ot 27 (.mv (.t 26)),og 28 (.mv (.x 0)) 27 false,og 29 (.mv (.x 3)) 27 false,og 30 (.iad 1 (.t 28) (.t 29)) 27 false,og 31 (.ld (.t 30)) 27 false,og 32 (.len 3 (.t 31)) 27 false,og 33 (.mv (.x 0)) 27 false,og 34 (.iad 1 (.t 33) (oi 0)) 27 false,og 35 (.ld (.t 34)) 27 false,og 36 (.len 3 (.t 35)) 27 false,og 37 (.bin .neq (.t 32) (.t 36)) 27 false,ox 38 (.pick (.t 27) (.c (.bool true)) (.t 37))]) (.cond (.x 38) (.seq (.reg [ox 2 (.mv (.c (.bool false)))]) .ret) .skip))) (.reg [om 11 3,ot 12 (.bin .add (.t 11) (oi 1)),ow 3 12])))))) (.seq (.reg [ox 2 (.mv (.c (.bool true)))]) .ret))))
def y68 : List RV := [.t 2]
theorem x0I : IsFn y1d 110 z7f y68 := .k func110 rfl (by kernel_rfl)
noncomputable def x3m : FnD := ⟨prog,[0,1,2,3,4,5,6,7,8,9,24,33],[],53,false⟩
def y8s : DC := (.seq (.reg [ox 2 (.box (.x 0)),ox 3 (.box (.x 1)),ox 4 (.alloc [(.bool false),.nils]),ox 5 (.alloc [(.bool false),.nils]),ox 6 (.mv (.c (.bool false)))]) (.seq (.regd [ot 10 (.ldn 2 (.x 2)),ot 11 (.call 95 [.t 10]),ot 12 (.ldn 2 (.x 3)),ot 13 (.call 95 [.t 12]),on (.stn 2 (.x 2) (.t 11)),on (.stn 2 (.x 3) (.t 13))]) (.seq (.reg [ot 15 (.fad 1 (.x 2)),ot 16 (.ld (.t 15)),ot 17 (.fad 1 (.x 3)),ot 18 (.ld (.t 17)),ot 19 (.call 189 [.t 16,.t 18]),ot 14 (.mv (.t 19)),ot 20 (.ext (.t 14) 0),ot 21 (.ext (.t 14) 1),ot 22 (.ext (.t 14) 2),ow 7 20,ow 8 21,ow 9 22]) (.seq (.seq (.reg [om 23 9,ox 24 (.un .not (.t 23))]) (.cond (.x 24) (.seq (.reg [ot 25 (.build [(.bool false),.nils] []),ot 26 (.build [(.bool false),.nils] []),on (.stn 2 (.x 4) (.t 25)),on (.stn 2 (.x 5) (.t 26)),ox 6 (.mv (.c (.bool false)))]) .ret) .skip)) (.seq (.seq (.reg [ot 27 (.fad 0 (.x 2)),ot 28 (.ld (.t 27)),ot 29 (.mv (.t 28)),og 30 (.mv (.x 8)) 29 true,og 31 (.len 1 (.t 30)) 29 true,og 32 (.bin .gtr (.t 31) (oi 0)) 29 true,ox 33 (.pick (.t 29) (.t 32) (.c (.bool false)))]) (.cond (.x 33) (.seq (.reg [om 34 7,ot 35 (.bsl 1 [(.int .u32 0)] [(0,1,(.c (.int .u32 1)))]),ot 36 (.call 117 [.t 34,.t 35]),ow 7 36]) (.reg [ot 38 (.fad 1 (.x 3)),ot 39 (.ld (.t 38)),om 40 8,ot 41 (.call 118 [.t 39,.t 40]),ot 37 (.mv (.t 41)),ot 42 (.ext (.t 37) 0),ot 43 (.ext (.t 37) 1),ow 8 42])) .skip)) (.seq (.reg [ot 44 (.fad 0 (.x 2)),ot 45 (.ld (.t 44)),ot 46 (.fad 0 (.x 3)),ot 47 (.ld (.t 46)),ot 48 (.beq true (.t 45) (.t 47)),om 49 7,ot 50 (.call 116 [.t 48,.t 49]),om 51 8,ot 52 (.call 116 [(.c (.bool false)),.t 51]),on (.stn 2 (.x 4) (.t 50)),on (.stn 2 (.x 5) (.t 52)),ox 6 (.mv (.c (.bool true)))]) .ret))))))
def w1K : List RV := [.cn 2 4, .cn 2 5, .t 6]
theorem z7O : x3m.nb = 0 := rfl
theorem w30 : IsFn x3m 114 y8s w1K := .k func114 rfl (by kernel_rfl)
noncomputable def x3k : FnD := ⟨prog,[0,1,4,5,6,7,8,9,17,21],[],44,false⟩
def y8p : DC := (.seq (.reg [ox 4 (.mv (.c .nils)),ox 5 (.mv (.c (.bool false)))]) (.seq (.reg [om 10 0,ot 11 (.call 96 [.t 10]),om 12 1,ot 13 (.call 96 [.t 12]),ow 0 11,ow 1 13]) (.seq (.seq (.reg [om 14 0,om 15 1,ot 16 (.call 192 [.t 14,.t 15]),ox 17 (.bin .lss (.t 16) (oi 0))]) (.cond (.x 17) (.seq (.reg [ox 4 (.mv (.c .nils)),ox 5 (.mv (.c (.bool false)))]) .ret) .skip)) (.seq (.reg [ox 6 (.mv (.c .nils))]) (.seq (.reg [ox 7 (.mv (.c (.int .u64 0)))]) (.seq (.seq (.reg [ox 8 (.mv (oi 0))]) (.block 0 (.loop (.seq (.seq (.reg [om 18 8,om 19 0,ot 20 (.len 1 (.t 19)),ox 21 (.bin .lss (.t 18) (.t 20))]) (.cond (.x 21) .skip (.exit 0))) (.seq (.block 1 (.seq (.reg [om 24 0,om 25 8,ot 26 (.call 190 [.t 24,.t 25]),ot 27 (.bin .add (.t 26) (.c (.int .u64 4294967296))),om 28 1,om 29 8,ot 30 (.call 190 [.t 28,.t 29]),ot 31 (.bin .sub (.t 27) (.t 30)),om 32 7,ot 33 (.bin .sub (.t 31) (.t 32)),ow 9 33]) (.reg [om 34 6,om 35 9,ot 36 (.conv .u32 (.t 35)),ot 37 (.bsl 1 [(.int .u32 0)] [(0,1,.t 36)]),ot 38 (.app 173 1 4 (.t 34) (.t 37)),om 39 9,ot 40 (.bin .shr (.t 39) (.c (.int .u64 32))),ot 41 (.bin .sub (.c (.int .u64 1)) (.t 40)),ow 6 38,ow 7 41]))) (.reg [om 22 8,ot 23 (.bin .add (.t 22) (oi 1)),ow 8 23])))))) (.seq (.reg [om 42 6,ot 43 (.call 191 [.t 42]),ow 4 43,ox 5 (.mv (.c (.bool true)))]) .ret)))))))
def w1H : List RV := [.t 4, .t 5]
theorem w4C : x3k.nb = 0 := rfl
theorem w3X : IsFn x3k 118 y8p w1H := .k func118 rfl (by kernel_rfl)
noncomputable def y8P : FnD := ⟨prog,[0,2,3,4,5,6,7,8,21],[],23,false⟩
def y0U : DC := (.seq (.reg [ox 2 (.mv (.c (.bool false)))]) (.seq (.seq (.reg [ox 5 (.mv (.x 0)),ox 6 (.len 1 (.x 5)),ox 7 (.mv (oi 0))]) (.block 0 (.loop (.seq (.reg [ox 8 (.bin .lss (.x 7) (.x 6))]) (.seq (.cond (.x 8) .skip (.exit 0)) (.seq (.block 1 (.seq (.reg [om 9 7,ot 10 (.iad 1 (.x 5) (.x 7)),ot 11 (.ld (.t 10)),ow 3 9,ow 4 11]) (.seq (.reg [om 12 4,ot 13 (.call 143 [.t 12]),ot 14 (.un .not (.t 13)),ot 15 (.mv (.t 14)),og 16 (.mv (.x 0)) 15 false,og 17 (.mv (.x 3)) 15 false,og 18 (.slc 1 (.t 16) none (some (.t 17))) 15 false,og 19 (.mv (.x 4)) 15 false,og 20 (.call 198 [.t 18,.t 19]) 15 false,ox 21 (.pick (.t 15) (.c (.bool true)) (.t 20))]) (.cond (.x 21) (.seq (.reg [ox 2 (.mv (.c (.bool false)))]) .ret) .skip)))) (.reg [ot 22 (.bin .add (.x 7) (oi 1)),ow 7 22]))))))) (.seq (.reg [ox 2 (.mv (.c (.bool true)))]) .ret)))
def x5k : List RV := [.t 2]
theorem x66 : IsFn y8P 138 y0U x5k := .k func138 rfl (by kernel_rfl)
noncomputable def z7B : FnD := ⟨prog,[0,1,2,3],[],10,false⟩
def z40 : DC := (.seq (.reg [ox 2 (.box (.x 0)),ox 3 (.mv (.c (.bool false)))]) (.seq (.reg [ot 4 (.fad 3 (.x 2)),ot 5 (.ld (.t 4)),ot 6 (.ld (.x 1)),ot 7 (.iad 5 (.t 5) (.t 6)),ot 8 (.fad 0 (.t 7)),ot 9 (.ld (.t 8)),ow 3 9]) .ret))
def y26 : List RV := [.t 3]
theorem y4S : IsFn z7B 150 z40 y26 := .k func150 rfl (by kernel_rfl)
noncomputable def y2o : FnD := ⟨prog,[0,1,2,3,14,19],[],41,false⟩
def y0Q : DC := (.seq (.reg [ox 1 (.box (.x 0)),ox 2 (.mv (.c (.bool false)))]) (.seq (.block 0 (.seq (.reg [ot 4 (.fad 0 (.x 1)),ot 5 (.ldn 2 (.t 4)),ot 6 (.call 218 [.t 5]),ot 7 (.un .not (.t 6)),ot 8 (.mv (.t 7)),og 9 (.fad 2 (.x 1)) 8 false,og 10 (.ld (.t 9)) 8 false,og 11 (.call 219 [.t 10]) 8 false,og 12 (.un .not (.t 11)) 8 false,ot 13 (.pick (.t 8) (.c (.bool true)) (.t 12)),ow 3 13]) (.cond (.x 3) (.seq (.reg [ox 2 (.mv (.c (.bool false)))]) .ret) (.seq (.reg [ot 15 (.fad 2 (.x 1)),ot 16 (.ld (.t 15)),ot 17 (.len 1 (.t 16)),ot 18 (.bin .eql (.t 17) (oi 0)),ow 14 18]) (.cond (.x 14) (.seq (.reg [ox 2 (.mv (.c (.bool true)))]) .ret) (.seq (.regd [ot 20 (.fad 0 (.x 1)),ot 21 (.fad 1 (.t 20)),ot 22 (.ld (.t 21)),ot 23 (.len 1 (.t 22)),ot 24 (.bin .eql (.t 23) (oi 0)),ot 25 (.mv (.t 24)),og 26 (.fad 2 (.x 1)) 25 false,og 27 (.ld (.t 26)) 25 false,og 28 (.call 166 []) 25 false,og 29 (.call 165 [.t 27,.t 28]) 25 false,og 30 (.bin .eql (.t 29) (oi 0)) 25 false,ot 31 (.pick (.t 25) (.c (.bool true)) (.t 30)),ow 19 31]) (.cond (.x 19) (.seq (.reg [ox 2 (.mv (.c (.bool false)))]) .ret) .skip))))))) (.seq (.reg [ot 32 (.fad 0 (.x 1)),ot 33 (.fad 1 (.t 32)),ot 34 (.ld (.t 33)),ot 35 (.fad 2 (.x 1)),ot 36 (.ld (.t 35)),ot 37 (.call 163 [.t 34,.t 36]),ot 38 (.call 166 []),ot 39 (.call 165 [.t 37,.t 38]),ot 40 (.bin .eql (.t 39) (oi 0)),ow 2 40]) .ret)))
def x5g : List RV := [.t 2]
theorem z05 : y2o.nb = 0 := rfl
theorem x62 : IsFn y2o 158 y0Q x5g := .k func158 rfl (by kernel_rfl)
noncomputable def x26 : FnD := ⟨prog,[0,1,4,5,6,7,8,9,10,18,22,23,24,25,32],[],50,false⟩
def y8b : DC := (.seq (.reg [ox 4 (.mv (.c .nils)),ox 5 (.mv (.c (.bool false)))]) (.seq (.reg [om 11 0,ot 12 (.call 168 [.t 11]),om 13 1,ot 14 (.call 168 [.t 13]),ow 0 12,ow 1 14]) (.seq (.seq (.reg [om 15 0,om 16 1,ot 17 (.call 165 [.t 15,.t 16]),ox 18 (.bin .lss (.t 17) (oi 0))]) (.cond (.x 18) (.seq (.reg [ox 4 (.mv (.c .nils)),ox 5 (.mv (.c (.bool false)))]) .ret) .skip)) (.seq (.reg [om 19 0,ot 20 (.len 1 (.t 19)),ot 21 (.mks 1 4 [(.int .u32 0)] (.t 20) (.t 20)),ow 6 21]) (.seq (.reg [ox 7 (.mv (.c (.int .u32 0)))]) (.seq (.seq (.reg [ox 22 (.mv (.x 0)),ox 23 (.len 1 (.x 22)),ox 24 (.mv (oi 0))]) (.block 0 (.loop (.seq (.reg [ox 25 (.bin .lss (.x 24) (.x 23))]) (.seq (.cond (.x 25) .skip (.exit 0)) (.seq (.block 1 (.seq (.reg [om 26 24,ot 27 (.iad 1 (.x 22) (.x 24)),ot 28 (.ld (.t 27)),ow 8 26,ow 9 28]) (.seq (.reg [ox 10 (.mv (.c (.int .u32 0)))]) (.seq (.seq (.reg [om 29 8,om 30 1,ot 31 (.len 1 (.t 30)),ox 32 (.bin .lss (.t 29) (.t 31))]) (.cond (.x 32) (.reg [om 33 1,om 34 8,ot 35 (.iad 1 (.t 33) (.t 34)),ot 36 (.ld (.t 35)),ow 10 36]) .skip)) (.reg [om 38 6,om 39 8,om 40 9,om 41 10,om 42 7,ot 43 (.call 221 [.t 40,.t 41,.t 42]),ot 37 (.mv (.t 43)),ot 44 (.ext (.t 37) 0),ot 45 (.ext (.t 37) 1),ot 46 (.iad 1 (.t 38) (.t 39)),on (.st (.t 46) (.t 44)),ow 7 45]))))) (.reg [ot 47 (.bin .add (.x 24) (oi 1)),ow 24 47]))))))) (.seq (.reg [om 48 6,ot 49 (.call 169 [.t 48]),ow 4 49,ox 5 (.mv (.c (.bool true)))]) .ret)))))))
def w1t : List RV := [.t 4, .t 5]
theorem w4w : x26.nb = 0 := rfl
theorem w3J : IsFn x26 162 y8b w1t := .k func162 rfl (by kernel_rfl)
noncomputable def x3g : FnD := ⟨prog,[0],[],2,false⟩
def y30 : DC := (.seq (.reg [ox 0 (.mv (.c .nils))]) (.seq (.reg [ot 1 (.bsl 1 [(.int .u32 0)] [(0,1,(.c (.int .u32 1)))]),ow 0 1]) .ret))
def x7G : List RV := [.t 0]
theorem w0E : IsFn x3g 166 y30 x7G := .k func166 rfl (by kernel_rfl)
noncomputable def y1l : FnD := ⟨prog,[0,1,2,4,5,6,38,43,56,59,69],[],70,false⟩
def z7t : DC := (.seq (.reg [ox 2 (.box (.x 0)),ox 4 (.mv (.c (.bool false)))]) (.seq (.seq (.reg [ot 7 (.fad 1 (.x 2)),ot 8 (.ld (.t 7)),ot 9 (.bin .neq (.t 8) (oi 1)),ot 10 (.mv (.t 9)),og 11 (.fad 1 (.x 2)) 10 true,og 12 (.ld (.t 11)) 10 true,og 13 (.bin .neq (.t 12) (oi 2)) 10 true,ot 14 (.pick (.t 10) (.t 13) (.c (.bool false))),ot 15 (.mv (.t 14)),og 16 (.fad 3 (.x 2)) 15 false,og 17 (.ld (.t 16)) 15 false,og 18 (.len 5 (.t 17)) 15 false,og 19 (.mv (.x 1)) 15 false,og 20 (.bin .neq (.t 18) (.t 19)) 15 false,ot 21 (.pick (.t 15) (.c (.bool true)) (.t 20)),ot 22 (.mv (.t 21)),og 23 (.fad 2 (.x 2)) 22 false,og 24 (.ld (.t 23)) 22 false,og 25 (.len 1 (.t 24)) 22 false,og 26 (.bin .gtr (.t 25) (oi 32)) 22 false,ot 27 (.pick (.t 22) (.c (.bool true)) (.t 26)),ot 28 (.mv (.t 27)),og 29 (.fad 1 (.x 2)) 28 false,og 30 (.ld (.t 29)) 28 false,og 31 (.bin .eql (.t 30) (oi 1)) 28 false,og 32 (.mv (.t 31)) 28 false,og 33 (.fad 2 (.x 2)) 32 true,og 34 (.ld (.t 33)) 32 true,og 35 (.len 1 (.t 34)) 32 true,og 36 (.bin .gtr (.t 35) (oi 0)) 32 true,og 37 (.pick (.t 32) (.t 36) (.c (.bool false))) 28 false,ox 38 (.pick (.t 28) (.c (.bool true)) (.t 37))]) (.cond (.x 38) (.seq (.reg [ox 4 (.mv (.c (.bool false)))]) .ret) .skip)) (.seq (.seq (.reg [ox 5 (.mv (oi 0))]) (.block 0 (.loop (.seq (.seq (.reg [om 39 5,ot 40 (.fad 2 (.x 2)),ot 41 (.ld (.t 40)),ot 42 (.len 1 (.t 41)),ox 43 (.bin .lss (.t 39) (.t 42))]) (.cond (.x 43) .skip (.exit 0))) (.seq (.block 1 (.seq (.regd [ot 46 (.fad 2 (.x 2)),ot 47 (.ld (.t 46)),om 48 5,ot 49 (.slc 1 (.t 47) none (some (.t 48))),ot 50 (.fad 2 (.x 2)),ot 51 (.ld (.t 50)),om 52 5,ot 53 (.iad 1 (.t 51) (.t 52)),ot 54 (.ld (.t 53)),ot 55 (.call 227 [.t 49,.t 54]),ox 56 (.bin .geq (.t 55) (oi 0))]) (.cond (.x 56) (.seq (.reg [ox 4 (.mv (.c (.bool false)))]) .ret) .skip))) (.reg [om 44 5,ot 45 (.bin .add (.t 44) (oi 1)),ow 5 45])))))) (.seq (.seq (.reg [ox 6 (.mv (oi 0))]) (.block 2 (.loop (.seq (.seq (.reg [om 57 6,om 58 1,ox 59 (.bin .lss (.t 57) (.t 58))]) (.cond (.x 59) .skip (.exit 2))) (.seq (.block 3 (.seq (.regd [ot 62 (.ldn 4 (.x 2)),ot 63 (.fad 3 (.x 2)),ot 64 (.ld (.t 63)),om 65 6,ot 66 (.iad 5 (.t 64) (.t 65)),ot 67 (.ldn 5 (.t 66)),ot 68 (.call 228 [.t 62,.t 67]),ox 69 (.un .not (.t 68))]) (.cond (.x 69) (.seq (.reg [ox 4 (.mv (.c (.bool false)))]) .ret) .skip))) (.reg [om 60 6,ot 61 (.bin .add (.t 60) (oi 1)),ow 6 61])))))) (.seq (.reg [ox 4 (.mv (.c (.bool true)))]) .ret)))))
def y7m : List RV := [.t 4]
theorem x0W : IsFn y1l 170 z7t y7m := .k func170 rfl (by kernel_rfl)
noncomputable def y8O : FnD := ⟨prog,[0,2],[],15,false⟩
def y0S : DC := (.seq (.reg [ox 2 (.mv (.c (.bool false)))]) (.seq (.reg [om 3 0,ot 4 (.len 1 (.t 3)),ot 5 (.bin .eql (.t 4) (oi 0)),ot 6 (.mv (.t 5)),og 7 (.mv (.x 0)) 6 false,og 8 (.mv (.x 0)) 6 false,og 9 (.len 1 (.t 8)) 6 false,og 10 (.bin .sub (.t 9) (oi 1)) 6 false,og 11 (.iad 1 (.t 7) (.t 10)) 6 false,og 12 (.ld (.t 11)) 6 false,og 13 (.bin .neq (.t 12) (.c (.int .u32 0))) 6 false,ot 14 (.pick (.t 6) (.c (.bool true)) (.t 13)),ow 2 14]) .ret))
def x5i : List RV := [.t 2]
theorem x64 : IsFn y8O 174 y0S x5i := .k func174 rfl (by kernel_rfl)
noncomputable def y4r : FnD := ⟨prog,[0,1,3,4,5,6,10],[],23,false⟩
def z8x : DC := (.seq (.reg [ox 3 (.box (.x 1)),ox 4 (.mv (.c .nils))]) (.seq (.reg [ox 5 (.mv (.c .nils))]) (.seq (.seq (.reg [ox 6 (.mv (oi 0))]) (.block 0 (.loop (.seq (.seq (.reg [om 7 6,om 8 0,ot 9 (.len 3 (.t 8)),ox 10 (.bin .lss (.t 7) (.t 9))]) (.cond (.x 10) .skip (.exit 0))) (.seq (.block 1 (.regd [om 13 5,om 14 0,om 15 6,ot 16 (.iad 3 (.t 14) (.t 15)),ot 17 (.ldn 3 (.t 16)),ot 18 (.ldn 3 (.x 3)),ot 19 (.call 27 [.t 17,.t 18]),ot 20 (.bsl 3 [(.bool false),.nils,.nils] [(0,3,.t 19)]),ot 21 (.app 58 3 56 (.t 13) (.t 20)),ow 5 21])) (.reg [om 11 6,ot 12 (.bin .add (.t 11) (oi 1)),ow 6 12])))))) (.seq (.reg [om 22 5,ow 4 22]) .ret))))
def x1r : List RV := [.t 4]
theorem x39 : IsFn y4r 186 z8x x1r := .k func186 rfl (by kernel_rfl)
noncomputable def x3i : FnD := ⟨prog,[0,1,4,8],[],14,false⟩
def y31 : DC := (.seq (.reg [ox 4 (.mv (.c (.int .u64 0)))]) (.seq (.seq (.reg [om 5 1,om 6 0,ot 7 (.len 1 (.t 6)),ox 8 (.bin .geq (.t 5) (.t 7))]) (.cond (.x 8) (.seq (.reg [ox 4 (.mv (.c (.int .u64 0)))]) .ret) .skip)) (.seq (.reg [om 9 0,om 10 1,ot 11 (.iad 1 (.t 9) (.t 10)),ot 12 (.ld (.t 11)),ot 13 (.conv .u64 (.t 12)),ow 4 13]) .ret)))
def x7H : List RV := [.t 4]
theorem w0F : IsFn x3i 190 y31 x7H := .k func190 rfl (by kernel_rfl)
noncomputable def y4C : FnD := ⟨prog,[0,2],[],17,false⟩
def z8N : DC := (.seq (.reg [ox 2 (.mv (.c (.bool false)))]) (.seq (.reg [om 3 0,ot 4 (.bin .geq (.t 3) (.c (.int .u8 97))),ot 5 (.mv (.t 4)),og 6 (.mv (.x 0)) 5 true,og 7 (.bin .leq (.t 6) (.c (.int .u8 122))) 5 true,ot 8 (.pick (.t 5) (.t 7) (.c (.bool false))),ot 9 (.mv (.t 8)),og 10 (.mv (.x 0)) 9 false,og 11 (.bin .geq (.t 10) (.c (.int .u8 65))) 9 false,og 12 (.mv (.t 11)) 9 false,og 13 (.mv (.x 0)) 12 true,og 14 (.bin .leq (.t 13) (.c (.int .u8 90))) 12 true,og 15 (.pick (.t 12) (.t 14) (.c (.bool false))) 9 false,ot 16 (.pick (.t 9) (.c (.bool true)) (.t 15)),ow 2 16]) .ret))
def x1F : List RV := [.t 2]
theorem x4p : IsFn y4C 194 z8N x1F := .k func194 rfl (by kernel_rfl)
noncomputable def z5T : FnD := ⟨prog,[0,1,4],[],9,false⟩
def z4h : DC := (.seq (.reg [ox 4 (.mv (.c (.bool false)))]) (.seq (.reg [om 5 0,om 6 1,ot 7 (.call 149 [.t 5,.t 6]),ot 8 (.bin .geq (.t 7) (oi 0)),ow 4 8]) .ret))
def y0r : List RV := [.t 4]
theorem y2E : IsFn z5T 198 z4h y0r := .k func198 rfl (by kernel_rfl)
noncomputable def x3r : FnD := ⟨prog,[0,1,2,3,4,5,15,24],[],50,false⟩
def y38 : DC := (.seq (.reg [ox 2 (.box (.x 0)),ox 3 (.box (.x 1)),ox 4 (.mv (.c (.bool false)))]) (.seq (.reg [ot 6 (.fad 1 (.x 3)),ot 7 (.ldn 3 (.t 6)),ot 8 (.call 158 [.t 7]),ot 9 (.mv (.t 8)),og 10 (.fad 1 (.x 3)) 9 true,og 11 (.ldn 3 (.t 10)) 9 true,og 12 (.call 234 [.t 11]) 9 true,og 13 (.bin .eql (.t 12) (oi 0)) 9 true,ot 14 (.pick (.t 9) (.t 13) (.c (.bool false))),ow 5 14]) (.seq (.block 0 (.seq (.reg [ot 16 (.fad 0 (.x 3)),ot 17 (.ld (.t 16)),ow 15 17]) (.cond (.x 15) (.seq (.reg [om 18 5,ot 19 (.mv (.t 18)),og 20 (.fad 4 (.x 3)) 19 true,og 21 (.ld (.t 20)) 19 true,og 22 (.bin .eql (.t 21) (oi 0)) 19 true,ot 23 (.pick (.t 19) (.t 22) (.c (.bool false))),ow 4 23]) .ret) (.seq (.reg [ot 25 (.fad 1 (.x 2)),ot 26 (.ld (.t 25)),ot 27 (.bin .eql (.t 26) (oi 1)),ow 24 27]) (.cond (.x 24) (.seq (.reg [ot 28 (.fad 1 (.x 3)),ot 29 (.ldn 3 (.t 28)),ot 30 (.call 158 [.t 29]),ot 31 (.mv (.t 30)),og 32 (.fad 4 (.x 3)) 31 true,og 33 (.ld (.t 32)) 31 true,og 34 (.bin .eql (.t 33) (oi 0)) 31 true,ot 35 (.pick (.t 31) (.t 34) (.c (.bool false))),ow 4 35]) .ret) .skip))))) (.seq (.reg [om 36 5,ot 37 (.mv (.t 36)),og 38 (.fad 4 (.x 3)) 37 true,og 39 (.ld (.t 38)) 37 true,og 40 (.bin .geq (.t 39) (oi 0)) 37 true,ot 41 (.pick (.t 37) (.t 40) (.c (.bool false))),ot 42 (.mv (.t 41)),og 43 (.fad 4 (.x 3)) 42 true,og 44 (.ld (.t 43)) 42 true,og 45 (.fad 2 (.x 2)) 42 true,og 46 (.ld (.t 45)) 42 true,og 47 (.len 1 (.t 46)) 42 true,og 48 (.bin .lss (.t 44) (.t 47)) 42 true,ot 49 (.pick (.t 42) (.t 48) (.c (.bool false))),ow 4 49]) .ret))))
def x7O : List RV := [.t 4]
theorem w0M : IsFn x3r 202 y38 x7O := .k func202 rfl (by kernel_rfl)
noncomputable def z7z : FnD := ⟨prog,[0,1,2,4,5,7,8,9],[],21,false⟩
def z4Y : DC := (.seq (.reg [ox 4 (.mv (.c .nils))]) (.seq (.reg [ot 6 (.call 80 [(oi 1)]),ox 5 (.alloc [(.bool false),.nils,.nils]),on (.stn 3 (.x 5) (.t 6))]) (.seq (.seq (.reg [ox 7 (.ld (.x 1)),ox 8 (.mv (oi 0))]) (.block 0 (.loop (.seq (.reg [ox 9 (.bin .lss (.x 8) (.x 7))]) (.seq (.cond (.x 9) .skip (.exit 0)) (.seq (.block 1 (.regd [ot 10 (.ldn 3 (.x 5)),ot 11 (.fad 3 (.x 2)),ot 12 (.ld (.t 11)),om 13 0,ot 14 (.iad 5 (.t 12) (.t 13)),ot 15 (.fad 1 (.t 14)),ot 16 (.ldn 3 (.t 15)),ot 17 (.call 157 [.t 10,.t 16]),on (.stn 3 (.x 5) (.t 17))])) (.reg [ot 18 (.bin .add (.x 8) (oi 1)),ow 8 18]))))))) (.seq (.reg [ot 19 (.ldn 3 (.x 5)),ot 20 (.bsl 3 [(.bool false),.nils,.nils] [(0,3,.t 19)]),ow 4 20]) .ret))))
def y24 : List RV := [.t 4]
theorem y4Q : IsFn z7z 210 z4Y y24 := .k func210 rfl (by kernel_rfl)
noncomputable def y4w : FnD := ⟨prog,[0,1,4,5,6,7,12,19,29],[],42,false⟩
def z8H : DC := (.seq (.reg [ox 4 (.mv (.c .nils))]) (.seq (.reg [om 8 0,om 9 1,ot 10 (.call 242 [.t 8,.t 9]),ow 5 10]) (.seq (.seq (.reg [om 11 5,ox 12 (.bin .eql (.t 11) (oi (-1)))]) (.cond (.x 12) (.seq (.reg [om 13 0,ow 4 13]) .ret) .skip)) (.seq (.seq (.reg [om 14 5,ot 15 (.bin .add (.t 14) (oi 1)),ow 6 15]) (.block 0 (.loop (.seq (.seq (.reg [om 16 6,om 17 0,ot 18 (.len 2 (.t 17)),ox 19 (.bin .lss (.t 16) (.t 18))]) (.cond (.x 19) .skip (.exit 0))) (.seq (.block 1 (.seq (.reg [om 22 0,om 23 6,ot 24 (.iad 2 (.t 22) (.t 23)),ot 25 (.ldn 2 (.t 24)),ox 7 (.alloc [(.str []),(.int .i64 0)]),on (.stn 2 (.x 7) (.t 25))]) (.seq (.reg [om 26 1,ot 27 (.ldn 2 (.x 7)),ot 28 (.callv (.t 26) [.t 27]),ox 29 (.un .not (.t 28))]) (.cond (.x 29) (.seq (.reg [om 30 0,om 31 5,ot 32 (.ldn 2 (.x 7)),ot 33 (.iad 2 (.t 30) (.t 31)),on (.stn 2 (.t 33) (.t 32))]) (.reg [om 34 5,ot 35 (.bin .add (.t 34) (oi 1)),ow 5 35])) .skip)))) (.reg [om 20 6,ot 21 (.bin .add (.t 20) (oi 1)),ow 6 21])))))) (.seq (.reg [om 36 0,om 37 5,ot 38 (.slc 2 (.t 36) (some (.t 37)) none),on (.clr 2 [(.str []),(.int .i64 0)] (.t 38))]) (.seq (.reg [om 39 0,om 40 5,ot 41 (.slc 2 (.t 39) none (some (.t 40))),ow 4 41]) .ret))))))
def x1z : List RV := [.t 4]
theorem x4j : IsFn y4w 214 z8H x1z := .k func214 rfl (by kernel_rfl)
noncomputable def y2j : FnD := ⟨prog,[0,1,2],[],17,false⟩
def y0G : DC := (.seq (.reg [ox 1 (.box (.x 0)),ox 2 (.mv (.c (.bool false)))]) (.seq (.reg [ot 3 (.fad 1 (.x 1)),ot 4 (.ld (.t 3)),ot 5 (.call 219 [.t 4]),ot 6 (.mv (.t 5)),og 7 (.fad 1 (.x 1)) 6 true,og 8 (.ld (.t 7)) 6 true,og 9 (.len 1 (.t 8)) 6 true,og 10 (.bin .gtr (.t 9) (oi 0)) 6 true,og 11 (.mv (.t 10)) 6 true,og 12 (.fad 0 (.x 1)) 11 false,og 13 (.ld (.t 12)) 11 false,og 14 (.un .not (.t 13)) 11 false,og 15 (.pick (.t 11) (.c (.bool true)) (.t 14)) 6 true,ot 16 (.pick (.t 6) (.t 15) (.c (.bool false))),ow 2 16]) .ret))
def x46 : List RV := [.t 2]
theorem z79 : y2j.nb = 0 := rfl
theorem x6S : IsFn y2j 218 y0G x46 := .k func218 rfl (by kernel_rfl)
noncomputable def x27 : FnD := ⟨prog,[0,2,3,4,5,10,11,12,13,14],[],27,false⟩
def y3U : DC := (.seq (.reg [ox 2 (.mv (.c (.int .u64 0))),ox 3 (.mv (.c (.bool false)))]) (.seq (.reg [om 6 0,ot 7 (.call 168 [.t 6]),ow 0 7]) (.seq (.seq (.reg [om 8 0,ot 9 (.len 1 (.t 8)),ox 10 (.bin .gtr (.t 9) (oi 2))]) (.cond (.x 10) (.seq (.reg [ox 2 (.mv (.c (.int .u64 0))),ox 3 (.mv (.c (.bool false)))]) .ret) .skip)) (.seq (.seq (.reg [ox 11 (.mv (.x 0)),ox 12 (.len 1 (.x 11)),ox 13 (.mv (oi 0))]) (.block 0 (.loop (.seq (.reg [ox 14 (.bin .lss (.x 13) (.x 12))]) (.seq (.cond (.x 14) .skip (.exit 0)) (.seq (.block 1 (.seq (.reg [om 15 13,ot 16 (.iad 1 (.x 11) (.x 13)),ot 17 (.ld (.t 16)),ow 4 15,ow 5 17]) (.reg [om 18 2,om 19 5,ot 20 (.conv .u64 (.t 19)),om 21 4,ot 22 (.bin .mul (oi 32) (.t 21)),ot 23 (.bin .shl (.t 20) (.t 22)),ot 24 (.bin .or (.t 18) (.t 23)),ow 2 24]))) (.reg [ot 25 (.bin .add (.x 13) (oi 1)),ow 13 25]))))))) (.seq (.reg [om 26 2,ow 2 26,ox 3 (.mv (.c (.bool true)))]) .ret)))))
def x7z : List RV := [.t 2, .t 3]
theorem w0y : IsFn x27 222 y3U x7z := .k func222 rfl (by kernel_rfl)
noncomputable def z9b : FnD := ⟨prog,[0,1,4,5,6,7,8,9,10,11,12,39,82,102,103,104],[],130,false⟩
def z8y : DC := (.seq (.reg [ox 4 (.mv (.c .nils)),ox 5 (.mv (.c .nils))]) (.seq (.reg [om 13 1,om 14 1,ot 15 (.len 1 (.t 14)),ot 16 (.bin .sub (.t 15) (oi 1)),ot 17 (.iad 1 (.t 13) (.t 16)),ot 18 (.ld (.t 17)),ot 19 (.call 250 [.t 18]),om 20 1,ot 21 (.len 1 (.t 20)),ow 6 19,ow 7 21]) (.seq (.reg [om 22 0,om 23 6,ot 24 (.call 251 [.t 22,.t 23]),om 25 1,om 26 6,ot 27 (.call 251 [.t 25,.t 26]),ot 28 (.call 169 [.t 27]),ow 8 24,ow 9 28]) (.seq (.reg [om 29 0,ot 30 (.len 1 (.t 29)),om 31 7,ot 32 (.bin .sub (.t 30) (.t 31)),ot 33 (.bin .add (.t 32) (oi 1)),ot 34 (.mks 1 4 [(.int .u32 0)] (.t 33) (.t 33)),ow 4 34]) (.seq (.seq (.reg [om 35 4,ot 36 (.len 1 (.t 35)),ot 37 (.bin .sub (.t 36) (oi 1)),ow 10 37]) (.block 0 (.loop (.seq (.seq (.reg [om 38 10,ox 39 (.bin .geq (.t 38) (oi 0))]) (.cond (.x 39) .skip (.exit 0))) (.seq (.block 1 (.seq (.regd [om 42 8,om 43 10,om 44 7,ot 45 (.bin .add (.t 43) (.t 44)),ot 46 (.iad 1 (.t 42) (.t 45)),ot 47 (.ld (.t 46)),om 48 8,om 49 10,om 50 7,ot 51 (.bin .add (.t 49) (.t 50)),ot 52 (.bin .sub (.t 51) (oi 1)),ot 53 (.iad 1 (.t 48) (.t 52)),ot 54 (.ld (.t 53)),om 55 8,om 56 10,om 57 7,ot 58 (.bin .add (.t 56) (.t 57)),ot 59 (.bin .sub (.t 58) (oi 2)),ot 60 (.iad 1 (.t 55) (.t 59)),ot 61 (.ld (.t 60)),om 62 9,om 63 7,ot 64 (.bin .sub (.t 63) (oi 1)),ot 65 (.iad 1 (.t 62) (.t 64)),ot 66 (.ld (.t 65)),om 67 9,om 68 7,ot 69 (.bin .sub (.t 68) (oi 2)),ot 70 (.iad 1 (.t 67) (.t 69)),ot 71 (.ld (.t 70)),ot 72 (.call 252 [.t 47,.t 54,.t 61,.t 66,.t 71]),ow 11 72]) (.seq (.seq (.reg [om 73 8,om 74 10,om 75 10,om 76 7,ot 77 (.bin .add (.t 75) (.t 76)),ot 78 (.bin .add (.t 77) (oi 1)),ot 79 (.slc 1 (.t 73) (some (.t 74)) (some (.t 78))),om 80 9,om 81 11,ox 82 (.call 253 [.t 79,.t 80,.t 81])]) (.cond (.x 82) (.seq (.reg [om 83 8,om 84 10,om 85 10,om 86 7,ot 87 (.bin .add (.t 85) (.t 86)),ot 88 (.bin .add (.t 87) (oi 1)),ot 89 (.slc 1 (.t 83) (some (.t 84)) (some (.t 88))),om 90 9,ot 91 (.call 254 [.t 89,.t 90])]) (.reg [om 92 11,ot 93 (.bin .sub (.t 92) (.c (.int .u64 1))),ow 11 93])) .skip)) (.reg [om 94 4,om 95 10,om 96 11,ot 97 (.conv .u32 (.t 96)),ot 98 (.iad 1 (.t 94) (.t 95)),on (.st (.t 98) (.t 97))])))) (.reg [om 40 10,ot 41 (.bin .sub (.t 40) (oi 1)),ow 10 41])))))) (.seq (.reg [om 99 7,ot 100 (.mks 1 4 [(.int .u32 0)] (.t 99) (.t 99)),ow 5 100]) (.seq (.seq (.reg [om 101 5,ox 102 (.len 1 (.t 101)),ox 103 (.mv (oi 0))]) (.block 2 (.loop (.seq (.reg [ox 104 (.bin .lss (.x 103) (.x 102))]) (.seq (.cond (.x 104) .skip (.exit 2)) (.seq (.block 3 (.seq (.reg [om 105 103,ow 12 105]) (.regd [om 106 5,om 107 12,om 108 8,om 109 12,ot 110 (.bin .add (.t 109) (oi 1)),ot 111 (.iad 1 (.t 108) (.t 110)),ot 112 (.ld (.t 111)),ot 113 (.conv .u64 (.t 112)),ot 114 (.bin .shl (.t 113) (.c (.int .u64 32))),om 115 8,om 116 12,ot 117 (.iad 1 (.t 115) (.t 116)),ot 118 (.ld (.t 117)),ot 119 (.conv .u64 (.t 118)),ot 120 (.bin .or (.t 114) (.t 119)),om 121 6,ot 122 (.bin .shr (.t 120) (.t 121)),ot 123 (.conv .u32 (.t 122)),ot 124 (.iad 1 (.t 106) (.t 107)),on (.st (.t 124) (.t 123))]))) (.reg [ot 125 (.bin .add (.x 103) (oi 1)),ow 103 125]))))))) (.seq (.reg [om 126 4,ot 127 (.call 169 [.t 126]),om 128 5,ot 129 (.call 169 [.t 128]),ow 4 127,ow 5 129]) .ret))))))))
def x1s : List RV := [.t 4, .t 5]
theorem y47 : z9b.nb = 0 := rfl
theorem x4a : IsFn z9b 226 z8y x1s := .k func226 rfl (by kernel_rfl)
noncomputable def y6t : FnD := ⟨prog,[0,1,2],[],7,false⟩
def y3Y : DC := (.seq (.reg [ox 1 (.box (.x 0)),ox 2 (.mv (oi 0))]) (.seq (.reg [ot 3 (.ldn 3 (.x 1)),ot 4 (.call 86 [.t 3]),ot 5 (.fldn 0 2 (.t 4)),ot 6 (.call 256 [.t 5]),ow 2 6]) .ret))
def x7E : List RV := [.t 2]
theorem w06 : y6t.nb = 0 := rfl
theorem w0C : IsFn y6t 234 y3Y x7E := .k func234 rfl (by kernel_rfl)
noncomputable def y4t : FnD := ⟨prog,[0,1,4,5,9],[],14,false⟩
def z8D : DC := (.seq (.reg [ox 4 (.mv (.c .nils))]) (.seq (.reg [om 6 0,ot 7 (.call 193 [.t 6,(.c (.int .u32 2)),(oi 0)]),ow 5 7]) (.seq (.seq (.reg [om 8 1,ox 9 (.bin .eql (.t 8) (.c (.int .u32 1)))]) (.cond (.x 9) (.reg [om 10 5,ot 11 (.bsl 1 [(.int .u32 0)] [(0,1,(.c (.int .u32 1)))]),ot 12 (.call 117 [.t 10,.t 11]),ow 5 12]) .skip)) (.seq (.reg [om 13 5,ow 4 13]) .ret))))
def x1w : List RV := [.t 4]
theorem x4f : IsFn y4t 238 z8D x1w := .k func238 rfl (by kernel_rfl)
noncomputable def y4y : FnD := ⟨prog,[0,1,4,5,7,8,9,16],[],19,false⟩
def z8J : DC := (.seq (.reg [ox 4 (.mv (oi 0))]) (.seq (.seq (.reg [om 6 0,ox 7 (.len 2 (.t 6)),ox 8 (.mv (oi 0))]) (.block 0 (.loop (.seq (.reg [ox 9 (.bin .lss (.x 8) (.x 7))]) (.seq (.cond (.x 9) .skip (.exit 0)) (.seq (.block 1 (.seq (.reg [om 10 8,ow 5 10]) (.seq (.reg [om 11 1,om 12 0,om 13 5,ot 14 (.iad 2 (.t 12) (.t 13)),ot 15 (.ldn 2 (.t 14)),ox 16 (.callv (.t 11) [.t 15])]) (.cond (.x 16) (.seq (.reg [om 17 5,ow 4 17]) .ret) .skip)))) (.reg [ot 18 (.bin .add (.x 8) (oi 1)),ow 8 18]))))))) (.seq (.reg [ox 4 (.mv (oi (-1)))]) .ret)))
def x1B : List RV := [.t 4]
theorem x4l : IsFn y4y 242 z8J x1B := .k func242 rfl (by kernel_rfl)
noncomputable def z6D : FnD := ⟨prog,[0,1,4,5,6,7,8,13,14,15,16],[],41,false⟩
def z7i : DC := (.seq (.reg [ox 4 (.mv (.c .nils))]) (.seq (.reg [om 9 0,ot 10 (.len 1 (.t 9)),ot 11 (.bin .add (.t 10) (oi 1)),ot 12 (.mks 1 4 [(.int .u32 0)] (.t 11) (.t 11)),ow 5 12]) (.seq (.seq (.reg [ox 13 (.mv (.x 0)),ox 14 (.len 1 (.x 13)),ox 15 (.mv (oi 0))]) (.block 0 (.loop (.seq (.reg [ox 16 (.bin .lss (.x 15) (.x 14))]) (.seq (.cond (.x 16) .skip (.exit 0)) (.seq (.block 1 (.seq (.reg [om 17 15,ot 18 (.iad 1 (.x 13) (.x 15)),ot 19 (.ld (.t 18)),ow 6 17,ow 7 19]) (.seq (.reg [om 20 7,ot 21 (.conv .u64 (.t 20)),om 22 1,ot 23 (.bin .shl (.t 21) (.t 22)),ow 8 23]) (.seq (.reg [om 24 5,om 25 6,ot 26 (.iad 1 (.t 24) (.t 25)),ot 27 (.ld (.t 26)),om 28 8,ot 29 (.conv .u32 (.t 28)),ot 30 (.bin .or (.t 27) (.t 29)),ot 31 (.iad 1 (.t 24) (.t 25)),on (.st (.t 31) (.t 30))]) (.reg [om 32 5,om 33 6,ot 34 (.bin .add (.t 33) (oi 1)),om 35 8,ot 36 (.bin .shr (.t 35) (.c (.int .u64 32))),ot 37 (.conv .u32 (.t 36)),ot 38 (.iad 1 (.t 32) (.t 34)),on (.st (.t 38) (.t 37))]))))) (.reg [ot 39 (.bin .add (.x 15) (oi 1)),ow 15 39]))))))) (.seq (.reg [om 40 5,ow 4 40]) .ret))))
def y7b : List RV := [.t 4]
theorem x09 : z6D.nb = 0 := rfl
theorem x0L : IsFn z6D 251 z7i y7b := .k func251 rfl (by kernel_rfl)
noncomputable def z3G : FnD := ⟨prog,[0,1,2,6],[],11,false⟩
def z2O : DC := (.seq (.reg [ox 6 (.mv (oi 0))]) (.seq (.reg [om 7 1,om 8 2,ot 9 (.bin .eql (.t 7) (.t 8)),ot 10 (.call 261 [.t 9]),ow 6 10]) .ret))
def z3h : List RV := [.t 6]
theorem y2y : IsFn z3G 260 z2O z3h := .k func260 rfl (by kernel_rfl)
noncomputable def z3J : FnD := ⟨prog,[0,1,2,6],[],20,false⟩
def z2R : DC := (.seq (.reg [ox 6 (.mv (oi 0))]) (.seq (.reg [om 7 2,ot 8 (.bin .add (.t 7) (oi 1)),om 9 1,om 10 2,ot 11 (.bin .add (.t 10) (oi 1)),ot 12 (.bin .eql (.t 9) (.t 11)),ot 13 (.call 261 [.t 12]),ot 14 (.bin .mul (.t 8) (.t 13)),om 15 1,om 16 2,ot 17 (.bin .leq (.t 15) (.t 16)),ot 18 (.call 261 [.t 17]),ot 19 (.bin .sub (.t 14) (.t 18)),ow 6 19]) .ret))
def z3k : List RV := [.t 6]
theorem y2B : IsFn z3J 264 z2R z3k := .k func264 rfl (by kernel_rfl)
end Go.Proofs.YtlcagndeidjobaaGreatDoor
namespace Go.Proofs
open Go.Shelf
def Tryz.laysM171_ren:Go.Shelf.Ren:=⟨fun|171=>209|243=>243|246=>259|283=>267|284=>268|285=>269|286=>270|129=>272|317=>271|318=>273|319=>274|320=>275|337=>276|338=>277|n=>n,fun|3=>3|9=>9|2=>2|4=>4|171=>267|0=>0|53=>137|37=>228|5=>5|173=>269|212=>271|51=>173|20=>20|213=>272|46=>188|232=>275|233=>276|n=>n,fun|17=>1|18=>2|19=>3|n=>n⟩
theorem Tryz.laysM171:Go.Proofs.LaysM.n171 prog Tryz.laysM171_ren:={
 mixed:=by kernel_rfl
 f129:=func272.trans (congrArg some (by kernel_rfl))
 f171:=func209.trans (congrArg some (by kernel_rfl))
 f243:=func243.trans (congrArg some (by kernel_rfl))
 f246:=func259.trans (congrArg some (by kernel_rfl))
 f283:=func267.trans (congrArg some (by kernel_rfl))
 f284:=func268.trans (congrArg some (by kernel_rfl))
 f285:=func269.trans (congrArg some (by kernel_rfl))
 f286:=func270.trans (congrArg some (by kernel_rfl))
 f317:=func271.trans (congrArg some (by kernel_rfl))
 f318:=func273.trans (congrArg some (by kernel_rfl))
 f319:=func274.trans (congrArg some (by kernel_rfl))
 f320:=func275.trans (congrArg some (by kernel_rfl))
 f337:=func276.trans (congrArg some (by kernel_rfl))
 f338:=func277.trans (congrArg some (by kernel_rfl))
 t0:=Tryz.underlying0
 a0:=Tryz.isAgg0
 z0:=Tryz.sizeOf0
 v0:=Tryz.zeroValue0
 t2:=Tryz.underlying2
 a2:=Tryz.isAgg2
 z2:=Tryz.sizeOf2
 v2:=Tryz.zeroValue2
 t3:=Tryz.underlying3
 a3:=Tryz.isAgg3
 z3:=Tryz.sizeOf3
 v3:=Tryz.zeroValue3
 t4:=Tryz.underlying4
 a4:=Tryz.isAgg4
 z4:=Tryz.sizeOf4
 v4:=Tryz.zeroValue4
 t5:=Tryz.underlying5
 a5:=Tryz.isAgg5
 z5:=Tryz.sizeOf5
 v5:=Tryz.zeroValue5
 t9:=Tryz.underlying9
 a9:=Tryz.isAgg9
 z9:=Tryz.sizeOf9
 v9:=Tryz.zeroValue9
 t20:=Tryz.underlying20
 a20:=Tryz.isAgg20
 z20:=Tryz.sizeOf20
 v20:=Tryz.zeroValue20
 t37:=Tryz.underlying228
 a37:=Tryz.isAgg228
 z37:=Tryz.sizeOf228
 v37:=Tryz.zeroValue228
 t46:=Tryz.underlying188
 a46:=Tryz.isAgg188
 z46:=Tryz.sizeOf188
 v46:=Tryz.zeroValue188
 t51:=Tryz.underlying173
 a51:=Tryz.isAgg173
 z51:=Tryz.sizeOf173
 v51:=Tryz.zeroValue173
 t53:=Tryz.underlying137
 a53:=Tryz.isAgg137
 z53:=Tryz.sizeOf137
 v53:=Tryz.zeroValue137
 t171:=Tryz.underlying267
 a171:=Tryz.isAgg267
 z171:=Tryz.sizeOf267
 v171:=Tryz.zeroValue267
 t173:=Tryz.underlying269
 a173:=Tryz.isAgg269
 z173:=Tryz.sizeOf269
 v173:=Tryz.zeroValue269
 t212:=Tryz.underlying271
 a212:=Tryz.isAgg271
 z212:=Tryz.sizeOf271
 v212:=Tryz.zeroValue271
 t213:=Tryz.underlying272
 a213:=Tryz.isAgg272
 z213:=Tryz.sizeOf272
 t232:=Tryz.underlying275
 a232:=Tryz.isAgg275
 z232:=Tryz.sizeOf275
 v232:=Tryz.zeroValue275
 t233:=Tryz.underlying276
 a233:=Tryz.isAgg276
 z233:=Tryz.sizeOf276
 v233:=Tryz.zeroValue276
 g17:=by kernel_rfl
 g18:=by kernel_rfl
 g19:=by kernel_rfl
 i0:=by kernel_rfl
 i2:=by kernel_rfl
 i3:=by kernel_rfl
 i4:=by kernel_rfl
 i5:=by kernel_rfl
 i9:=by kernel_rfl
 i20:=by kernel_rfl
 i37:=by kernel_rfl
 i46:=by kernel_rfl
 i51:=by kernel_rfl
 i53:=by kernel_rfl
 i171:=by kernel_rfl
 i173:=by kernel_rfl
 i212:=by kernel_rfl
 i232:=by kernel_rfl
 i233:=by kernel_rfl
 m17:=by kernel_rfl
 m18:=by kernel_rfl
 m19:=by kernel_rfl }
open Go.RowKit Go.Sort Go.Lib in
theorem Tryz.strconv_Itoa (n : Int) (h0 : -9223372036854775808 ≤ n) (h1 : n ≤ 9223372036854775807) (w : World) (htab : Lib.TabIs prog w "internal/strconv.uint64pow10" .u64 Lib.pow10Tab) :
  Calls prog 209 #[.int .i64 n] w fun e w'=>e=.returned (.string ⟨(Lib.itoa n).toArray⟩)∧∃k os,w'=grow (w.drewN k) os:=Any.strconv_Itoa Tryz.laysM171 n h0 h1 w htab
end Go.Proofs
namespace Go.Proofs.YtlcagndeidjobaaGreatDoor
open Tryz
open Go Go.Dat Go.Proofs
noncomputable def x8Z : FnD := ⟨prog,[0,1,2],[2000001],29,false⟩
def y8x : DC := (.seq (.reg [ox 1 (.boxi (.x 0)),ox 2 (.mv (.c (.bool false)))]) (.seq (.reg [ot 3 (.fad 0 (.x 1)),ot 4 (.ld (.t 3)),ot 5 (.bin .geq (.t 4) (oi 0)),ot 6 (.mv (.t 5)),og 7 (.fad 0 (.x 1)) 6 true,og 8 (.ld (.t 7)) 6 true,og 9 (.bin .leq (.t 8) (oi 1024)) 6 true,ot 10 (.pick (.t 6) (.t 9) (.c (.bool false))),ot 11 (.mv (.t 10)),og 12 (.fad 1 (.x 1)) 11 true,og 13 (.ld (.t 12)) 11 true,og 14 (.len 4 (.t 13)) 11 true,og 15 (.bin .leq (.t 14) (oi 32)) 11 true,ot 16 (.pick (.t 11) (.t 15) (.c (.bool false))),ot 17 (.mv (.t 16)),og 18 (.ldn 2 (.x 1)) 17 true,og 19 (.call 139 [.t 18]) 17 true,og 20 (.call 138 [.t 19]) 17 true,ot 21 (.pick (.t 17) (.t 20) (.c (.bool false))),ot 22 (.mv (.t 21)),og 23 (.fad 1 (.x 1)) 22 true,og 24 (.ld (.t 23)) 22 true,og 25 (.mkf 141 [.x 1]) 22 true,og 26 (.call 140 [.t 24,.t 25]) 22 true,og 27 (.un .not (.t 26)) 22 true,ot 28 (.pick (.t 22) (.t 27) (.c (.bool false))),ow 2 28]) .ret))
def w1P : List RV := [.t 2]
theorem w35 : IsFn x8Z 75 y8x w1P := .k func75 rfl (by kernel_rfl)
noncomputable def x8Y : FnD := ⟨prog,[0,1,2,4,5,6,38,40,41,42,43,52],[2000002],59,false⟩
def y8w : DC := (.seq (.reg [ox 2 (.boxi (.x 0)),ox 4 (.mv (.c (.bool false)))]) (.seq (.seq (.reg [ot 7 (.fad 1 (.x 2)),ot 8 (.ld (.t 7)),ot 9 (.bin .neq (.t 8) (oi 1)),ot 10 (.mv (.t 9)),og 11 (.fad 1 (.x 2)) 10 true,og 12 (.ld (.t 11)) 10 true,og 13 (.bin .neq (.t 12) (oi 2)) 10 true,ot 14 (.pick (.t 10) (.t 13) (.c (.bool false))),ot 15 (.mv (.t 14)),og 16 (.fad 1 (.x 2)) 15 false,og 17 (.ld (.t 16)) 15 false,og 18 (.bin .eql (.t 17) (oi 1)) 15 false,og 19 (.mv (.t 18)) 15 false,og 20 (.fad 2 (.x 2)) 19 true,og 21 (.ld (.t 20)) 19 true,og 22 (.len 1 (.t 21)) 19 true,og 23 (.bin .gtr (.t 22) (oi 0)) 19 true,og 24 (.pick (.t 19) (.t 23) (.c (.bool false))) 15 false,ot 25 (.pick (.t 15) (.c (.bool true)) (.t 24)),ot 26 (.mv (.t 25)),og 27 (.fad 2 (.x 2)) 26 false,og 28 (.ld (.t 27)) 26 false,og 29 (.len 1 (.t 28)) 26 false,og 30 (.bin .gtr (.t 29) (oi 32)) 26 false,ot 31 (.pick (.t 26) (.c (.bool true)) (.t 30)),ot 32 (.mv (.t 31)),og 33 (.fad 3 (.x 2)) 32 false,og 34 (.ld (.t 33)) 32 false,og 35 (.len 5 (.t 34)) 32 false,og 36 (.mv (.x 1)) 32 false,og 37 (.bin .neq (.t 35) (.t 36)) 32 false,ox 38 (.pick (.t 32) (.c (.bool true)) (.t 37))]) (.cond (.x 38) (.seq (.reg [ox 4 (.mv (.c (.bool false)))]) .ret) .skip)) (.seq (.seq (.reg [ot 39 (.fad 2 (.x 2)),ox 40 (.ld (.t 39)),ox 41 (.len 1 (.x 40)),ox 42 (.mv (oi 0))]) (.block 0 (.loop (.seq (.reg [ox 43 (.bin .lss (.x 42) (.x 41))]) (.seq (.cond (.x 43) .skip (.exit 0)) (.seq (.block 1 (.seq (.reg [om 44 42,ot 45 (.iad 1 (.x 40) (.x 42)),ot 46 (.ld (.t 45)),ow 5 44,ow 6 46]) (.seq (.reg [ot 47 (.fad 2 (.x 2)),ot 48 (.ld (.t 47)),om 49 5,ot 50 (.slc 1 (.t 48) none (some (.t 49))),om 51 6,ox 52 (.call 198 [.t 50,.t 51])]) (.cond (.x 52) (.seq (.reg [ox 4 (.mv (.c (.bool false)))]) .ret) .skip)))) (.reg [ot 53 (.bin .add (.x 42) (oi 1)),ow 42 53]))))))) (.seq (.reg [ot 54 (.fad 3 (.x 2)),ot 55 (.ld (.t 54)),ot 56 (.mkf 201 [.x 2]),ot 57 (.call 200 [.t 55,.t 56]),ot 58 (.un .not (.t 57)),ow 4 58]) .ret))))
def w1O : List RV := [.t 4]
theorem w34 : IsFn x8Y 142 y8w w1O := .k func142 rfl (by kernel_rfl)
noncomputable def y1h : FnD := ⟨prog,[0,2,4],[5],8,false⟩
def z7p : DC := (.seq (.reg [ox 2 (.mv (.c .nils))]) (.seq (.seq (.reg [om 3 0,ox 4 (.isnil false (.t 3))]) (.cond (.x 4) (.seq (.reg [ox 2 (.mv (.c .nils))]) .ret) .skip)) (.seq (.reg [ot 5 (.bsl' 2 [] []),om 6 0,ot 7 (.app 143 2 24 (.t 5) (.t 6)),ow 2 7]) .ret)))
def y7i : List RV := [.t 2]
theorem x0S : IsFn y1h 215 z7p y7i := .k func215 rfl (by kernel_rfl)
noncomputable def z83 : FnD := ⟨prog,[0,1,2,5,6,7,14],[2000005],19,false⟩
def z5z : DC := (.seq (.reg [ox 5 (.boxi (.x 2)),ox 6 (.mv (oi 0))]) (.seq (.reg [om 8 1,ot 9 (.call 215 [.t 8]),ot 10 (.mkf 216 [.x 5]),ot 11 (.call 214 [.t 9,.t 10]),ow 7 11]) (.seq (.seq (.reg [om 12 0,om 13 7,ox 14 (.call 217 [.t 12,.t 13])]) (.cond (.x 14) (.seq (.reg [om 15 0,ot 16 (.nilc (.t 15)),ot 17 (.fad 5 (.t 16)),ot 18 (.ld (.t 17)),ow 6 18]) .ret) .skip)) (.seq (.reg [ox 6 (.mv (oi 4))]) .ret))))
def y5l : List RV := [.t 6]
theorem y6C : IsFn z83 154 z5z y5l := .k func154 rfl (by kernel_rfl)
noncomputable def z7x : FnD := ⟨prog,[0,1,2,3],[2000002],7,false⟩
def z4W : DC := (.seq (.reg [ox 2 (.boxi (.x 0)),ox 3 (.mv (.c (.bool false)))]) (.seq (.reg [ot 4 (.ldn 2 (.x 2)),ot 5 (.ldn 2 (.x 1)),ot 6 (.eqs false [(0,2),(1,0)] (.t 4) (.t 5)),ow 3 6]) .ret))
def y22 : List RV := [.t 3]
theorem y4O : IsFn z7x 216 z4W y22 := .k func216 rfl (by kernel_rfl)
noncomputable def z5S : FnD := ⟨prog,[0,1,3,4,7],[2000003],20,false⟩
def z4g : DC := (.seq (.reg [ox 3 (.boxi (.x 1)),ox 4 (.mv (.c (.bool false)))]) (.seq (.seq (.reg [ot 5 (.ld (.x 3)),ot 6 (.len 2 (.t 5)),ox 7 (.bin .eql (.t 6) (oi 0))]) (.cond (.x 7) (.seq (.reg [om 8 0,ot 9 (.nilc (.t 8)),ot 10 (.fad 2 (.t 9)),ot 11 (.fad 1 (.t 10)),ot 12 (.ld (.t 11)),ow 4 12]) .ret) .skip)) (.seq (.reg [om 13 0,ot 14 (.nilc (.t 13)),ot 15 (.fad 2 (.t 14)),ot 16 (.fad 2 (.t 15)),ot 17 (.ld (.t 16)),ot 18 (.mkf 247 [.x 3]),ot 19 (.call 146 [.t 17,.t 18]),ow 4 19]) .ret)))
def y0q : List RV := [.t 4]
theorem y2D : IsFn z5S 217 z4g y0q := .k func217 rfl (by kernel_rfl)
noncomputable def z1Y : FnD := ⟨prog,[0,1,2,3,4,6,7,8,9,10,11,12,14,15,17,18,20,22,33,38,43,54,59,60,61,62,76,77,78,79,82,83,84,85,91,92,93,94],[1000004,2000027],126,false⟩
def z4e : DC := (.seq (.reg [ox 3 (.box (.x 0)),ox 4 (.box (.x 1)),ox 6 (.alloc [.nils,.nils,.nils,.nils]),ox 7 (.mv (oi 0))]) (.seq (.reg [ot 23 (.ldn 2 (.x 3)),ot 24 (.ldn 3 (.x 4)),om 25 2,ot 26 (.build [(.int .i64 0),.nils,(.str []),(.bool false),.nils,(.int .i64 0)] [(0,2,.t 23),(2,3,.t 24),(5,1,.t 25)]),ot 27 (.boxi (.t 26)),ow 8 27]) (.seq (.reg [om 29 8,ot 30 (.call 35 [.t 29]),ot 28 (.mv (.t 30)),ot 31 (.ext (.t 28) 0),ot 32 (.ext (.t 28) 1),ow 9 31,ow 10 32]) (.seq (.block 0 (.seq (.reg [om 34 10,ot 35 (.bin .neq (.t 34) (oi 0)),ow 33 35]) (.cond (.x 33) (.seq (.reg [ot 36 (.build [.nils,.nils,.nils,.nils] []),om 37 10,on (.stn 4 (.x 6) (.t 36)),ow 7 37]) .ret) (.seq (.reg [om 39 9,ot 40 (.len 1 (.t 39)),ot 41 (.bin .eql (.t 40) (oi 0)),ow 38 41]) (.cond (.x 38) (.seq (.reg [ot 42 (.build [.nils,.nils,.nils,.nils] []),on (.stn 4 (.x 6) (.t 42)),ox 7 (.mv (oi 10))]) .ret) (.seq (.reg [om 44 9,ot 45 (.len 1 (.t 44)),ot 46 (.bin .gtr (.t 45) (oi 64)),ow 43 46]) (.cond (.x 43) (.seq (.reg [ot 47 (.build [.nils,.nils,.nils,.nils] []),on (.stn 4 (.x 6) (.t 47)),ox 7 (.mv (oi 2))]) .ret) .skip))))))) (.seq (.reg [om 49 8,ot 50 (.call 36 [.t 49]),ot 48 (.mv (.t 50)),ot 51 (.ext (.t 48) 0),ot 52 (.ext (.t 48) 1),ow 11 51,ow 10 52]) (.seq (.seq (.reg [om 53 10,ox 54 (.bin .neq (.t 53) (oi 0))]) (.cond (.x 54) (.seq (.reg [ot 55 (.build [.nils,.nils,.nils,.nils] []),om 56 10,on (.stn 4 (.x 6) (.t 55)),ow 7 56]) .ret) .skip)) (.seq (.reg [om 57 9,ot 58 (.build [.nils,.nils,.nils,.nils] [(3,1,.t 57)]),ox 12 (.alloc [.nils,.nils,.nils,.nils]),on (.stn 4 (.x 12) (.t 58))]) (.seq (.seq (.reg [ox 59 (.mv (.x 11)),ox 60 (.len 2 (.x 59)),ox 61 (.mv (oi 0))]) (.block 1 (.loop (.seq (.reg [ox 62 (.bin .lss (.x 61) (.x 60))]) (.seq (.cond (.x 62) .skip (.exit 1)) (.seq (.block 2 (.seq (.reg [ot 63 (.iad 2 (.x 59) (.x 61)),ot 64 (.ldn 2 (.t 63)),ox 14 (.alloc [.nils,.undef]),on (.stn 2 (.x 14) (.t 64))]) (.reg [ot 65 (.fad 0 (.x 12)),ot 66 (.ld (.t 65)),ot 67 (.fad 0 (.x 14)),ot 68 (.ld (.t 67)),ot 69 (.app 9 1 16 (.t 66) (.t 68)),ot 70 (.fad 0 (.x 12)),on (.st (.t 70) (.t 69))]))) (.reg [ot 71 (.bin .add (.x 61) (oi 1)),ow 61 71]))))))) (.seq (.reg [om 72 8,ot 73 (.fad 0 (.x 4)),ot 74 (.ld (.t 73)),ot 75 (.call 37 [.t 72,.t 74]),ox 15 (.alloc [(.str []),(.int .i64 0),.nils,.nils]),on (.stn 4 (.x 15) (.t 75))]) (.seq (.seq (.reg [ox 76 (.mv (.x 9)),ox 77 (.len 1 (.x 76)),ox 78 (.mv (oi 0))]) (.block 3 (.loop (.seq (.reg [ox 79 (.bin .lss (.x 78) (.x 77))]) (.seq (.cond (.x 79) .skip (.exit 3)) (.seq (.block 4 (.seq (.reg [ot 80 (.iad 1 (.x 76) (.x 78)),ot 81 (.ld (.t 80)),ow 17 81]) (.seq (.reg [ox 18 (.mv (.c .nils))]) (.seq (.seq (.reg [ox 82 (.mv (.x 11)),ox 83 (.len 2 (.x 82)),ox 84 (.mv (oi 0))]) (.block 5 (.loop (.seq (.reg [ox 85 (.bin .lss (.x 84) (.x 83))]) (.seq (.cond (.x 85) .skip (.exit 5)) (.seq (.block 6 (.seq (.reg [ot 86 (.iad 2 (.x 82) (.x 84)),ot 87 (.ldn 2 (.t 86)),ox 20 (.alloc [.nils,.undef]),on (.stn 2 (.x 20) (.t 87))]) (.seq (.reg [ot 88 (.fad 1 (.x 20)),ot 89 (.ld (.t 88)),om 90 17,ox 91 (.callv (.t 89) [.t 90]),ox 92 (.len 3 (.x 91)),ox 93 (.mv (oi 0))]) (.block 7 (.loop (.seq (.reg [ox 94 (.bin .lss (.x 93) (.x 92))]) (.seq (.cond (.x 94) .skip (.exit 7)) (.seq (.block 8 (.seq (.reg [ot 95 (.iad 3 (.x 91) (.x 93)),ot 96 (.ldn 3 (.t 95)),ox 22 (.alloc [(.bool false),.nils,.nils]),on (.stn 3 (.x 22) (.t 96))]) (.reg [om 97 18,ot 98 (.ldn 3 (.x 22)),ot 99 (.build [(.bool false),.nils,.nils] []),ot 100 (.call 38 [.t 98,.t 99]),ot 101 (.bsl 3 [(.bool false),.nils,.nils] [(0,3,.t 100)]),ot 102 (.app 58 3 56 (.t 97) (.t 101)),ow 18 102]))) (.reg [ot 103 (.bin .add (.x 93) (oi 1)),ow 93 103]))))))))) (.reg [ot 104 (.bin .add (.x 84) (oi 1)),ow 84 104]))))))) (.rego <| .alt (.no) (.alt (.st (on (.call 0 [])) <| .no) (.st (ot 105 (.fad 1 (.x 12))) <| .alt (.st (on (.call 0 [.t 0])) <| .no) (.st (ot 106 (.ld (.t 105))) <| .alt (.st (on (.call 0 [])) <| .no) (.st (om 107 18) <| .alt (.st (on (.call 0 [.t 2])) <| .no) (.st (ot 108 (.bsl 1 [.nils] [(0,1,.t 107)])) <| .alt (.st (on (.call 0 [.t 1,.t 0,.t 3,.t 2])) <| .no) (.st (ot 109 (.app 37 1 24 (.t 106) (.t 108))) <| .alt (.st (on (.call 0 [])) <| .no) (.st (ot 110 (.fad 2 (.x 12))) <| .alt (.st (on (.call 0 [.t 5])) <| .no) (.st (ot 111 (.ld (.t 110))) <| .alt (.st (on (.call 0 [])) <| .no) (.st (ot 112 (.fad 3 (.x 15))) <| .alt (.st (on (.call 0 [.t 7])) <| .no) (.st (ot 113 (.ld (.t 112))) <| .alt (.st (on (.call 0 [])) <| .no) (.st (om 114 17) <| .alt (.st (on (.call 0 [.t 8,.t 7,.t 9])) <| .no) (.st (ot 115 (.iad 5 (.t 113) (.t 114))) <| .alt (.st (on (.call 0 [.t 10,.t 8,.t 7,.t 9])) <| .no) (.st (ot 116 (.fad 1 (.t 115))) <| .alt (.st (on (.call 0 [.t 11,.t 10,.t 8,.t 7,.t 9])) <| .no) (.st (ot 117 (.ldn 3 (.t 116))) <| .alt (.st (on (.call 0 [])) <| .no) (.st (ot 118 (.build [(.bool false),.nils,.nils] [])) <| .alt (.st (on (.call 0 [.t 12,.t 11,.t 10,.t 8,.t 7,.t 9,.t 13,.t 4,.t 1,.t 0,.t 3,.t 2])) <| .no) (.st (ot 119 (.call 38 [.t 117,.t 118])) <| .alt (.st (on (.call 0 [.t 14,.t 12,.t 11,.t 10,.t 8,.t 7,.t 9,.t 13,.t 4,.t 1,.t 0,.t 3,.t 2])) <| .no) (.st (ot 120 (.bsl 3 [(.bool false),.nils,.nils] [(0,3,.t 119)])) <| .alt (.st (on (.call 0 [.t 6,.t 5,.t 15,.t 14,.t 12,.t 11,.t 10,.t 8,.t 7,.t 9,.t 13,.t 4,.t 1,.t 0,.t 3,.t 2])) <| .no) (.st (ot 121 (.app 58 3 56 (.t 111) (.t 120))) <| .alt (.st (on (.call 0 [.t 0,.t 1,.t 2,.t 3,.t 4,.t 5,.t 6])) <| .no) (.st (ot 122 (.fad 1 (.x 12))) <| .alt (.st (on (.call 0 [.t 17,.t 0,.t 1,.t 2,.t 3,.t 4,.t 5,.t 6,.t 16,.t 15,.t 14,.t 12,.t 11,.t 10,.t 8,.t 7,.t 9,.t 13])) <| .no) (.st (on (.st (.t 122) (.t 109))) <| .alt (.st (on (.call 0 [.t 0,.t 1,.t 2,.t 3,.t 4,.t 5,.t 6,.t 7,.t 8,.t 9,.t 10,.t 11,.t 12,.t 13,.t 14,.t 15,.t 16,.t 17,.t 18])) <| .no) (.st (ot 123 (.fad 2 (.x 12))) <| .alt (.st (on (.call 0 [.t 19,.t 0,.t 1,.t 2,.t 3,.t 4,.t 5,.t 6,.t 7,.t 8,.t 9,.t 10,.t 11,.t 12,.t 13,.t 14,.t 15,.t 16,.t 17,.t 18])) <| .no) (.st (on (.st (.t 123) (.t 121))) <| .leaf))))))))))))))))))))))))))) (.reg [ot 124 (.bin .add (.x 78) (oi 1)),ow 78 124]))))))) (.seq (.reg [ot 125 (.ldn 4 (.x 12)),on (.stn 4 (.x 6) (.t 125)),ox 7 (.mv (oi 0))]) .ret)))))))))))
def y6Z : List RV := [.cn 4 6, .t 7]
theorem x0z : IsFn z1Y 12 z4e y6Z := .k func12 rfl (by kernel_rfl)
noncomputable def z2j : FnD := ⟨prog,[0,1,4,5,6,7,8,9,13,20,21,22,35,36,37],[1000004],54,false⟩
def z5y : DC := (.seq (.reg [ox 4 (.mv (.c .nils)),ox 5 (.mv (oi 0))]) (.seq (.seq (.reg [om 10 0,om 11 1,ot 12 (.call 244 [.t 10,.t 11]),ox 13 (.un .not (.t 12))]) (.cond (.x 13) (.seq (.reg [ox 4 (.mv (.c .nils)),ox 5 (.mv (oi 1))]) .ret) .skip)) (.seq .bad (.seq (.reg [om 17 1,ot 18 (.mks 1 24 [.nils] (.t 17) (.t 17)),ow 7 18]) (.seq (.seq (.reg [om 19 7,ox 20 (.len 1 (.t 19)),ox 21 (.mv (oi 0))]) (.block 0 (.loop (.seq (.reg [ox 22 (.bin .lss (.x 21) (.x 20))]) (.seq (.cond (.x 22) .skip (.exit 0)) (.seq (.block 1 (.seq (.reg [om 23 21,ow 8 23]) (.seq (.reg [om 24 7,om 25 8,om 26 0,om 27 1,ot 28 (.call 246 [.t 26,.t 27]),ot 29 (.mks 3 56 [(.bool false),.nils,.nils] (.t 28) (.t 28)),ot 30 (.iad 1 (.t 24) (.t 25)),on (.st (.t 30) (.t 29))]) (.seq (.reg [om 31 7,om 32 8,ot 33 (.iad 1 (.t 31) (.t 32)),ot 34 (.ld (.t 33)),ox 35 (.len 3 (.t 34)),ox 36 (.mv (oi 0))]) (.block 2 (.loop (.seq (.reg [ox 37 (.bin .lss (.x 36) (.x 35))]) (.seq (.cond (.x 37) .skip (.exit 2)) (.seq (.block 3 (.seq (.reg [om 38 36,ow 9 38]) (.rego <| .alt (.no) (.alt (.st (on (.call 0 [])) <| .no) (.st (om 39 7) <| .alt (.st (on (.call 0 [])) <| .no) (.st (om 40 8) <| .alt (.st (on (.call 0 [.t 0,.t 1])) <| .no) (.st (ot 41 (.iad 1 (.t 39) (.t 40))) <| .alt (.st (on (.call 0 [.t 2,.t 0,.t 1])) <| .no) (.st (ot 42 (.ld (.t 41))) <| .alt (.st (on (.call 0 [])) <| .no) (.st (om 43 9) <| .alt (.st (on (.call 0 [])) <| .no) (.st (om 44 6) <| .alt (.st (on (.call 0 [])) <| .no) (.st (om 45 1) <| .alt (.st (on (.call 0 [])) <| .no) (.st (om 46 8) <| .alt (.st (on (.call 0 [])) <| .no) (.st (om 47 9) <| .alt (.st (on (.call 0 [.t 5,.t 6,.t 7,.t 8])) <| .no) (.st (ot 48 (.callv (.t 44) [.t 45,.t 46,.t 47])) <| .alt (.st (on (.call 0 [.t 9,.t 5,.t 6,.t 7,.t 8])) <| .no) (.st (ot 49 (.call 80 [.t 48])) <| .alt (.st (on (.call 0 [.t 3,.t 2,.t 0,.t 1,.t 4,.t 5,.t 6,.t 7,.t 8,.t 9,.t 10])) <| .no) (.st (ot 50 (.iad 3 (.t 42) (.t 43))) <| .alt (.st (on (.call 0 [.t 11,.t 3,.t 2,.t 0,.t 1,.t 4,.t 5,.t 6,.t 7,.t 8,.t 9,.t 10])) <| .no) (.st (on (.stn 3 (.t 50) (.t 49))) <| .leaf))))))))))))))))) (.reg [ot 51 (.bin .add (.x 36) (oi 1)),ow 36 51])))))))))) (.reg [ot 52 (.bin .add (.x 21) (oi 1)),ow 21 52]))))))) (.seq (.reg [om 53 7,ow 4 53,ox 5 (.mv (oi 0))]) .ret))))))
def y5k : List RV := [.t 4, .t 5]
noncomputable def y05 : FnD := ⟨prog,[0,1,2,3,4,6,7,8,9,11,12,13,14,15,16,17,23,35,39,57,76,84,91,108,111,131],[1000004,81,85],150,false⟩
def z65 : DC := (.seq (.reg [ox 3 (.box (.x 0)),ox 4 (.box (.x 1)),ox 6 (.alloc [.nils,.nils,.nils,.nils]),ox 7 (.mv (oi 0))]) (.seq (.seq (.reg [ot 18 (.ldn 2 (.x 3)),ot 19 (.ldn 3 (.x 4)),om 20 2,ot 21 (.call 39 [.t 18,.t 19,.t 20]),ow 8 21]) (.seq (.reg [om 22 8,ox 23 (.bin .neq (.t 22) (oi 0))]) (.cond (.x 23) (.seq (.reg [ot 24 (.build [.nils,.nils,.nils,.nils] []),om 25 8,on (.stn 4 (.x 6) (.t 24)),ow 7 25]) .ret) .skip))) (.seq (.regd [ot 27 (.ldn 2 (.x 3)),ot 28 (.ldn 3 (.x 4)),ot 29 (.call 41 [.t 28]),ot 30 (.call 40 [.t 27,.t 29]),ot 26 (.mv (.t 30)),ot 31 (.ext (.t 26) 0),ot 32 (.ext (.t 26) 1),ow 9 31,ot 10 (.mv (.t 32))]) (.seq (.seq (.reg [om 33 9,ot 34 (.len 1 (.t 33)),ox 35 (.bin .eql (.t 34) (oi 0))]) (.cond (.x 35) (.seq (.reg [ot 36 (.build [.nils,.nils,.nils,.nils] []),on (.stn 4 (.x 6) (.t 36)),ox 7 (.mv (oi 10))]) .ret) .skip)) (.seq (.seq (.reg [om 37 9,ot 38 (.len 1 (.t 37)),ox 39 (.bin .gtr (.t 38) (oi 64))]) (.cond (.x 39) (.seq (.reg [ot 40 (.build [.nils,.nils,.nils,.nils] []),on (.stn 4 (.x 6) (.t 40)),ox 7 (.mv (oi 2))]) .ret) .skip)) (.seq (.reg [om 41 9,om 42 9,ot 43 (.len 1 (.t 42)),ot 44 (.mks 1 24 [.nils] (.t 43) (.t 43)),ot 45 (.build [.nils,.nils,.nils,.nils] [(3,1,.t 41),(1,1,.t 44)]),ox 11 (.alloc [.nils,.nils,.nils,.nils]),on (.stn 4 (.x 11) (.t 45))]) (.seq (.regd [ot 46 (.fad 1 (.x 3)),ot 47 (.ld (.t 46)),ot 48 (.ldn 2 (.x 3)),ot 49 (.fad 0 (.x 4)),ot 50 (.ld (.t 49)),ot 51 (.call 42 [.t 48,.t 50]),ot 52 (.iad 4 (.t 47) (.t 51)),ot 53 (.ldn 4 (.t 52)),ox 12 (.alloc [(.str []),(.int .i64 0),.nils,.nils]),on (.stn 4 (.x 12) (.t 53))]) (.seq (.seq (.reg [ox 13 (.mv (oi 0))]) (.block 0 (.loop (.seq (.seq (.reg [om 54 13,om 55 9,ot 56 (.len 1 (.t 55)),ox 57 (.bin .lss (.t 54) (.t 56))]) (.cond (.x 57) .skip (.exit 0))) (.seq (.block 1 (.seq (.regd [ot 60 (.fad 2 (.x 11)),ot 61 (.ld (.t 60)),ot 62 (.fad 3 (.x 12)),ot 63 (.ld (.t 62)),om 64 9,om 65 13,ot 66 (.iad 1 (.t 64) (.t 65)),ot 67 (.ld (.t 66)),ot 68 (.iad 5 (.t 63) (.t 67)),ot 69 (.fad 1 (.t 68)),ot 70 (.ldn 3 (.t 69)),ot 71 (.call 43 [.t 70]),ot 72 (.bsl 3 [(.bool false),.nils,.nils] [(0,3,.t 71)]),ot 73 (.app 58 3 56 (.t 61) (.t 72)),ot 74 (.fad 2 (.x 11)),on (.st (.t 74) (.t 73))]) (.seq (.reg [ot 75 (.fad 1 (.x 4)),ox 76 (.ld (.t 75))]) (.cond (.x 76) (.regd [ot 77 (.fad 1 (.x 11)),ot 78 (.ld (.t 77)),om 79 13,ot 80 (.call 44 [(oi 1)]),ot 81 (.bsl' 3 [(.bool false),.nils,.nils] [(0,3,.t 80)]),ot 82 (.iad 1 (.t 78) (.t 79)),on (.st (.t 82) (.t 81))]) .skip)))) (.reg [om 58 13,ot 59 (.bin .add (.t 58) (oi 1)),ow 13 59])))))) (.seq (.seq (.reg [ot 83 (.fad 1 (.x 4)),ox 84 (.ld (.t 83))]) (.cond (.x 84) (.reg [ot 85 (.bsl' 1 [(.str [])] [(0,1,(.c (.str [40,73,110,116,101,114,99,101,112,116,41])))]),ot 86 (.fad 0 (.x 11)),on (.st (.t 86) (.t 85))]) .skip)) (.seq (.seq (.reg [ox 14 (.mv (oi 0))]) (.block 2 (.loop (.seq (.seq (.reg [om 87 14,ot 88 (.fad 2 (.x 4)),ot 89 (.ld (.t 88)),ot 90 (.len 1 (.t 89)),ox 91 (.bin .lss (.t 87) (.t 90))]) (.cond (.x 91) .skip (.exit 2))) (.seq (.block 3 (.seq (.regd [ot 94 (.ldn 2 (.x 3)),ot 95 (.ldn 3 (.x 4)),ot 96 (.fad 2 (.x 4)),ot 97 (.ld (.t 96)),om 98 14,ot 99 (.iad 1 (.t 97) (.t 98)),ot 100 (.ld (.t 99)),om 101 2,ot 102 (.call 45 [.t 94,.t 95,.t 100,.t 101]),ow 15 102]) (.seq (.seq (.reg [ot 103 (.fad 0 (.x 11)),ot 104 (.ld (.t 103)),ot 105 (.len 1 (.t 104)),om 106 15,ot 107 (.bin .add (.t 105) (.t 106)),ox 108 (.bin .gtr (.t 107) (oi 12))]) (.cond (.x 108) (.seq (.reg [ot 109 (.build [.nils,.nils,.nils,.nils] []),on (.stn 4 (.x 6) (.t 109)),ox 7 (.mv (oi 2))]) .ret) .skip)) (.seq (.seq (.reg [om 110 15,ox 111 (.bin .eql (.t 110) (oi 0))]) (.cond (.x 111) (.exit 3) .skip)) (.seq (.regd [ot 112 (.ldn 2 (.x 3)),ot 113 (.ldn 3 (.x 4)),ot 114 (.fad 2 (.x 4)),ot 115 (.ld (.t 114)),om 116 14,ot 117 (.iad 1 (.t 115) (.t 116)),ot 118 (.ld (.t 117)),om 119 2,om 120 9,ot 121 (.call 46 [.t 112,.t 113,.t 118,.t 119,.t 120]),ox 16 (.alloc [.nils,.nils]),on (.stn 2 (.x 16) (.t 121))]) (.seq (.reg [ot 122 (.fad 0 (.x 11)),ot 123 (.ld (.t 122)),ot 124 (.fad 0 (.x 16)),ot 125 (.ld (.t 124)),ot 126 (.app 9 1 16 (.t 123) (.t 125)),ot 127 (.fad 0 (.x 11)),on (.st (.t 127) (.t 126))]) (.seq (.reg [ox 17 (.mv (oi 0))]) (.block 4 (.loop (.seq (.seq (.reg [om 128 17,om 129 9,ot 130 (.len 1 (.t 129)),ox 131 (.bin .lss (.t 128) (.t 130))]) (.cond (.x 131) .skip (.exit 4))) (.seq (.block 5 (.rego <| .alt (.no) (.alt (.st (on (.call 0 [])) <| .no) (.st (ot 134 (.fad 1 (.x 11))) <| .alt (.st (on (.call 0 [.t 0])) <| .no) (.st (ot 135 (.ld (.t 134))) <| .alt (.st (on (.call 0 [])) <| .no) (.st (om 136 17) <| .alt (.st (on (.call 0 [])) <| .no) (.st (ot 137 (.fad 1 (.x 11))) <| .alt (.st (on (.call 0 [.t 3])) <| .no) (.st (ot 138 (.ld (.t 137))) <| .alt (.st (on (.call 0 [])) <| .no) (.st (om 139 17) <| .alt (.st (on (.call 0 [.t 4,.t 3,.t 5])) <| .no) (.st (ot 140 (.iad 1 (.t 138) (.t 139))) <| .alt (.st (on (.call 0 [.t 6,.t 4,.t 3,.t 5])) <| .no) (.st (ot 141 (.ld (.t 140))) <| .alt (.st (on (.call 0 [])) <| .no) (.st (ot 142 (.fad 1 (.x 16))) <| .alt (.st (on (.call 0 [.t 8])) <| .no) (.st (ot 143 (.ld (.t 142))) <| .alt (.st (on (.call 0 [])) <| .no) (.st (om 144 17) <| .alt (.st (on (.call 0 [.t 9,.t 8,.t 10])) <| .no) (.st (ot 145 (.iad 1 (.t 143) (.t 144))) <| .alt (.st (on (.call 0 [.t 11,.t 9,.t 8,.t 10])) <| .no) (.st (ot 146 (.ld (.t 145))) <| .alt (.st (on (.call 0 [.t 7,.t 6,.t 4,.t 3,.t 5,.t 12,.t 11,.t 9,.t 8,.t 10])) <| .no) (.st (ot 147 (.app 58 3 56 (.t 141) (.t 146))) <| .alt (.st (on (.call 0 [.t 1,.t 0,.t 2,.t 3,.t 4,.t 5,.t 6,.t 7,.t 8,.t 9,.t 10,.t 11,.t 12,.t 13])) <| .no) (.st (ot 148 (.iad 1 (.t 135) (.t 136))) <| .alt (.st (on (.call 0 [.t 14,.t 1,.t 0,.t 2,.t 3,.t 4,.t 5,.t 6,.t 7,.t 8,.t 9,.t 10,.t 11,.t 12,.t 13])) <| .no) (.st (on (.st (.t 148) (.t 147))) <| .leaf))))))))))))))))))) (.reg [om 132 17,ot 133 (.bin .add (.t 132) (oi 1)),ow 17 133])))))))))))) (.reg [om 92 14,ot 93 (.bin .add (.t 92) (oi 1)),ow 14 93])))))) (.seq (.reg [ot 149 (.ldn 4 (.x 11)),on (.stn 4 (.x 6) (.t 149)),ox 7 (.mv (oi 0))]) .ret)))))))))))
def y6X : List RV := [.cn 4 6, .t 7]
theorem x0x : IsFn y05 13 z65 y6X := .k func13 rfl (by kernel_rfl)
noncomputable def y1a : FnD := ⟨prog,[0,1,4,5,6,16],[1000003,30],33,false⟩
def z7c : DC := (.seq (.reg [ox 4 (.mv (.c .nils))]) (.seq (.reg [ox 5 (.mv (.c .nils))]) (.seq (.seq (.reg [ox 6 (.mv (oi 0))]) (.block 0 (.loop (.seq (.seq (.reg [om 7 6,om 8 0,ot 9 (.len 1 (.t 8)),ot 10 (.bin .lss (.t 7) (.t 9)),ot 11 (.mv (.t 10)),og 12 (.mv (.x 6)) 11 true,og 13 (.mv (.x 1)) 11 true,og 14 (.len 1 (.t 13)) 11 true,og 15 (.bin .lss (.t 12) (.t 14)) 11 true,ox 16 (.pick (.t 11) (.t 15) (.c (.bool false)))]) (.cond (.x 16) .skip (.exit 0))) (.seq (.block 1 (.rego <| .st (om 19 5) <| .st (om 20 0) <| .st (om 21 6) <| .st (ot 22 (.iad 1 (.t 20) (.t 21))) <| .st (ot 23 (.ld (.t 22))) <| .st (om 25 1) <| .st (om 26 6) <| .alt (.st (ot 24 (.app 58 3 56 (.c .nils) (.t 23))) <| .st (ot 27 (.iad 1 (.t 25) (.t 26))) <| .st (ot 28 (.ld (.t 27))) <| .st (ot 29 (.app 58 3 56 (.t 24) (.t 28))) <| .st (ot 30 (.bsl' 1 [.nils] [(0,1,.t 29)])) <| .st (ot 31 (.app 37 1 24 (.t 19) (.t 30))) <| .st (ow 5 31) <| .leaf) (.st (ot 27 (.iad 1 (.t 25) (.t 26))) <| .alt (.st (ot 24 (.app 58 3 56 (.c .nils) (.t 23))) <| .st (ot 28 (.ld (.t 27))) <| .st (ot 29 (.app 58 3 56 (.t 24) (.t 28))) <| .st (ot 30 (.bsl' 1 [.nils] [(0,1,.t 29)])) <| .st (ot 31 (.app 37 1 24 (.t 19) (.t 30))) <| .st (ow 5 31) <| .leaf) (.st (ot 28 (.ld (.t 27))) <| .st (ot 24 (.app 58 3 56 (.c .nils) (.t 23))) <| .st (ot 29 (.app 58 3 56 (.t 24) (.t 28))) <| .st (ot 30 (.bsl' 1 [.nils] [(0,1,.t 29)])) <| .st (ot 31 (.app 37 1 24 (.t 19) (.t 30))) <| .st (ow 5 31) <| .leaf)))) (.reg [om 17 6,ot 18 (.bin .add (.t 17) (oi 1)),ow 6 18])))))) (.seq (.reg [om 32 5,ow 4 32]) .ret))))
def y65 : List RV := [.t 4]
theorem x0F : IsFn y1a 48 z7c y65 := .k func48 rfl (by kernel_rfl)
end Go.Proofs.YtlcagndeidjobaaGreatDoor
