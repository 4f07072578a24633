/- Lemmas of the walk; no conditions beyond those that each states. -/
import Derived.OpenShut
import Derived.Below
import Derived.Lib.SmallJoins
import Derived.Lib.Bytealg
import Derived.Lib.IndexAny
import Derived.Lib.TrimByte
import Derived.Lib.Strings
import Derived.Test.YtlcagndeidjobaaGreatDoorT3
import Derived.Test.YtlcagndeidjobaaGreatDoorD5
import Derived.Test.YtlcagndeidjobaaGreatDoorD3
import Derived.Test.YtlcagndeidjobaaGreatDoorT2
import Derived.Test.YtlcagndeidjobaaGreatDoorT1
import Derived.Test.YtlcagndeidjobaaGreatDoorD4
import Derived.Test.YtlcagndeidjobaaGreatDoorC1
import Derived.Test.YtlcagndeidjobaaGreatDoorC2
import Derived.Test.YtlcagndeidjobaaGreatDoorN1
import Derived.Test.YtlcagndeidjobaaGreatDoorN2
set_option linter.unusedSimpArgs false
set_option linter.unusedVariables false
set_option linter.unnecessarySimpa false
set_option maxHeartbeats 4000000
namespace Go.Proofs.YtlcagndeidjobaaGreatDoor
open Tryz
open Go Go.Dat Go.Proofs Go.RowKit Nat32
abbrev vI (n:Int):DV:=.int .i64 n
def awX:DV:=.agg [.sl 1 [vI 1,vI 2,vI 3],.nils,.sl 1 [vI 0,vI 1,vI 2],.sl 1 [vI 0,vI 1,vI 0]]
def awT:DV:=.agg [vI 3,.sl 4 [.str [121],vI 1,.nils,.sl 5 [.bool false,.bool true,.sl 1 [.int .u32 29],.sl 1 [],vI 0,.bool false,.bool true,.sl 1 [.int .u32 28],.sl 1 [],vI 0,.bool false,.bool true,.sl 1 [.int .u32 27],.sl 1 [],vI 0],.str [120],vI 1,.nils,.sl 5 [.bool false,.bool true,.sl 1 [.int .u32 30],.sl 1 [],vI 0,.bool false,.bool true,.sl 1 [.int .u32 30],.sl 1 [],vI 0,.bool false,.bool true,.sl 1 [.int .u32 30],.sl 1 [],vI 0],.str [103],vI 2,.sl 1 [.str [97],.str [98],.str [99]],.sl 5 [.bool false,.bool false,.nils,.nils,vI 0,.bool false,.bool false,.nils,.nils,vI 1,.bool false,.bool false,.nils,.nils,vI 2],.str [104],vI 2,.sl 1 [.str [117],.str [118]],.sl 5 [.bool false,.bool false,.nils,.nils,vI 0,.bool false,.bool false,.nils,.nils,vI 1,.bool false,.bool false,.nils,.nils,vI 0]]]
def awM:DV:=.agg [.str [121],.bool true,.sl 1 [.sl 2 [.str [104],vI 1]]]
def awL:DV:=.agg [.str [121],.bool false,.sl 1 [.sl 2 [.str [104],vI 1]]]
def awB:DV:=.tup [.agg [.sl 1 [.str [40,73,110,116,101,114,99,101,112,116,41],.str [104,61,118]],.sl 1 [.sl 3 [.bool false,.sl 1 [.int .u32 1],.sl 1 [],.bool false,.sl 1 [],.sl 1 []],.sl 3 [.bool false,.sl 1 [.int .u32 1],.sl 1 [],.bool false,.sl 1 [.int .u32 1],.sl 1 []],.sl 3 [.bool false,.sl 1 [.int .u32 1],.sl 1 [],.bool false,.sl 1 [],.sl 1 []]],.sl 3 [.bool true,.sl 1 [.int .u32 29],.sl 1 [],.bool true,.sl 1 [.int .u32 28],.sl 1 [],.bool true,.sl 1 [.int .u32 27],.sl 1 []],.sl 1 [vI 0,vI 1,vI 2]],vI 0]
def awC:DV:=.tup [.agg [.sl 1 [.str [104,61,117],.str [104,61,118]],.sl 1 [.sl 3 [.bool false,.sl 1 [.int .u32 1],.sl 1 [],.bool false,.sl 1 [],.sl 1 []],.sl 3 [.bool false,.sl 1 [],.sl 1 [],.bool false,.sl 1 [.int .u32 1],.sl 1 []],.sl 3 [.bool false,.sl 1 [.int .u32 1],.sl 1 [],.bool false,.sl 1 [],.sl 1 []]],.sl 3 [.bool true,.sl 1 [.int .u32 29],.sl 1 [],.bool true,.sl 1 [.int .u32 28],.sl 1 [],.bool true,.sl 1 [.int .u32 27],.sl 1 []],.sl 1 [vI 0,vI 1,vI 2]],vI 0]
noncomputable def awK:List (Nat × (List DV→Option DV)):=[(154,w5U),(211,ctK),(29,k2 fun x y=>if smX 9000 x && smX 9000 y && decide (x=qX (xnV x)) && decide (y=qX (xnV y)) then some (.bool (decide (xnV x=xnV y))) else none),(157,k2 fun x y=>if smX 4400 x && smX 4400 y then some (Q (xnV x*xnV y)) else none),(38,k2 fun x y=>if smX 4400 x && smX 4400 y then some (Q (xnV x+xnV y)) else none),(158,k1 fun x=>if smX 9000 x then some (.bool (z5p x.1 x.2.1 x.2.2)) else none),(234,k1 fun x=>if smX 9000 x then some (.int .i64 (xnV x).num.sign) else none),(30,kI fun z=>some (.agg (xnC (qX (y2X z))))),(44,kI fun z=>some (Q (z:Rat))),(80,kI fun z=>some (Q (z:Rat)))]
theorem x9O:TOK prog ([],awK):=by
 have h:=TOK.nil (P:=prog)
 replace h:=TOK.ext y1U h
 replace h:=TOK.ext x1U h
 replace h:=TOK.ext x1T h
 replace h:=TOK.ext w2x h
 replace h:=TOK.ext x8u h
 replace h:=TOK.ext w5t h
 replace h:=TOK.ext w5u h
 replace h:=TOK.ext w2w h
 replace h:=TOK.ext z62 h
 replace h:=TOK.ext w62 h
 exact h
theorem w7u:z0c prog 8 [awX] awT:=by
 have h:=x9O
 replace h:=h.f func31 [0,1,4,8] [] (by kernel_rfl)
 replace h:=h.f func32 [0,1,4,6] [] (by kernel_rfl)
 replace h:=h.f func8 [0,1,2,3,4,5,6,7,8,21] [72] (by kernel_rfl)
 exact z2N h 4000 (by kernel_rfl)
theorem w7t:z0c prog 9 [.str [121,32,126,32,104]] awM:=by
 have h:=x9O
 replace h:=h.f func120 [0,2,3,7,27] [] (by kernel_rfl)
 replace h:=h.f func121 [0,2,3,21,25,32] [] (by kernel_rfl)
 replace h:=h.f func122 [0,1,4,8] [] (by kernel_rfl)
 replace h:=h.f func123 [0,2,3,7] [] (by kernel_rfl)
 replace h:=h.f func124 [0,1,4,5,12,19,26,33] [] (by kernel_rfl)
 replace h:=h.f func125 [0,1,2,4,5,6,12] [8] (by kernel_rfl)
 replace h:=h.f func126 [0,23] [] (by kernel_rfl)
 replace h:=h.f func127 [0,1,4,5,6,7,16,26,32] [] (by kernel_rfl)
 replace h:=h.f func128 [0,1,2,4,5,15,30] [] (by kernel_rfl)
 replace h:=h.f func129 [0,1,2,4,5,10] [] (by kernel_rfl)
 replace h:=h.f func130 [0,1,3,4,5,9,17] [] (by kernel_rfl)
 replace h:=h.f func131 [0,1,4,5,6,10,19] [] (by kernel_rfl)
 replace h:=h.f func132 [0,1,4,5,6,12,21] [] (by kernel_rfl)
 replace h:=h.f func133 [0,2,3,7,15] [] (by kernel_rfl)
 replace h:=h.f func134 [0,2,3,10,13] [] (by kernel_rfl)
 replace h:=h.f func194 [0,2] [] (by kernel_rfl)
 replace h:=h.f func195 [0,2] [] (by kernel_rfl)
 replace h:=h.f func196 [0,2,3,4,5,6,8,21,35] [] (by kernel_rfl)
 replace h:=h.f func240 [0,2,3,50] [] (by kernel_rfl)
 replace h:=h.f func33 [0,2,3,4,5,6,9,33,40,53] [] (by kernel_rfl)
 replace h:=h.f func34 [0,1,2,3,4,5,6,8,9,10,11,14,38,46,52,61] [] (by kernel_rfl)
 replace h:=h.f func63 [0,2,3,8] [] (by kernel_rfl)
 replace h:=h.f func64 [0,1,7] [] (by kernel_rfl)
 replace h:=h.f func65 [0,1,4,5,6,8,20] [] (by kernel_rfl)
 replace h:=h.f func66 [0,2,21] [] (by kernel_rfl)
 replace h:=h.f func68 [0,1,2,3,28,33,42] [] (by kernel_rfl)
 replace h:=h.f func69 [0,2,3,4,5,9,25] [] (by kernel_rfl)
 replace h:=h.f func70 [0,1,2,6,7,8,9,10,11,12,13,14,15,16,30,40,54,63,67] [] (by kernel_rfl)
 replace h:=h.f func71 [0,1,2,6,7,8,9,10,11,12,13,14,22,24,25,28,46,49,54,62,75,77,81,86,91,96] [] (by kernel_rfl)
 replace h:=h.f func72 [0,1,4,5,9,17] [] (by kernel_rfl)
 replace h:=h.f func73 [0,2,3,5] [] (by kernel_rfl)
 replace h:=h.f func74 [0,1,4,5,6,10,18] [] (by kernel_rfl)
 replace h:=h.f func9 [0,2,3,6] [] (by kernel_rfl)
 exact z2N h 4000 (by kernel_rfl)
theorem w7s:z0c prog 9 [.str [121,32,126,32,104,32,45,32,49]] awL:=by
 have h:=x9O
 replace h:=h.f func120 [0,2,3,7,27] [] (by kernel_rfl)
 replace h:=h.f func121 [0,2,3,21,25,32] [] (by kernel_rfl)
 replace h:=h.f func122 [0,1,4,8] [] (by kernel_rfl)
 replace h:=h.f func123 [0,2,3,7] [] (by kernel_rfl)
 replace h:=h.f func124 [0,1,4,5,12,19,26,33] [] (by kernel_rfl)
 replace h:=h.f func125 [0,1,2,4,5,6,12] [8] (by kernel_rfl)
 replace h:=h.f func126 [0,23] [] (by kernel_rfl)
 replace h:=h.f func127 [0,1,4,5,6,7,16,26,32] [] (by kernel_rfl)
 replace h:=h.f func128 [0,1,2,4,5,15,30] [] (by kernel_rfl)
 replace h:=h.f func129 [0,1,2,4,5,10] [] (by kernel_rfl)
 replace h:=h.f func130 [0,1,3,4,5,9,17] [] (by kernel_rfl)
 replace h:=h.f func131 [0,1,4,5,6,10,19] [] (by kernel_rfl)
 replace h:=h.f func132 [0,1,4,5,6,12,21] [] (by kernel_rfl)
 replace h:=h.f func133 [0,2,3,7,15] [] (by kernel_rfl)
 replace h:=h.f func134 [0,2,3,10,13] [] (by kernel_rfl)
 replace h:=h.f func194 [0,2] [] (by kernel_rfl)
 replace h:=h.f func195 [0,2] [] (by kernel_rfl)
 replace h:=h.f func196 [0,2,3,4,5,6,8,21,35] [] (by kernel_rfl)
 replace h:=h.f func240 [0,2,3,50] [] (by kernel_rfl)
 replace h:=h.f func33 [0,2,3,4,5,6,9,33,40,53] [] (by kernel_rfl)
 replace h:=h.f func34 [0,1,2,3,4,5,6,8,9,10,11,14,38,46,52,61] [] (by kernel_rfl)
 replace h:=h.f func63 [0,2,3,8] [] (by kernel_rfl)
 replace h:=h.f func64 [0,1,7] [] (by kernel_rfl)
 replace h:=h.f func65 [0,1,4,5,6,8,20] [] (by kernel_rfl)
 replace h:=h.f func66 [0,2,21] [] (by kernel_rfl)
 replace h:=h.f func68 [0,1,2,3,28,33,42] [] (by kernel_rfl)
 replace h:=h.f func69 [0,2,3,4,5,9,25] [] (by kernel_rfl)
 replace h:=h.f func70 [0,1,2,6,7,8,9,10,11,12,13,14,15,16,30,40,54,63,67] [] (by kernel_rfl)
 replace h:=h.f func71 [0,1,2,6,7,8,9,10,11,12,13,14,22,24,25,28,46,49,54,62,75,77,81,86,91,96] [] (by kernel_rfl)
 replace h:=h.f func72 [0,1,4,5,9,17] [] (by kernel_rfl)
 replace h:=h.f func73 [0,2,3,5] [] (by kernel_rfl)
 replace h:=h.f func74 [0,1,4,5,6,10,18] [] (by kernel_rfl)
 replace h:=h.f func9 [0,2,3,6] [] (by kernel_rfl)
 exact z2N h 4000 (by kernel_rfl)
theorem w7q:z0c prog 12 [awT,awM,vI 1] awB:=by
 have h:=x9O
 replace h:=h.f func12 [0,1,2,3,4,6,7,8,9,10,11,12,14,15,17,18,20,22,33,38,43,54,59,60,61,62,76,77,78,79,82,83,84,85,91,92,93,94] [1000004,2000027] (by kernel_rfl)
 replace h:=h.f func138 [0,2,3,4,5,6,7,8,21] [] (by kernel_rfl)
 replace h:=h.f func139 [0,1,2,3,5,7,8,9,10] [] (by kernel_rfl)
 replace h:=h.f func140 [0,1,4] [] (by kernel_rfl)
 replace h:=h.f func141 [0,1,2,3] [] (by kernel_rfl)
 replace h:=h.f func142 [0,1,2,4,5,6,38,40,41,42,43,52] [2000002] (by kernel_rfl)
 replace h:=h.f func143 [0,2,4,21,23,24,25,26,48] [] (by kernel_rfl)
 replace h:=h.f func144 [0,1,2] [] (by kernel_rfl)
 replace h:=h.f func145 [0,1,3,4] [] (by kernel_rfl)
 replace h:=h.f func146 [0,1,4] [] (by kernel_rfl)
 replace h:=h.f func149 [0,1,4,5,7,8,9,16] [] (by kernel_rfl)
 replace h:=h.f func150 [0,1,2,3] [] (by kernel_rfl)
 replace h:=h.f func153 [0,1,2,4,6,7,9,11,12,13,32,33,34,35] [] (by kernel_rfl)
 replace h:=h.f func155 [0,1,4,5,7,8,9,16] [] (by kernel_rfl)
 replace h:=h.f func198 [0,1,4] [] (by kernel_rfl)
 replace h:=h.f func199 [0,1,4,5,7,8,9,16] [] (by kernel_rfl)
 replace h:=h.f func200 [0,1,4] [] (by kernel_rfl)
 replace h:=h.f func201 [0,1,2,3] [] (by kernel_rfl)
 replace h:=h.f func202 [0,1,2,3,4,5,15,24] [] (by kernel_rfl)
 replace h:=h.f func203 [0,2] [] (by kernel_rfl)
 replace h:=h.f func204 [0,1,3,4,5,7,8,9,16] [] (by kernel_rfl)
 replace h:=h.f func205 [0,1,4,5,7,8,9,16] [] (by kernel_rfl)
 replace h:=h.f func212 [0,1,4,5,6,7,12,16,17,18,20,28,38] [] (by kernel_rfl)
 replace h:=h.f func213 [0,1,2,4] [] (by kernel_rfl)
 replace h:=h.f func241 [0,1,4,5,7,8,9,16] [] (by kernel_rfl)
 replace h:=h.f func244 [0,1,4] [] (by kernel_rfl)
 replace h:=h.f func246 [0,1,4,6] [] (by kernel_rfl)
 replace h:=h.f func35 [0,2,3,4,5,7,9,23,35,50,59,64,65,66,67,70,71,72,73,86] [] (by kernel_rfl)
 replace h:=h.f func36 [0,2,3,4,5,7,8,9,10,11,12,14,19,31,32,33,34,40,41,42,43,65,70,75,76,77,78] [] (by kernel_rfl)
 replace h:=h.f func37 [0,1,4] [] (by kernel_rfl)
 replace h:=h.f func75 [0,1,2] [2000001] (by kernel_rfl)
 replace h:=h.f func76 [0,1,2,3,4,5,6,16,18,19,20,21,48,49,50,51,52,65,72] [] (by kernel_rfl)
 replace h:=h.f func77 [0,1,2,4,5,6,8,9,10,11,14,15,16,17,18,26,37,38,39,44] [] (by kernel_rfl)
 replace h:=h.f func78 [0,1,2,3,5,7,12,13,14,15,18,19,20,21] [10] (by kernel_rfl)
 replace h:=h.f func79 [0,2] [] (by kernel_rfl)
 replace h:=h.f func81 [0,1,2,5,6,7,14] [] (by kernel_rfl)
 replace h:=h.f func82 [0,1,4] [] (by kernel_rfl)
 replace h:=h.f func83 [0,1,2] [] (by kernel_rfl)
 replace h:=h.f func85 [0,1,2,4,7] [] (by kernel_rfl)
 exact z2N h 4000 (by kernel_rfl)
theorem w7r:z0c prog 12 [awT,awL,vI 1] awC:=by
 have h:=x9O
 replace h:=h.f func12 [0,1,2,3,4,6,7,8,9,10,11,12,14,15,17,18,20,22,33,38,43,54,59,60,61,62,76,77,78,79,82,83,84,85,91,92,93,94] [1000004,2000027] (by kernel_rfl)
 replace h:=h.f func138 [0,2,3,4,5,6,7,8,21] [] (by kernel_rfl)
 replace h:=h.f func139 [0,1,2,3,5,7,8,9,10] [] (by kernel_rfl)
 replace h:=h.f func140 [0,1,4] [] (by kernel_rfl)
 replace h:=h.f func141 [0,1,2,3] [] (by kernel_rfl)
 replace h:=h.f func142 [0,1,2,4,5,6,38,40,41,42,43,52] [2000002] (by kernel_rfl)
 replace h:=h.f func143 [0,2,4,21,23,24,25,26,48] [] (by kernel_rfl)
 replace h:=h.f func144 [0,1,2] [] (by kernel_rfl)
 replace h:=h.f func145 [0,1,3,4] [] (by kernel_rfl)
 replace h:=h.f func146 [0,1,4] [] (by kernel_rfl)
 replace h:=h.f func149 [0,1,4,5,7,8,9,16] [] (by kernel_rfl)
 replace h:=h.f func150 [0,1,2,3] [] (by kernel_rfl)
 replace h:=h.f func153 [0,1,2,4,6,7,9,11,12,13,32,33,34,35] [] (by kernel_rfl)
 replace h:=h.f func155 [0,1,4,5,7,8,9,16] [] (by kernel_rfl)
 replace h:=h.f func198 [0,1,4] [] (by kernel_rfl)
 replace h:=h.f func199 [0,1,4,5,7,8,9,16] [] (by kernel_rfl)
 replace h:=h.f func200 [0,1,4] [] (by kernel_rfl)
 replace h:=h.f func201 [0,1,2,3] [] (by kernel_rfl)
 replace h:=h.f func202 [0,1,2,3,4,5,15,24] [] (by kernel_rfl)
 replace h:=h.f func203 [0,2] [] (by kernel_rfl)
 replace h:=h.f func204 [0,1,3,4,5,7,8,9,16] [] (by kernel_rfl)
 replace h:=h.f func205 [0,1,4,5,7,8,9,16] [] (by kernel_rfl)
 replace h:=h.f func212 [0,1,4,5,6,7,12,16,17,18,20,28,38] [] (by kernel_rfl)
 replace h:=h.f func213 [0,1,2,4] [] (by kernel_rfl)
 replace h:=h.f func241 [0,1,4,5,7,8,9,16] [] (by kernel_rfl)
 replace h:=h.f func244 [0,1,4] [] (by kernel_rfl)
 replace h:=h.f func246 [0,1,4,6] [] (by kernel_rfl)
 replace h:=h.f func35 [0,2,3,4,5,7,9,23,35,50,59,64,65,66,67,70,71,72,73,86] [] (by kernel_rfl)
 replace h:=h.f func36 [0,2,3,4,5,7,8,9,10,11,12,14,19,31,32,33,34,40,41,42,43,65,70,75,76,77,78] [] (by kernel_rfl)
 replace h:=h.f func37 [0,1,4] [] (by kernel_rfl)
 replace h:=h.f func75 [0,1,2] [2000001] (by kernel_rfl)
 replace h:=h.f func76 [0,1,2,3,4,5,6,16,18,19,20,21,48,49,50,51,52,65,72] [] (by kernel_rfl)
 replace h:=h.f func77 [0,1,2,4,5,6,8,9,10,11,14,15,16,17,18,26,37,38,39,44] [] (by kernel_rfl)
 replace h:=h.f func78 [0,1,2,3,5,7,12,13,14,15,18,19,20,21] [10] (by kernel_rfl)
 replace h:=h.f func79 [0,2] [] (by kernel_rfl)
 replace h:=h.f func81 [0,1,2,5,6,7,14] [] (by kernel_rfl)
 replace h:=h.f func82 [0,1,4] [] (by kernel_rfl)
 replace h:=h.f func83 [0,1,2] [] (by kernel_rfl)
 replace h:=h.f func85 [0,1,2,4,7] [] (by kernel_rfl)
 exact z2N h 4000 (by kernel_rfl)
theorem y0j:z0c prog 14 [] (.bool true):=by
 have h:=x9O
 replace h:=TOK.ans w7u h
 replace h:=TOK.ans w7t h
 replace h:=TOK.ans w7s h
 replace h:=TOK.ans w7q h
 replace h:=TOK.ans w7r h
 replace h:=h.f func14 [0,1,2,3,4,5] [] (by kernel_rfl)
 replace h:=h.f func47 [0,1,4,5,10,14,25] [] (by kernel_rfl)
 replace h:=h.f func17 [0,1,4,5,10,14,26] [] (by kernel_rfl)
 exact z2N h 4000 (by kernel_rfl)
theorem z6P (l:List Int) (i:Nat) (hl:l.length≤9223372036854775807):z0c prog 31 [.sl 1 (l.map (.int .i64)),.int .i64 i] (.int .i64 (l.getD i 0)):=by
 have hln:(l.map (DV.int .i64)).length=l.length:=List.length_map _
 refine z0b w3D (by simp [x8O]) ?_
 unfold y75
 by_cases h:i<l.length
 ·have d1:decide ((i:Int)<(l.length:Int))=true:=zT9
  have ei:(i:Int).toNat=i:=Int.toNat_natCast i
  have hg:(l.map (DV.int .i64)).getD i .undef=.int .i64 (l.getD i 0):=by
   rw [zO1,List.getElem?_map,zO4 h,zO1,zO4 h];rfl
  refine zS (zA hln d1) ?_
  refine wT ?_
  refine zS (zA hln (zA ei hg)) ?_
  exact z0i (z0h (.imm rfl))
 ·have d1:decide ((i:Int)<(l.length:Int))=false:=zF9
  have hg:l.getD i 0=0:=by rw [zO1,List.getElem?_eq_none (by omega)];rfl
  rw [hg]
  refine zS (zA hln d1) ?_
  refine wFs ?_
  refine zR ?_
  exact z0i (z0h (.imm rfl))
theorem y2t {l:List Int} (hb:∀z∈l,-9223372036854775808≤z∧z≤9223372036854775807) (i:Nat) : -9223372036854775808≤l.getD i 0∧l.getD i 0≤9223372036854775807:=by
 by_cases h:i<l.length
 ·rw [zO1,zO4 h];exact hb _ (List.getElem_mem h)
 ·rw [zO1,List.getElem?_eq_none (by omega)];decide
theorem x4L {sz:Nat} {w:World} {L:Nat→Option Nat} {A:Nat→Prop} {v:Value} (h:V w L A .nils v):V w L A (.sl sz []) v:=by
 cases h with
 | imm h=>cases h;exact .imm (.sl0 _ _ _)
theorem x2n {b:Bool} {n:Int} (j:Nat) (d d':DV) (h:[DV.bool b,.bool false,.nils,.nils,.int .i64 n][j]? = some d) (h':(cxC ⟨b,(false,[],[]),n⟩)[j]? = some d') (w:World) (L:Nat→Option Nat) (A:Nat→Prop) (v:Value) (hv:V w L A d v):V w L A d' v:=by
 match j with
 | 0=>cases h;cases h';exact hv
 | 1=>cases h;cases h';exact hv
 | 2=>cases h;cases h';exact x4L hv
 | 3=>cases h;cases h';exact x4L hv
 | 4=>cases h;cases h';exact hv
 | j+5=>simp at h
theorem z45 (v m:Int) (hv : -9223372036854775808≤v∧v≤9223372036854775807) (hm:0<m∧m≤1000):z0c prog 32 [.int .i64 v,.int .i64 m] (.agg (cxC (lvT v m))):=by
 refine z0b x0G (by simp [y1b]) ?_
 unfold z7d lvT
 by_cases h:v<0
 ·have d1:decide (v<0)=true:=decide_eq_true h
  rw [if_pos h]
  refine zS d1 ?_
  refine wT ?_
  refine zS @cS ?_
  refine x58 4 (cells:=[DV.bool true,.bool false,.nils,.nils,.int .i64 0]) (cells':=cxC ⟨true,(false,[],[]),0⟩) rfl rfl x2n ?_
  exact z0i (z07 rfl rfl rfl (.imm rfl))
 ·have d1:decide (v<0)=false:=decide_eq_false h
  have hm0:decide (m=0)=false:=zF9
  rw [if_neg h]
  refine zS d1 ?_
  refine wFs ?_
  refine zS @cS ?_
  refine x58 4 (cells:=[DV.bool false,.bool false,.nils,.nils,.int .i64 (Int.tmod v m)]) (cells':=cxC ⟨false,(false,[],[]),Int.tmod v m⟩) rfl rfl x2n ?_
  exact z0i (z07 rfl rfl rfl (.imm rfl))
theorem x8D {s:Bs} {n:Int} {e:DV} (j:Nat) (d d':DV) (h:[DV.str s,.int .i64 n,.nils,e][j]? = some d) (h':[DV.str s,.int .i64 n,.sl 1 [],e][j]? = some d') (w:World) (L:Nat→Option Nat) (A:Nat→Prop) (v:Value) (hv:V w L A d v):V w L A d' v:=by
 match j with
 | 0=>cases h;cases h';exact hv
 | 1=>cases h;cases h';exact hv
 | 2=>cases h;cases h';exact x4L hv
 | 3=>cases h;cases h';exact hv
 | j+4=>simp at h
def hpT (Y X G H:List Int) (i:Nat) (cY cX cG cH:List DV) (y x g h:Nat):Hp :=
 [(1,[.sl 1 (Y.map (.int .i64)),.sl 1 (X.map (.int .i64)),.sl 1 (G.map (.int .i64)),.sl 1 (H.map (.int .i64))]),(2,[.int .i64 0,.nils]),(4,[.str [121],.int .i64 1,.sl 1 [],.osl 5 300 0 y]),(5,[.str [120],.int .i64 1,.sl 1 [],.osl 5 301 0 x]),
  (6,[.str [103],.int .i64 2,.sl 1 [.str [97],.str [98],.str [99]],.osl 5 302 0 g]),(7,[.str [104],.int .i64 2,.sl 1 [.str [117],.str [118]],.osl 5 303 0 h]),(300,cY),(301,cX),(302,cG),(303,cH)]
theorem y2H (Y X G H:List Int) (hY:Y.length≤9223372036854775807) (hX:X.length≤9223372036854775807) (hG:G.length≤9223372036854775807) (hH:H.length≤9223372036854775807)
  (bY:∀z∈Y,-9223372036854775808≤z∧z≤9223372036854775807) (bX:∀z∈X,-9223372036854775808≤z∧z≤9223372036854775807) (bG:∀z∈G,-9223372036854775808≤z∧z≤9223372036854775807) (bH:∀z∈H,-9223372036854775808≤z∧z≤9223372036854775807) :
  z0c prog 8 [.agg [.sl 1 (Y.map (.int .i64)),.sl 1 (X.map (.int .i64)),.sl 1 (G.map (.int .i64)),.sl 1 (H.map (.int .i64))]] (.agg [.int .i64 (min Y.length 10:Nat),.sl 4 (kxs (z2o Y X G H))]):=by
 obtain ⟨n,hn⟩:∃n,n=min Y.length 10:=⟨_,rfl⟩
 have hmn:(if (10:Int)<(Y.length:Int) then (10:Int) else (Y.length:Int))=(n:Int):=by
  split<;>omega
 have hyl:(Y.map (DV.int .i64)).length=Y.length:=List.length_map _
 have hxl:(X.map (DV.int .i64)).length=X.length:=List.length_map _
 unfold z2o
 rw [←hn]
 refine z0b x38 (by simp [y4q]) ?_
 unfold z8w
 refine zS (zA hyl (zA hmn @cS)) ?_
 refine ⟨by simp [DV.rf],by simp [DV.rf],?_⟩
 refine x58 4 (cells:=[DV.str [121],.int .i64 1,.nils,.nils]) (cells':=[DV.str [121],.int .i64 1,.sl 1 [],.nils]) rfl rfl x8D ?_
 refine x58 5 (cells:=[DV.str [120],.int .i64 1,.nils,.nils]) (cells':=[DV.str [120],.int .i64 1,.sl 1 [],.nils]) rfl rfl x8D ?_
 refine z8l 4 3 5 300 (cells:=[DV.str [121],.int .i64 1,.sl 1 [],.nils]) rfl rfl rfl ?_
 refine z8l 5 3 5 301 (cells:=[DV.str [120],.int .i64 1,.sl 1 [],.nils]) rfl rfl rfl ?_
 refine z8l 6 3 5 302 (cells:=[DV.str [103],.int .i64 2,.sl 1 [.str [97],.str [98],.str [99]],.nils]) rfl rfl rfl ?_
 refine z8l 7 3 5 303 (cells:=[DV.str [104],.int .i64 2,.sl 1 [.str [117],.str [118]],.nils]) rfl rfl rfl ?_
 have hcY:=z2A
 have h55:5 / 5=1:=rfl
 have pu:∀o p k,p<8→299<o→purge o (.ptr p k)=.ptr p k:=fun o p k h1 h2=>by simp [purge,DV.has,show p≠o by omega]
 have mf:∀o xs l,(cxs l).map (frz o xs)=cxs l:=fun o xs l=>z1p o xs (y0Y l)
 have mp:∀o l,(cxs l).map (purge o)=cxs l:=fun o l=>z0k o (y0Y l)
 have hbn:∀z,laid [DV.bool false,.bool false,.nils,.nils,.int .i64 0] [(1,3,.agg (xnC (qX (y2X z))))]=some (cxC (y0a z)):=fun _=>rfl
 have hbl:∀c,laid [DV.bool false,.bool false,.nils,.nils,.int .i64 0] [(0,5,.agg (cxC c))]=some (cxC c):=fun _=>rfl
 refine zR ?_
 refine z0v (σ:=Nat) (fun i=>[(1,.ptr 1 0),(2,.ptr 2 0),(3,.int .i64 n),(4,.ptr 4 0),(5,.ptr 5 0),(6,.ptr 6 0),(7,.ptr 7 0),(8,.int .i64 i)]) (fun i=>hpT Y X G H i (cxs (tbY Y i)) (cxs (tbY X i)) (cxs (tbG G 3 i)) (cxs (tbG H 2 i)) i i i i) (fun i=>i≤n) (fun i=>n - i) 0 (Nat.zero_le _) ?_ rfl ?_
 ·simp [z0y,lk]
 ·intro i hi
  try simp only at hi ⊢
  by_cases hlt:i<n
  ·have dl:decide ((i:Int)<(n:Int))=true:=zT9
   have ei:(i:Int).toNat=i:=Int.toNat_natCast i
   have e1:((i:Int)+1)=((i+1:Nat):Int):=by omega
   have hgY:(Y.map (DV.int .i64)).getD i .undef=.int .i64 (Y.getD i 0):=by
    rw [zO1,List.getElem?_map,zO4 (by omega),zO1,zO4 (by omega)];rfl
   have cY:=z3e (Y.getD i 0) (y2t bY i)
   have aX:=z6P X i hX
   have cX:=z3e (X.getD i 0) (y2t bX i)
   have aG:=z6P G i hG
   have cG:=z45 (G.getD i 0) 3 (y2t bG i) (by decide)
   have aH:=z6P H i hH
   have cH:=z45 (H.getD i 0) 2 (y2t bH i) (by decide)
   have sY:=y93 Y i
   have sX:=y93 X i
   have sG:=y92 G 3 i
   have sH:=y92 H 2 i
   have lY:=hcY (tbY Y i)
   have lX:=hcY (tbY X i)
   have lG:=hcY (tbG G 3 i)
   have lH:=hcY (tbG H 2 i)
   rw [z61] at lY lX
   rw [z60] at lG lH
   refine zS dl ?_
   refine wTs ?_
   unfold hpT
   refine zS (zA ei (zA hyl (zA hgY @cS))) ?_
   refine cP cY ?_
   refine zS (zA hbn (zA hbl (zA @z1V (zA lY (zA h55 (zA pu mp)))))) ?_
   refine ⟨z8Q _,⟨by omega,by omega,fun h=>h,y2a _⟩,?_⟩
   rw [sY]
   refine zS (zA pu (zA mp @cS)) ?_
   refine zS @cS ?_
   refine cP aX ?_
   refine zR ?_
   refine cP cX ?_
   refine zS (zA hbn (zA hbl (zA @z1V (zA lX (zA h55 (zA pu mp)))))) ?_
   refine ⟨z8Q _,⟨by omega,by omega,fun h=>h,y2a _⟩,?_⟩
   rw [sX]
   refine zS (zA pu (zA mp @cS)) ?_
   refine zS @cS ?_
   refine cP aG ?_
   refine zR ?_
   refine cP cG ?_
   refine zS (zA hbl (zA @z1V (zA lG (zA h55 (zA pu mp))))) ?_
   refine ⟨z8Q _,⟨by omega,by omega,fun h=>h,y2a _⟩,?_⟩
   rw [sG]
   refine zS (zA pu (zA mp @cS)) ?_
   refine zS @cS ?_
   refine cP aH ?_
   refine zR ?_
   refine cP cH ?_
   refine zS (zA hbl (zA @z1V (zA lH (zA h55 (zA pu mp))))) ?_
   refine ⟨z8Q _,⟨by omega,by omega,fun h=>h,y2a _⟩,?_⟩
   rw [sH]
   refine zS (zA pu (zA mp @cS)) ?_
   refine zS e1 ?_
   exact ⟨i+1,by omega,by omega,by simp [z0y,lk],rfl⟩
  ·have hin:i=n:=by omega
   have dl:decide ((i:Int)<(n:Int))=false:=zF9
   rw [hin] at dl ⊢
   have lY:=hcY (tbY Y n)
   have lX:=hcY (tbY X n)
   have lG:=hcY (tbG G 3 n)
   have lH:=hcY (tbG H 2 n)
   rw [z61] at lY lX
   rw [z60] at lG lH
   have fz:∀o l,frz o (cxs l) (.osl 5 o 0 l.length)=.sl 5 (cxs l):=fun o l=>by
    have:=z2A l
    simp [frz,this];rw [List.take_of_length_le (by omega)]
   have f0:=fz 300 (tbY Y n)
   have f1:=fz 301 (tbY X n)
   have f2:=fz 302 (tbG G 3 n)
   have f3:=fz 303 (tbG H 2 n)
   rw [z61] at f0 f1
   rw [z60] at f2 f3
   have fn:∀o p cs m,p≠o→frz o cs (.osl 5 p 0 m)=.osl 5 p 0 m:=fun o p cs m h=>by simp [frz,h]
   unfold hpT
   refine z0I 300 (cells:=cxs (tbY Y n)) rfl (List.all_eq_true.2 (y0Y _)) ?_
   refine z0I 301 (cells:=cxs (tbY X n)) (by simp [rmH,lkH,mf]) (List.all_eq_true.2 (y0Y _)) ?_
   refine z0I 302 (cells:=cxs (tbG G 3 n)) (by simp [rmH,lkH,mf]) (List.all_eq_true.2 (y0Y _)) ?_
   refine z0I 303 (cells:=cxs (tbG H 2 n)) (by simp [rmH,lkH,mf]) (List.all_eq_true.2 (y0Y _)) ?_
   have fp:∀o p cs,p<8→299<o→frz o cs (.ptr p 0)=.ptr p 0:=fun o p cs h1 h2=>by simp [frz,purge,DV.has,show p≠o by omega]
   have hld:∀a b c d:List Tc,laid [DV.str [],.int .i64 0,.nils,.nils,.str [],.int .i64 0,.nils,.nils,.str [],.int .i64 0,.nils,.nils,.str [],.int .i64 0,.nils,.nils] [(0,4,.agg [.str [121],.int .i64 1,.sl 1 [],.sl 5 (cxs a)]),(4,4,.agg [.str [120],.int .i64 1,.sl 1 [],.sl 5 (cxs b)]),(8,4,.agg [.str [103],.int .i64 2,.sl 1 [.str [97],.str [98],.str [99]],.sl 5 (cxs c)]),(12,4,.agg [.str [104],.int .i64 2,.sl 1 [.str [117],.str [118]],.sl 5 (cxs d)])] =
    some (kxs [⟨[121],1,[],a⟩,⟨[120],1,[],b⟩,⟨[103],2,[[97],[98],[99]],c⟩,⟨[104],2,[[117],[118]],d⟩]):=fun _ _ _ _=>rfl
   refine zS (zA dl (zA mf (zA f0 (zA f1 (zA f2 (zA f3 (zA fn fp))))))) ?_
   refine z0l rfl (fun h=>by cases h) (fun _=>z0q ?_)
   refine zS (zA @cS hld) ?_
   refine ⟨fun d hd=>?_,?_⟩
   ·exact x0r z29 _ d hd
   refine zS @cS ?_
   exact z0i (z07 rfl rfl rfl (.imm rfl))
end Go.Proofs.YtlcagndeidjobaaGreatDoor
namespace Go.Proofs.YtlcagndeidjobaaGreatDoor
open Tryz
open Go Go.Dat Go.Proofs Go.RowKit Go.Shelf Nat32
theorem x9G {x:XN} (h:x9H x=true):w2C x=true:=by
 unfold x9H at h
 simp only [Bool.and_eq_true,Bool.not_eq_true',decide_eq_true_eq] at h
 obtain ⟨⟨h1,h2⟩,h3⟩:=h
 have:x=(false,[],[]):=Prod.ext h1 (Prod.ext h2 h3)
 rw [this];exact w5y
theorem w3r {k:Kx} {x:Tc} (h:x0q k x=true):y8H k x=true:=by
 unfold x0q at h
 unfold y8H
 split
 ·rename_i h1
  rw [if_pos h1,Bool.and_eq_true] at h
  rw [x9G h.1,h.2];rfl
 ·rename_i h1
  rw [if_neg h1] at h
  split
  ·rename_i h2;rwa [if_pos h2] at h
  ·rename_i h2
   rw [if_neg h2,Bool.and_eq_true,Bool.and_eq_true] at h
   rw [x9G h.1.1,h.1.2,h.2];rfl
theorem x8m {n:Int} {S:List Kx} (h:x8l n S=true):x10 n S=true∧0≤n∧n≤1024∧S.length≤32∧∀k∈S,(k.ce.length:Int)=n:=by
 unfold x8l at h
 simp only [Bool.and_eq_true,decide_eq_true_eq,List.all_eq_true] at h
 obtain ⟨⟨⟨⟨h1,h2⟩,h3⟩,h4⟩,h5⟩:=h
 refine ⟨?_,h1,h2,h3,fun k hk=>?_⟩
 ·unfold x10
  simp only [Bool.and_eq_true,decide_eq_true_eq,List.all_eq_true]
  refine ⟨⟨⟨⟨h1,h2⟩,h3⟩,h5⟩,fun k hk=>?_⟩
  have:=h4 k hk
  unfold y51 at this
  unfold x1W
  simp only [Bool.and_eq_true,List.all_eq_true] at this ⊢
  exact ⟨this.1,fun c hc=>w3r (this.2 c hc)⟩
 ·have:=h4 k hk
  unfold y51 x1Z at this
  simp only [Bool.and_eq_true,decide_eq_true_eq] at this
  exact this.1.1.2
theorem z3Z (n:Int) (S:List Kx) (s:Bs) (h:okT S) (hv:x8l n S=true):z0c prog 42 [.agg [.int .i64 n,.sl 4 (kxs S)],.str s] (.int .i64 (ixS (z1t S) s)):=by
 have hln:(kxs S).length / 4=S.length:=by rw [z1X];omega
 have hlen:=z1X S
 have hl:=h.1
 have hca:(DV.agg [.int .i64 n,.sl 4 (kxs S)]).cells? = some [.int .i64 n,.sl 4 (kxs S)]:=rfl
 have cv:=z4D n S h
 rw [hv] at cv
 refine z0b w0O (by simp [x3t]) ?_
 unfold y4a
 refine zS (zA hca @cS) ?_
 refine cP cv ?_
 refine zR ?_
 refine wFs ?_
 refine zR ?_
 refine z0v (σ:=Nat) (fun i=>[(1,.str s),(2,.ptr 2 0),(5,.int .i64 i)]) (fun _=>[(2,[.int .i64 n,.sl 4 (kxs S)])]) (fun i=>i≤S.length∧∀j,j<i→(z1t S).getD j []≠s) (fun i=>S.length - i) 0 ⟨Nat.zero_le _,by simp⟩ ?_ rfl ?_
 ·simp [z0y,lk]
 ·rintro i ⟨hi,hall⟩
  try simp only at hi hall ⊢
  by_cases hlt:i<S.length
  ·have dl:decide ((i:Int)<(S.length:Int))=true:=zT9
   have ei:(i:Int).toNat=i:=Int.toNat_natCast i
   have e1:((i:Int)+1)=((i+1:Nat):Int):=by omega
   have hkn:(z1t S).getD i []=(S.getD i default).nm:=by
    unfold z1t
    rw [zO1,List.getElem?_map,zO4 hlt,zO1,zO4 hlt];rfl
   have hg0:(kxs S).getD (i*4) .undef=.str (S.getD i default).nm:=y4o (j:=0) z00 default hlt (by decide) .undef
   rw [←hkn] at hg0
   by_cases hs:(z1t S).getD i []=s
   ·have ds:decide ((z1t S).getD i []=s)=true:=decide_eq_true hs
    rw [y9j (by rw [z1b];exact hlt) hs hall]
    refine zS (zA @cS (zA dl hln)) ?_
    refine wTs ?_
    refine zS (zA @cS (zA ei (zA hlen (zA hg0 ds)))) ?_
    refine wT ?_
    refine zR ?_
    exact z0i (z0h (.imm rfl))
   ·have ds:decide ((z1t S).getD i []=s)=false:=decide_eq_false hs
    refine zS (zA @cS (zA dl hln)) ?_
    refine wTs ?_
    refine zS (zA @cS (zA ei (zA hlen (zA hg0 ds)))) ?_
    refine wFs ?_
    refine zS e1 ?_
    exact ⟨i+1,⟨by omega,fun j hj=>by
     rcases Nat.lt_or_ge j i with h2|h2
     ·exact hall j h2
     ·obtain rfl:j=i:=by omega
      exact hs⟩,by omega,by simp [z0y,lk]⟩
  ·have dl:decide ((i:Int)<(S.length:Int))=false:=zF9
   rw [x4u fun j hj=>hall j (by rw [z1b] at hj;omega)]
   refine zS (zA @cS (zA dl hln)) ?_
   refine z0l rfl (fun h=>by cases h) (fun _=>z0q ?_)
   refine zR ?_
   exact z0i (z0h (.imm rfl))
end Go.Proofs.YtlcagndeidjobaaGreatDoor
namespace Go.Proofs.YtlcagndeidjobaaGreatDoor
open Tryz
open Go Go.Dat Go.Proofs Go.RowKit Go.Lib Nat32
theorem y7B (n:Int) (S:List Kx) (s:Bs) (h:okT S) (hv:x10 n S=true):z0c prog 85 [.agg [.int .i64 n,.sl 4 (kxs S)],.str s] (.int .i64 (ixS (z1t S) s)):=by
 have c1:=z6Z n S h
 rw [hv] at c1
 have c2:=z2Z n S h.1
 have c3:=z3m (z1t S) s (by rw [z1b];have:=h.1;omega)
 have hca:(DV.agg [.int .i64 n,.sl 4 (kxs S)]).cells? = some [.int .i64 n,.sl 4 (kxs S)]:=rfl
 refine z0b w0L (by simp [x3q]) ?_
 unfold y37
 refine zS (zA hca @cS) ?_
 refine cP c1 ?_
 refine zR ?_
 refine wFs ?_
 refine zS (zA hca @cS) ?_
 refine cP c2 ?_
 refine zR ?_
 refine cP c3 ?_
 refine zR ?_
 exact z0i (z0h (.imm rfl))
theorem z16 (n:Int) (S:List Kx) (m:Mdl) (cod:Int) (s:Bs) (h:okT S) (hv:x10 n S=true) (hs:0≤ixS (z1t S) s):z0c prog 37 [.el (z5c n S m cod) 0,.str s] (.agg (kxC (z4T S s))):=by
 have c1:=y7B n S s h hv
 have hlen:=z1X S
 have hbd:=z9r s (z1t S)
 rw [z1b] at hbd
 unfold z4T
 obtain ⟨j,hj⟩:∃j:Nat,ixS (z1t S) s=j:=⟨(ixS (z1t S) s).toNat,by omega⟩
 rw [hj] at c1 hbd ⊢
 have ej:(j:Int).toNat=j:=Int.toNat_natCast j
 rw [ej]
 have hw:((kxs S).drop (j*4)).take 4=kxC (S.getD j default):=z1m (j:=0) z00 default (by omega) (Nat.le_refl _)
 have hk4:=z00 (S.getD j default)
 have hcc:(DV.agg (kxC (S.getD j default))).cells? = some (kxC (S.getD j default)):=rfl
 have htk:(kxC (S.getD j default)).take 4=kxC (S.getD j default):=rfl
 have hrf:=List.all_eq_true.2 (z29 (S.getD j default))
 refine z0b y6D (by simp [z84]) ?_
 unfold z5A z5c
 generalize kxC (S.getD j default)=C at *
 repeat (first|refine z0d ?_|refine z0g ?_|refine z0p ?_|refine z0f ?_|refine And.intro (by omega) ?_|simp (maxSteps:=1000000) (disch:=omega) only [cA,cB,cN,FnD.nb,lk,lkH,Dst.onT,Dst.onX,Dst.slot,z0W,z0N,z0J,z0X,z0u,z0V,unE,cnt,z0j,z0t,z0m,z0o,opE,rmH,z02,z0n,Nat.reduceEqDiff,Nat.reduceLT,Nat.reduceAdd,Nat.reduceMul,Nat.reduceMod,↓reduceIte,reduceCtorEq,Nat.reduceLeDiff,cS])
 refine cP c1 ?_
 repeat (first|refine z0d ?_|refine z0g ?_|refine z0p ?_|refine z0f ?_|refine And.intro (by omega) ?_|simp (maxSteps:=1000000) (disch:=omega) only [cA,cB,cN,FnD.nb,lk,lkH,Dst.onT,Dst.onX,Dst.slot,z0W,z0N,z0J,z0X,z0u,z0V,unE,cnt,z0j,z0t,z0m,z0o,opE,rmH,z02,z0n,Nat.reduceEqDiff,Nat.reduceLT,Nat.reduceAdd,Nat.reduceMul,Nat.reduceMod,↓reduceIte,reduceCtorEq,Nat.reduceLeDiff,ej,hlen,hw,hk4,hcc,htk,cS])
 exact z0i (z07 rfl rfl hk4 (.imm (by rw [DV.rf_agg];exact hrf)))
theorem z74 (k:Kx) (p r:Nat) {q:Rat} {b:Nat} (hr:r<k.ce.length) (hc:(k.ce.getD r default).va=qX q) (hq:BS q b) (hp:p≤1000) (hb:b≤100) :
  z0c prog 210 [.int .i64 r,.el [.int .i64 p] 0,.el (kxC k) 0] (.sl 3 (nums [q ^ p])):=by
 have c1:z0c prog 80 [.int .i64 1] (.agg (z0T 1)):=z3g 1 (by decide) (by decide)
 have hcc:∀x:Rat,(DV.agg (z0T x)).cells? = some (z0T x):=fun _=>rfl
 have hn3:=z1i
 have ht3:∀x:Rat,(z0T x).take 3=z0T x:=fun _=>rfl
 have er:(r:Int).toNat=r:=Int.toNat_natCast r
 have hcx:=z2A k.ce
 have hg:((cxs k.ce).drop (r*5+1)).take 3=z0T q:=by
  have h1:((cxs k.ce).drop (r*5+1)).take 3=((cxC (k.ce.getD r default)).drop 1).take 3:=z1m z1V default hr (by decide)
  rw [h1]
  show xnC (k.ce.getD r default).va=_
  rw [hc];rfl
 refine z0b y4Q (by simp [z7z]) ?_
 unfold z4Y kxC
 repeat (first|refine z0d ?_|refine z0g ?_|refine z0p ?_|refine z0f ?_|refine And.intro (by omega) ?_|simp (maxSteps:=1000000) (disch:=omega) only [cA,cB,cN,FnD.nb,lk,lkH,Dst.onT,Dst.onX,Dst.slot,z0W,z0N,z0J,z0X,z0u,z0V,unE,cnt,z0j,z0t,z0m,z0o,opE,rmH,z02,z0n,Nat.reduceEqDiff,Nat.reduceLT,Nat.reduceAdd,Nat.reduceMul,Nat.reduceMod,↓reduceIte,reduceCtorEq,Nat.reduceLeDiff])
 refine cP c1 ?_
 repeat (first|refine z0d ?_|refine z0g ?_|refine z0p ?_|refine z0f ?_|refine And.intro (by omega) ?_|simp (maxSteps:=1000000) (disch:=omega) only [cA,cB,cN,FnD.nb,lk,lkH,Dst.onT,Dst.onX,Dst.slot,z0W,z0N,z0J,z0X,z0u,z0V,unE,cnt,z0j,z0t,z0m,z0o,opE,rmH,z02,z0n,Nat.reduceEqDiff,Nat.reduceLT,Nat.reduceAdd,Nat.reduceMul,Nat.reduceMod,↓reduceIte,reduceCtorEq,Nat.reduceLeDiff,hcc,hn3,ht3])
 refine z0v (σ:=Nat) (fun i=>[(0,.int .i64 r),(1,.el [.int .i64 p] 0),(2,.el [.str k.nm,.int .i64 k.kd,.sl 1 (z0L k.le),.sl 5 (cxs k.ce)] 0),(5,.ptr 5 0),(7,.int .i64 p),(8,.int .i64 i)]) (fun i=>[(5,z0T (q ^ i))]) (fun i=>i≤p) (fun i=>p - i) 0 (Nat.zero_le _) ?_ ?_ ?_
 ·simp [z0y,lk]
 ·rw [Rat.pow_zero];simp
 ·intro i hi
  try simp only at hi ⊢
  by_cases hlt:i<p
  ·have dl:decide ((i:Int)<(p:Int))=true:=zT9
   have e1:((i:Int)+1)=((i+1:Nat):Int):=by omega
   have hib:i*b≤100000:=Nat.le_trans (Nat.mul_le_mul (show i≤1000 by omega) hb) (by decide)
   have cm:=w4X (x12 hq i) hq (by omega) (by omega)
   rw [←Rat.pow_succ] at cm
   refine zS dl ?_
   refine wTs ?_
   refine z0d ?_
   refine z0f ?_
   refine z0p ?_
   simp (maxSteps:=1000000) (disch:=omega) only [cA,cB,cN,FnD.nb,lk,lkH,Dst.onT,Dst.onX,Dst.slot,z0W,z0N,z0J,z0X,z0u,z0V,unE,cnt,z0j,z0t,z0m,z0o,opE,rmH,z02,z0n,Nat.reduceEqDiff,Nat.reduceLT,Nat.reduceAdd,Nat.reduceMul,Nat.reduceMod,↓reduceIte,reduceCtorEq,Nat.reduceLeDiff,hcc,hn3,ht3,er,hcx,hg,cS,List.drop_zero]
   repeat refine ⟨by omega,?_⟩
   refine cP cm ?_
   refine zE (zA hcc (zA hn3 ht3)) ?_
   repeat refine ⟨by omega,?_⟩
   refine zS e1 ?_
   exact ⟨i+1,by omega,by omega,by simp [z0y,lk],rfl⟩
  ·have dl:decide ((i:Int)<(p:Int))=false:=zF9
   obtain rfl:i=p:=by omega
   have hld:∀x:Rat,laid [DV.bool false,.nils,.nils] [(0,3,.agg (z0T x))]=some (z0T x):=fun _=>rfl
   have hns:nums [q ^ i]=z0T (q ^ i):=by unfold nums;simp
   rw [hns]
   repeat (first|refine z0d ?_|refine z0g ?_|refine z0p ?_|refine z0f ?_|refine And.intro (by omega) ?_|simp (maxSteps:=1000000) (disch:=omega) only [cA,cB,cN,FnD.nb,lk,lkH,Dst.onT,Dst.onX,Dst.slot,z0W,z0N,z0J,z0X,z0u,z0V,unE,cnt,z0j,z0t,z0m,z0o,opE,rmH,z02,z0n,Nat.reduceEqDiff,Nat.reduceLT,Nat.reduceAdd,Nat.reduceMul,Nat.reduceMod,↓reduceIte,reduceCtorEq,Nat.reduceLeDiff,dl])
   refine z0l rfl (fun h=>by cases h) (fun _=>z0q ?_)
   repeat (first|refine z0d ?_|refine z0g ?_|refine z0p ?_|refine z0f ?_|refine And.intro (by omega) ?_|simp (maxSteps:=1000000) (disch:=omega) only [cA,cB,cN,FnD.nb,lk,lkH,Dst.onT,Dst.onX,Dst.slot,z0W,z0N,z0J,z0X,z0u,z0V,unE,cnt,z0j,z0t,z0m,z0o,opE,rmH,z02,z0n,Nat.reduceEqDiff,Nat.reduceLT,Nat.reduceAdd,Nat.reduceMul,Nat.reduceMod,↓reduceIte,reduceCtorEq,Nat.reduceLeDiff,hcc,hn3,ht3,hld,List.drop_zero])
   refine ⟨z1z _,?_⟩
   repeat (first|refine z0d ?_|refine z0g ?_|refine z0p ?_|refine z0f ?_|refine And.intro (by omega) ?_|simp (maxSteps:=1000000) (disch:=omega) only [cA,cB,cN,FnD.nb,lk,lkH,Dst.onT,Dst.onX,Dst.slot,z0W,z0N,z0J,z0X,z0u,z0V,unE,cnt,z0j,z0t,z0m,z0o,opE,rmH,z02,z0n,Nat.reduceEqDiff,Nat.reduceLT,Nat.reduceAdd,Nat.reduceMul,Nat.reduceMod,↓reduceIte,reduceCtorEq,Nat.reduceLeDiff])
   exact z0i (z0h (.imm rfl))
theorem x9V:z0U prog 210:=⟨_,func210,by kernel_rfl,by kernel_rfl⟩
def w2H (k:Kx) (p:Nat):Grp:=⟨[if p=1 then k.nm else k.nm++94::decDigits p],.clo 210 [.el [.int .i64 p] 0,.el (kxC k) 0],rfl,rfl⟩
theorem dd8:∀p,p<9→(decDigits p).length=1:=by decide +kernel
theorem z8S (B:List DV) (k:Kx) (p:Nat) (hp:p≤8) (hnl:k.nm.length≤1000000):z0c prog 152 [.el B 0,.agg (kxC k),.int .i64 p] (.agg (gpC (w2H k p))):=by
 have ci:=x5v p (by omega)
 have hkc:(DV.agg (kxC k)).cells? = some (kxC k):=rfl
 have hg0:∀x,(kxC k).getD 0 x=.str k.nm:=fun _=>rfl
 have hk4:=z00 k
 have hkr:=List.all_eq_true.2 (z29 k)
 have hbd:∀x y,laid [DV.nils,.undef] [(0,1,.sl 1 x),(1,1,.clo 210 y)]=some [.sl 1 x,.clo 210 y]:=fun _ _=>rfl
 have hbs:∀x,laid [DV.str []] [(0,1,.str x)]=some [.str x]:=fun _=>rfl
 have hoc:∀x y,(DV.agg [.sl 1 x,.clo 210 y]).cells? = some [.sl 1 x,.clo 210 y]:=fun _ _=>rfl
 refine z0b y6F (by simp [z86]) ?_
 unfold z5C w2H gpC z0L
 generalize kxC k=C at *
 have hpC:∀z,z2e 4 C (.ptr 4 z)=if C≠[] then .el C z else .undef:=fun z=>by simp [z2e]
 have hne:C≠[]:=fun e=>by rw [e] at hk4;cases hk4
 refine z0d ?_
 refine z0g ?_
 have hic:(DV.int .i64 p).cells? = some [.int .i64 p]:=rfl
 simp (maxSteps:=1000000) (disch:=omega) only [cA,cB,cN,FnD.nb,lk,lkH,Dst.onT,Dst.onX,Dst.slot,z0W,z0N,z0J,z0X,z0u,z0V,unE,cnt,z0j,z0t,z0m,z0o,opE,rmH,z02,z0n,Nat.reduceEqDiff,Nat.reduceLT,Nat.reduceAdd,Nat.reduceMul,Nat.reduceMod,↓reduceIte,reduceCtorEq,Nat.reduceLeDiff,hkc,hic]
 refine z1P 4 (cells:=C) rfl hkr ?_
 refine z1P 5 (cells:=[.int .i64 p]) rfl rfl ?_
 have f1:z2e 5 [.int .i64 p] (z2e 4 C (.ptr 4 0))=.el C 0:=by rw [hpC,if_pos hne];rfl
 have f2:z2e 5 [.int .i64 p] (z2e 4 C (.ptr 5 0))=.el [.int .i64 p] 0:=rfl
 have f3:z2e 5 [.int .i64 p] (z2e 4 C (.ptr 6 0))=.ptr 6 0:=rfl
 by_cases h:p=1
 ·have d1:decide (¬(p:Int)=1)=false:=zF9
  rw [if_pos h]
  refine zS (zA f1 (zA f2 (zA f3 (zA hg0 d1)))) ?_
  refine wFs ?_
  refine zS (zA hbd (zA hbs (zA @z3L hoc))) ?_
  refine ⟨List.all_eq_true.1 rfl,List.all_eq_true.1 rfl,?_⟩
  refine zS hoc ?_
  exact z0i (z07 rfl rfl rfl (.imm (by simp [DV.rf,DV.rfL])))
 ·have d1:decide (¬(p:Int)=1)=true:=zT9
  rw [if_neg h]
  refine zS (zA f1 (zA f2 (zA f3 (zA hg0 d1)))) ?_
  refine wT ?_
  refine zR ?_
  refine cP ci ?_
  have h8:=dd8 p (by omega)
  have ha8:([94]++decDigits p).length=2:=by rw [List.length_append,h8];rfl
  refine zS (zA hbd (zA hbs (zA @z3L hoc))) ?_
  refine ⟨List.all_eq_true.1 rfl,List.all_eq_true.1 rfl,?_⟩
  refine zS hoc ?_
  exact z0i (z07 rfl rfl rfl (.imm (by simp [DV.rf,DV.rfL])))
theorem w4J (k:Kx) (p r:Nat) {q:Rat} {b:Nat} (hr:r<k.ce.length) (hc:(k.ce.getD r default).va=qX q) (hq:BS q b) (hp:p≤1000) (hb:b≤100):GV prog (w2H k p) r [q ^ p] :=
 ⟨_,_,.inl rfl,x9V,rfl,z74 k p r hr hc hq hp hb⟩
theorem z70 (k n:Int) (h:1≤k∧k≤4∧1≤n∧n≤32):z0c prog 244 [.int .i64 k,.int .i64 n] (.bool true):=by
 have d1:decide (1≤k)=true:=decide_eq_true h.1
 have d2:decide (k≤4)=true:=decide_eq_true h.2.1
 have d3:decide (1≤n)=true:=decide_eq_true h.2.2.1
 have d4:decide (n≤32)=true:=decide_eq_true h.2.2.2
 refine z0b z7H (by simp [z27]) ?_
 unfold z2r
 refine zS (zA d1 (zA d2 (zA d3 d4))) ?_
 exact z0i (z0h (.imm rfl))
theorem z7Z (k n:Nat) (h:1≤n∧n≤32):z0c prog 246 [.int .i64 k,.int .i64 n] (.int .i64 (ctC k n)):=by
 refine z0b z7G (by simp [z26]) ?_
 unfold z2q ctC
 by_cases h:k=4
 ·have d1:decide ((k:Int)=4)=true:=zT9
  rw [if_pos h]
  refine zS d1 ?_
  refine wT ?_
  refine zR ?_
  exact z0i (z0h (.imm rfl))
 ·have d1:decide ((k:Int)=4)=false:=zF9
  have e1:(n:Int) - 1=((n - 1:Nat):Int):=by omega
  rw [if_neg h]
  refine zS (zA d1 e1) ?_
  refine wFs ?_
  refine zS e1 ?_
  exact z0i (z0h (.imm rfl))
theorem w69:∀p,p<40→(decDigits p).length≤2:=by decide +kernel
theorem y19 (k:Nat) (le:List Bs) (hk:1≤k∧k≤4) (hn:1≤le.length∧le.length≤32) (hs:∀s∈le,s.length≤1000000):z0c prog 212 [.int .i64 k,.sl 1 (z0L le)] (.tup [.sl 1 (z0L (ctN k le)),.int .i64 0]):=by
 have hll:=z0K le
 have c1:=z70 k le.length (by omega)
 have c2:=z7Z k le.length hn
 obtain ⟨N,hN⟩:∃N,N=ctN k le:=⟨_,rfl⟩
 have hNl:N.length=ctC k le.length:=by rw [hN,y18,Int.toNat_natCast]
 have hcb:ctC k le.length≤le.length:=by unfold ctC;split<;>omega
 have hNg:∀j,j<ctC k le.length→N.getD j []=if (k:Int)=4 then [61]++le.getD j [] else if (k:Int)=1 then [61]++le.getD (j+1) [] else [46]++decDigits (j+1):=fun j hj=>by
  rw [hN]
  unfold ctN
  rw [Int.toNat_natCast,zO1,List.getElem?_map,List.getElem?_range hj];rfl
 have hct:k≠4→ctC k le.length=le.length - 1:=fun h=>by unfold ctC;rw [if_neg h]
 rw [←hN]
 generalize ctC k le.length=c at *
 refine z0b x36 (by simp [y4p]) ?_
 unfold z8u
 refine zS hll ?_
 refine cP c1 ?_
 refine zR ?_
 refine wFs ?_
 refine z0d ?_
 refine z0g ?_
 refine zD ?_
 refine z4a 6 1 200 rfl rfl ?_
 refine zS hll ?_
 refine cP c2 ?_
 refine zR ?_
 refine z0v (σ:=Nat) (fun j=>[(0,.int .i64 k),(1,.sl 1 (z0L le)),(6,.osl 1 200 0 j),(16,.int .i64 c),(17,.int .i64 j)]) (fun j=>[(200,z0L (N.take j))]) (fun j=>j≤c) (fun j=>c - j) 0 (Nat.zero_le _) ?_ rfl ?_
 ·simp [z0y,lk]
 ·intro j hj
  try simp only at hj ⊢
  have htl:(z0L (N.take j)).length=j:=by rw [z0K,List.length_take];omega
  by_cases hlt:j<c
  ·have dl:decide ((j:Int)<(c:Int))=true:=zT9
   have ej:(j:Int).toNat=j:=Int.toNat_natCast j
   have e1:((j:Int)+1)=((j+1:Nat):Int):=by omega
   have ej1:(((j+1:Nat):Int)).toNat=j+1:=Int.toNat_natCast _
   have hg:=hNg j hlt
   have hsn:z0L (N.take j)++[.str (N.getD j [])]=z0L (N.take (j+1)):=by
    rw [z0z [] (show j<N.length by omega)]
    unfold z0L
    rw [List.map_append];rfl
   have hpg:=z0k 200 (z2H (N.take (j+1)))
   have hld:∀x,laid [DV.str []] [(0,1,.str x)]=some [.str x]:=fun _=>rfl
   refine zS dl ?_
   refine wTs ?_
   by_cases h4:k=4
   ·have d4:decide ((k:Int)=4)=true:=zT9
    have hst:=z1a (r:=le) (show j<le.length by omega)
    have hsl:=hs _ (z1J (show j<le.length by omega))
    rw [if_pos (by omega)] at hg
    refine z0d ?_
    refine z0f ?_
    refine zS d4 ?_
    refine wT ?_
    refine zS (zA ej (zA hll (zA hst (zA hld htl)))) ?_
    rw [←hg,hsn]
    refine ⟨by simp [DV.rf],⟨by omega,by omega,fun h=>h,by simp [DV.one]⟩,?_⟩
    rw [hpg]
    refine zS e1 ?_
    exact ⟨j+1,by omega,by omega,by simp [z0y,lk],rfl⟩
   ·have d4:decide ((k:Int)=4)=false:=zF9
    have hcl:=hct h4
    rw [if_neg (by omega)] at hg
    by_cases h1:k=1
    ·have d1:decide ((k:Int)=1)=true:=zT9
     have hst:=z1a (r:=le) (show j+1<le.length by omega)
     have hsl:=hs _ (z1J (show j+1<le.length by omega))
     rw [if_pos (by omega)] at hg
     refine z0d ?_
     refine z0f ?_
     refine zS d4 ?_
     refine wF ?_
     refine zS d1 ?_
     refine wT ?_
     refine zS (zA e1 (zA ej1 (zA hll (zA hst (zA hld htl))))) ?_
     rw [←hg,hsn]
     refine ⟨by simp [DV.rf],⟨by omega,by omega,fun h=>h,by simp [DV.one]⟩,?_⟩
     rw [hpg]
     refine zS e1 ?_
     exact ⟨j+1,by omega,by omega,by simp [z0y,lk],rfl⟩
    ·have d1:decide ((k:Int)=1)=false:=zF9
     have ci:=x5v (j+1) (by omega)
     have hdl:=w69 (j+1) (by omega)
     rw [if_neg (by omega)] at hg
     refine z0d ?_
     refine z0f ?_
     refine zS d4 ?_
     refine wF ?_
     refine zS d1 ?_
     refine wF ?_
     refine zS e1 ?_
     refine cP ci ?_
     refine zS (zA hld htl) ?_
     rw [←hg,hsn]
     refine ⟨by simp [DV.rf],⟨by omega,by omega,fun h=>h,by simp [DV.one]⟩,?_⟩
     rw [hpg]
     refine zS e1 ?_
     exact ⟨j+1,by omega,by omega,by simp [z0y,lk],rfl⟩
  ·have dl:decide ((j:Int)<(c:Int))=false:=zF9
   obtain rfl:j=c:=by omega
   have htk:N.take j=N:=List.take_of_length_le (by omega)
   rw [htk] at htl ⊢
   have hNr:=z2H N
   refine z0I 200 (cells:=z0L N) rfl (List.all_eq_true.2 hNr) ?_
   have hfz:frz 200 (z0L N) (.osl 1 200 0 j)=.sl 1 (z0L N):=by
    simp [frz,htl]
    rw [List.take_of_length_le (by omega)]
   refine zS (zA dl hfz) ?_
   refine z0l rfl (fun h=>by cases h) (fun _=>z0q ?_)
   refine zR ?_
   exact z0i (z2f (.imm rfl) (.imm rfl))
theorem z5P (k:Kx) (r c l:Nat) (hr:r<k.ce.length) (hl:(k.ce.getD r default).lv=l) (hln:l<k.le.length) :
  z0c prog 213 [.int .i64 r,.el [.sl 1 (ctL c k.le.length)] 0,.el (kxC k) 0] (.sl 3 (nums (ctR c k.le.length l))):=by
 have er:(r:Int).toNat=r:=Int.toNat_natCast r
 have el:(l:Int).toNat=l:=Int.toNat_natCast l
 have hcx:=z2A k.ce
 have hg:(cxs k.ce).getD (r*5+4) .undef=.int .i64 l:=by
  have h1:(cxs k.ce).getD (r*5+4) .undef=(cxC (k.ce.getD r default)).getD 4 .undef:=y4o z1V default hr (by decide) .undef
  rw [h1]
  show DV.int .i64 (k.ce.getD r default).lv=_
  rw [hl]
 have hm:=x90 c k.le.length
 have hmg:=x9Z (k:=c) hln .undef
 refine z0b y0h (by simp [z42]) ?_
 unfold z32 kxC
 repeat (first|refine z0d ?_|refine z0g ?_|refine z0p ?_|refine z0f ?_|refine And.intro (by omega) ?_|simp (maxSteps:=1000000) (disch:=omega) only [cA,cB,cN,FnD.nb,lk,lkH,Dst.onT,Dst.onX,Dst.slot,z0W,z0N,z0J,z0X,z0u,z0V,unE,cnt,z0j,z0t,z0m,z0o,opE,rmH,z02,z0n,Nat.reduceEqDiff,Nat.reduceLT,Nat.reduceAdd,Nat.reduceMul,Nat.reduceMod,↓reduceIte,reduceCtorEq,Nat.reduceLeDiff,er,el,hcx,hg,hm,hmg,List.drop_zero,cS])
 exact z0i (z0h (.imm rfl))
theorem x6l:z0U prog 213:=⟨_,func213,by kernel_rfl,by kernel_rfl⟩
def w2F (k:Kx) (c:Nat):Grp:=⟨(ctN c k.le).map (k.nm++·),.clo 213 [.el [.sl 1 (ctL c k.le.length)] 0,.el (kxC k) 0],rfl,rfl⟩
theorem w23 (k:Kx) (r c l:Nat) (hr:r<k.ce.length) (hl:(k.ce.getD r default).lv=l) (hln:l<k.le.length):GV prog (w2F k c) r (ctR c k.le.length l) :=
 ⟨_,_,.inl rfl,x6l,rfl,z5P k r c l hr hl hln⟩
theorem w3a (k:Int) (le:List Bs) (hn:le.length≤32) (hs:∀s∈le,s.length≤1000000):∀s∈ctN k le,s.length≤1000001:=by
 intro s h
 unfold ctN at h
 obtain ⟨j,hj,rfl⟩:=List.mem_map.1 h
 rw [List.mem_range] at hj
 have hcb:ctC k.toNat le.length≤le.length:=by unfold ctC;split<;>omega
 have hg:∀i,(le.getD i []).length≤1000000:=fun i=>by
  by_cases hi:i<le.length
  ·exact hs _ (z1J hi)
  ·rw [zO1,List.getElem?_eq_none (by omega)];decide
 have h1:=hg j
 have h2:=hg (j+1)
 have h3:=w69 (j+1) (by omega)
 split
 ·rw [List.length_cons];omega
 ·split
  ·rw [List.length_cons];omega
  ·rw [List.length_cons];omega
theorem z6u (B:List DV) (k:Kx) (c:Nat) (hk:1≤c∧c≤4) (hn:1≤k.le.length∧k.le.length≤32) (hs:∀s∈k.le,s.length≤1000000) (hnl:k.nm.length≤1000000) (hM:z0c prog 211 [.int .i64 c,.int .i64 k.le.length] (ctD c k.le.length)) :
  z0c prog 153 [.el B 0,.agg (kxC k),.int .i64 c] (.agg (gpC (w2F k c))):=by
 have cn:=y19 c k.le hk hn hs
 have hNb:=w3a c k.le hn.2 hs
 have hkc:(DV.agg (kxC k)).cells? = some (kxC k):=rfl
 have hg0:∀x,(kxC k).getD 0 x=.str k.nm:=fun _=>rfl
 have hg2:∀x,(kxC k).getD 2 x=.sl 1 (z0L k.le):=fun _=>rfl
 have hk4:=z00 k
 have hkr:=List.all_eq_true.2 (z29 k)
 have hll:=z0K k.le
 have hL:=y18 c k.le
 rw [Int.toNat_natCast] at hL
 have hcb:ctC c k.le.length≤k.le.length:=by unfold ctC;split<;>omega
 rw [w28] at hM
 have hMl:(List.range k.le.length).map (fun i=>DV.sl 3 (nums (ctR c k.le.length i)))=ctL c k.le.length:=rfl
 rw [hMl] at hM
 have hbd:∀x y,laid [DV.nils,.undef] [(0,1,.sl 1 x),(1,1,.clo 213 y)]=some [.sl 1 x,.clo 213 y]:=fun _ _=>rfl
 refine z0b y2C (by simp [z5R]) ?_
 unfold z4f w2F gpC
 generalize ctL c k.le.length=M at *
 generalize ctN c k.le=N at *
 generalize ctC c k.le.length=n at *
 obtain ⟨L,hLd⟩:∃L,L=N.map (k.nm++·):=⟨_,rfl⟩
 have hLl:L.length=n:=by rw [hLd,List.length_map,hL]
 have hLg:∀i,i<n→L.getD i []=k.nm++N.getD i []:=fun i hi=>by
  rw [hLd,zO1,List.getElem?_map,zO4 (by omega),zO1,zO4 (by omega)];rfl
 rw [←hLd]
 generalize kxC k=C at *
 have hne:C≠[]:=fun e=>by rw [e] at hk4;cases hk4
 have hNl:=z0K N
 have en:(n:Int).toNat=n:=Int.toNat_natCast n
 refine zS hkc ?_
 refine zS (zA hg2 (zA hk4 hll)) ?_
 refine cP hM ?_
 refine zS @cS ?_
 refine zS (zA hg2 hk4) ?_
 refine cP cn ?_
 refine zS (zA hNl (zA hL en)) ?_
 rw [w3p L]
 refine z0v (σ:=Nat) (fun i=>[(4,.ptr 4 0),(6,.ptr 6 0),(7,.ptr 7 0),(11,.osl 1 31 0 n),(32,.sl 1 (z0L N)),(33,.int .i64 n),(34,.int .i64 i)]) (fun i=>[(4,C),(6,[DV.nils,DV.undef]),(7,[DV.sl 1 M]),(31,x54 L n i)]) (fun i=>i≤n) (fun i=>n - i) 0 (Nat.zero_le _) ?_ rfl ?_
 ·simp [z0y,lk]
 ·intro i hi
  try simp only at hi ⊢
  by_cases hlt:i<n
  ·have dl:decide ((i:Int)<(n:Int))=true:=zT9
   have ei:(i:Int).toNat=i:=Int.toNat_natCast i
   have e1:((i:Int)+1)=((i+1:Nat):Int):=by omega
   have hst:=z1a (r:=N) (show i<N.length by omega)
   have hsl:=hNb _ (z1J (show i<N.length by omega))
   have hfl:=x6H hLl hi
   have hfs:=x6I hLl hlt
   rw [hLg i hlt] at hfs
   refine zS dl ?_
   refine wTs ?_
   refine z0d ?_
   refine z0f ?_
   refine zS (zA ei (zA hNl (zA hst (zA hg0 (zA hk4 (zA hfl hfs)))))) ?_
   refine ⟨⟨rfl,hlt⟩,?_⟩
   refine zS e1 ?_
   exact ⟨i+1,by omega,by omega,by simp [z0y,lk],rfl⟩
  ·have dl:decide ((i:Int)<(n:Int))=false:=zF9
   obtain rfl:i=n:=by omega
   rw [x6G hLl]
   have hLr:=z2H L
   have hLn:=z0K L
   refine z0I 31 (cells:=z0L L) rfl (List.all_eq_true.2 hLr) ?_
   have hoc:∀x y,(DV.agg [.sl 1 x,.clo 213 y]).cells? = some [.sl 1 x,.clo 213 y]:=fun _ _=>rfl
   have m4:=z1p 31 (z0L L) (List.all_eq_true.1 hkr)
   have hfz:frz 31 (z0L L) (.osl 1 31 0 i)=.sl 1 (z0L L):=by
    simp [frz,hLn,hLl]
    rw [List.take_of_length_le (by omega)]
   have f4:z2e 7 [.sl 1 M] (z2e 4 C (frz 31 (z0L L) (.ptr 4 0)))=.el C 0:=by
    have:z2e 4 C (.ptr 4 0)=.el C 0:=by simp [z2e,hne]
    show z2e 7 _ (z2e 4 C (.ptr 4 0))=_
    rw [this];rfl
   have f7:z2e 7 [.sl 1 M] (z2e 4 C (frz 31 (z0L L) (.ptr 7 0)))=.el [.sl 1 M] 0:=rfl
   have f6:z2e 7 [.sl 1 M] (z2e 4 C (frz 31 (z0L L) (.ptr 6 0)))=.ptr 6 0:=rfl
   have fn1:∀z:Nat,z2e 7 [.sl 1 M] (z2e 4 C (.int .i64 z))=.int .i64 z:=fun _=>rfl
   have fs1:∀z,z2e 7 [.sl 1 M] (z2e 4 C (.sl 1 z))=.sl 1 z:=fun _=>rfl
   refine z1P 4 (cells:=C) (by simp [rmH,lkH,m4]) hkr ?_
   refine z1P 7 (cells:=[.sl 1 M]) rfl rfl ?_
   refine zS (zA dl (zA hfz (zA f4 (zA f7 (zA f6 (zA fn1 fs1)))))) ?_
   refine z0l rfl (fun h=>by cases h) (fun _=>z0q ?_)
   refine zS (zA hbd (zA @z3L hoc)) ?_
   refine ⟨List.all_eq_true.1 rfl,?_⟩
   exact z0i (z07 rfl rfl rfl (.imm (by simp [DV.rf,DV.rfL])))
theorem y0e (g:Grp):z0c prog 83 [.agg (gpC g)] (.bool (decide ((g.nm.length:Int)=0))):=by
 have hkc:=z5f g
 have hll:=z0K g.nm
 have hg0:∀x,(gpC g).getD 0 x=.sl 1 (z0L g.nm):=fun _=>rfl
 have h2:=z1y g
 have hrf:(DV.agg (gpC g)).rf=true:=by rw [DV.rf_agg];exact List.all_eq_true.2 (z35 g)
 refine z0b x0B (by simp [y08]) ?_
 unfold z68
 generalize gpC g=C at *
 refine zS (zA hkc (zA hg0 (zA h2 hll))) ?_
 exact z0i (z0h (.imm rfl))
theorem x9U:z0U prog 83:=⟨_,func83,by kernel_rfl,by kernel_rfl⟩
def emG (g:Grp):Bool:=decide ((g.nm.length:Int)=0)
theorem y3k (l:List Grp) (hl:l.length≤1000000):z0c prog 155 [.sl 2 (gps l),.fn 83] (.int .i64 (ixP emG l)):=by
 have hln:(gps l).length / 2=l.length:=by rw [z2C];omega
 have hlen:=z2C l
 refine z0b x4m (by simp [y4z]) ?_
 unfold z8K
 refine zS hln ?_
 refine z0v (σ:=Nat) (fun i=>[(0,.sl 2 (gps l)),(1,.fn 83),(7,.int .i64 l.length),(8,.int .i64 i)]) (fun _=>[]) (fun i=>i≤l.length∧∀j,j<i→emG (l.getD j default)=false) (fun i=>l.length - i) 0 ⟨Nat.zero_le _,by simp⟩ ?_ rfl ?_
 ·simp [z0y,lk]
 ·rintro i ⟨hi,hall⟩
  try simp only at hi hall ⊢
  by_cases hlt:i<l.length
  ·have dl:decide ((i:Int)<(l.length:Int))=true:=zT9
   have ei:(i:Int).toNat=i:=Int.toNat_natCast i
   have e1:((i:Int)+1)=((i+1:Nat):Int):=by omega
   have hw:((gps l).drop (i*2)).take 2=gpC (l.getD i default):=z1m (j:=0) z1y default hlt (Nat.le_refl _)
   have cf:=y0e (l.getD i default)
   have hb6:i*2+2≤(gps l).length:=by omega
   have hrf:(DV.agg (gpC (l.getD i default))).rf=true:=by rw [DV.rf_agg];exact List.all_eq_true.2 (z35 _)
   refine zS dl ?_
   refine wTs ?_
   refine z0d ?_
   refine z0f ?_
   refine z0d ?_
   refine z0g ?_
   refine zD ?_
   refine z0d ?_
   refine z3D [om 11 1,om 12 0,om 13 5,ot 14 (.iad 2 (.t 12) (.t 13)),ot 15 (.ldn 2 (.t 14))] [] (.x 16) (.t 11) [.t 15] rfl ?_
   refine zE (zA ei (zA hlen hw)) ?_
   refine ⟨⟨by omega,by omega⟩,by omega,83,[],.inr ⟨rfl,rfl⟩,x9U,z1G cf (by rw [List.append_nil,List.all_cons,hrf];rfl) ?_⟩
   cases hp:emG (l.getD i default)
   ·have hnx:∀j,j<i+1→emG (l.getD j default)=false:=fun j hj=>by
     rcases Nat.lt_or_ge j i with h|h
     ·exact hall j h
     ·obtain rfl:j=i:=by omega
      exact hp
    unfold emG at hp
    rw [hp]
    refine zR ?_
    refine wFs ?_
    refine zS e1 ?_
    exact ⟨i+1,⟨by omega,hnx⟩,by omega,by simp [z0y,lk]⟩
   ·have hx:=y4U default hlt hp hall
    rw [hx]
    unfold emG at hp
    rw [hp]
    refine zR ?_
    refine wT ?_
    refine zR ?_
    exact z0i (z0h (.imm rfl))
  ·have dl:decide ((i:Int)<(l.length:Int))=false:=zF9
   rw [y4V default fun j hj=>hall j (by omega)]
   refine zS dl ?_
   refine z0l rfl (fun h=>by cases h) (fun _=>z0q ?_)
   refine zR ?_
   exact z0i (z0h (.imm rfl))
theorem y3h (l:List Grp) (hl:l.length≤1000000):z0c prog 82 [.sl 2 (gps l),.fn 83] (.bool (l.any emG)):=by
 have ci:=y3k l hl
 have hx:=y2F emG l
 refine z0b x4i (by simp [y4v]) ?_
 unfold z8G
 refine zR ?_
 refine cP ci ?_
 refine zS hx ?_
 exact z0i (z0h (.imm rfl))
theorem z8U (a b:Grp) (r:Nat) (la lb:List Rat) {w:Nat} (ha:GV prog a r la) (hb:GV prog b r lb) (hwa:∀x∈la,BS x w) (hwb:∀x∈lb,BS x w) (hw:w≤140800) (hl:lb.length*la.length≤1000) (hl2:lb.length≤1000) :
  z0c prog 156 [.int .i64 r,.el (gpC a) 0,.el (gpC b) 0] (.sl 3 (nums (z7W la lb))):=by
 obtain ⟨fa,ca,va,ga,rfa,pa⟩:=ha
 obtain ⟨fb,cb,vb,gb,rfb,pb⟩:=hb
 have ga1:∀x,(gpC a).getD 1 x=a.cl:=fun _=>rfl
 have gb1:∀x,(gpC b).getD 1 x=b.cl:=fun _=>rfl
 have a2:=z1y a
 have b2:=z1y b
 have hla:=z1A la
 have hlb:=z1A lb
 have hla3:la.length*3 / 3=la.length:=by omega
 have hlb3:lb.length*3 / 3=lb.length:=by omega
 have hcc:∀x:Rat,(DV.agg (z0T x)).cells? = some (z0T x):=fun _=>rfl
 have hn3:=z1i
 have ht3:∀x:Rat,(z0T x).take 3=z0T x:=fun _=>rfl
 have hld:∀x:Rat,laid [DV.bool false,.nils,.nils] [(0,3,.agg (z0T x))]=some (z0T x):=fun _=>rfl
 have h33:3 / 3=1:=rfl
 refine z0b y6G (by simp [z87]) ?_
 unfold z5D
 generalize gpC a=A at *
 generalize gpC b=B at *
 refine z0d ?_
 refine z0g ?_
 refine zD ?_
 refine z0d ?_
 refine z0g ?_
 refine zD ?_
 refine z4a 5 3 200 rfl rfl ?_
 refine z0d ?_
 refine z3D [ot 11 (.fad 1 (.x 1)),ot 12 (.ld (.t 11)),om 13 0] [ow 6 14] (.t 14) (.t 12) [.t 13] rfl ?_
 refine zE (zA ga1 a2) ?_
 refine ⟨fa,ca,va,ga,z1G pa (by rw [List.all_append,rfa];rfl) ?_⟩
 refine zD ?_
 refine z0d ?_
 refine z0d ?_
 refine z3D [ot 15 (.fad 1 (.x 2)),ot 16 (.ld (.t 15)),om 17 0] [ox 19 (.len 3 (.x 18)),ox 20 (.mv (oi 0))] (.x 18) (.t 16) [.t 17] rfl ?_
 refine zE (zA gb1 b2) ?_
 refine ⟨fb,cb,vb,gb,z1G pb (by rw [List.all_append,rfb];rfl) ?_⟩
 refine zE (zA hlb hlb3) ?_
 refine z0f ?_
 refine z0v (σ:=Nat) (fun j=>[(0,.int .i64 r),(1,.el A 0),(2,.el B 0),(5,.osl 3 200 0 (j*la.length)),(6,.sl 3 (nums la)),(18,.sl 3 (nums lb)),(19,.int .i64 lb.length),(20,.int .i64 j)]) (fun j=>[(200,nums (z7W la (lb.take j)))]) (fun j=>j≤lb.length) (fun j=>lb.length - j) 0 (Nat.zero_le _) ?_ ?_ ?_
 ·simp [z0y,lk]
 ·rfl
 ·intro j hj
  try simp only at hj ⊢
  by_cases hlt:j<lb.length
  ·have dl:decide ((j:Int)<(lb.length:Int))=true:=zT9
   have ej:(j:Int).toNat=j:=Int.toNat_natCast j
   have ej1:((j:Int)+1)=((j+1:Nat):Int):=by omega
   have hwj:((nums lb).drop (j*3)).take 3=z0T (lb.getD j 0):=z1m (j:=0) z1i 0 hlt (Nat.le_refl _)
   obtain ⟨y,hy⟩:∃y,y=lb.getD j 0:=⟨_,rfl⟩
   have hyb:BS y w:=by rw [hy];exact hwb _ (by rw [zO1,zO4 hlt];exact List.getElem_mem hlt)
   rw [←hy] at hwj
   have hjs:z7W la (lb.take (j+1))=z7W la (lb.take j)++la.map (·*y):=by
    rw [z0z 0 hlt,←hy]
    unfold z7W
    rw [List.flatMap_append];simp
   have htl:(z7W la (lb.take j)).length=j*la.length:=by rw [z6g,List.length_take];congr 1;omega
   have hjl:j*la.length+la.length≤1000:=by
    have:=Nat.mul_le_mul_right la.length (show j+1≤lb.length by omega)
    rw [Nat.succ_mul] at this;omega
   generalize z7W la (lb.take j)=T at *
   refine zS dl ?_
   refine wTs ?_
   refine z0d ?_
   refine z0f ?_
   refine zS (zA ej (zA hlb (zA hwj (zA hcc (zA hn3 (zA ht3 (zA @cS (zA hla hla3)))))))) ?_
   refine z0v (σ:=Nat) (fun i=>[(0,.int .i64 r),(1,.el A 0),(2,.el B 0),(5,.osl 3 200 0 (j*la.length+i)),(6,.sl 3 (nums la)),(8,.ptr 8 0),(18,.sl 3 (nums lb)),(19,.int .i64 lb.length),(20,.int .i64 j),(24,.sl 3 (nums la)),(25,.int .i64 la.length),(26,.int .i64 i)]) (fun i=>[(8,z0T y),(200,nums (T++(la.take i).map (·*y)))]) (fun i=>i≤la.length) (fun i=>la.length - i) 0 (Nat.zero_le _) ?_ ?_ ?_
   ·simp [z0y,lk]
   ·simp
   ·intro i hi
    try simp only at hi ⊢
    by_cases hli:i<la.length
    ·have di:decide ((i:Int)<(la.length:Int))=true:=zT9
     have ei:(i:Int).toNat=i:=Int.toNat_natCast i
     have ei1:((i:Int)+1)=((i+1:Nat):Int):=by omega
     have hwi:((nums la).drop (i*3)).take 3=z0T (la.getD i 0):=z1m (j:=0) z1i 0 hli (Nat.le_refl _)
     obtain ⟨x,hx⟩:∃x,x=la.getD i 0:=⟨_,rfl⟩
     have hxb:BS x w:=by rw [hx];exact hwa _ (by rw [zO1,zO4 hli];exact List.getElem_mem hli)
     rw [←hx] at hwi
     have cm:=w4X hxb hyb hw hw
     have hsn:nums (T++(la.take i).map (·*y))++z0T (x*y)=nums (T++(la.take (i+1)).map (·*y)):=by
      rw [z4s,z0z 0 hli,←hx,List.map_append,List.append_assoc];rfl
     have hnl:(nums (T++(la.take i).map (·*y))).length=(j*la.length+i)*3:=by
      rw [z1A,List.length_append,htl,List.length_map,List.length_take,show min i la.length=i by omega]
     have hpg:=z0k 200 (z1q (T++(la.take (i+1)).map (·*y)))
     have hp8:=z0k 200 (z1z y)
     have hz1:=z3N (x*y)
     have hz2:=z1z (x*y)
     refine zS di ?_
     refine wTs ?_
     refine z0d ?_
     refine z0f ?_
     refine zS (zA ei (zA hla (zA hwi (zA hcc (zA hn3 (zA ht3 @cS)))))) ?_
     refine cP cm ?_
     refine zS (zA hcc (zA hn3 (zA ht3 (zA hld (zA hnl h33))))) ?_
     refine ⟨⟨by omega,by omega,fun h=>h,hz1⟩,?_⟩
     rw [hsn,hpg]
     refine z25 10 ?_
     have p10:=z0k 10 (z1q (T++(la.take (i+1)).map (·*y)))
     have p11:=z0k 10 (z1z y)
     repeat (first|refine z0d ?_|refine z0g ?_|refine z0p ?_|refine z0f ?_|refine And.intro (by omega) ?_|simp (maxSteps:=1000000) (disch:=omega) only [cA,cB,cN,FnD.nb,lk,lkH,Dst.onT,Dst.onX,Dst.slot,z0W,z0N,z0J,z0X,z0u,z0V,unE,cnt,z0j,z0t,z0m,z0o,opE,rmH,z02,z0n,Nat.reduceEqDiff,Nat.reduceLT,Nat.reduceAdd,Nat.reduceMul,Nat.reduceMod,↓reduceIte,reduceCtorEq,Nat.reduceLeDiff,ei1,rmP,hp8,p10,p11])
     exact ⟨i+1,by omega,by omega,by simp [z0y,lk,purge,DV.has,Nat.add_assoc],rfl⟩
    ·have di:decide ((i:Int)<(la.length:Int))=false:=zF9
     obtain rfl:i=la.length:=by omega
     have htk:la.take la.length=la:=List.take_length
     rw [htk,←hjs]
     have p8:=z0k 8 (z1q (z7W la (lb.take (j+1))))
     have hjm:(j+1)*la.length=j*la.length+la.length:=Nat.succ_mul _ _
     refine zS di ?_
     refine z0l rfl (fun h=>by cases h) (fun _=>z0q ?_)
     refine zD ?_
     refine z25 8 ?_
     repeat (first|refine z0d ?_|refine z0g ?_|refine z0p ?_|refine z0f ?_|refine And.intro (by omega) ?_|simp (maxSteps:=1000000) (disch:=omega) only [cA,cB,cN,FnD.nb,lk,lkH,Dst.onT,Dst.onX,Dst.slot,z0W,z0N,z0J,z0X,z0u,z0V,unE,cnt,z0j,z0t,z0m,z0o,opE,rmH,z02,z0n,Nat.reduceEqDiff,Nat.reduceLT,Nat.reduceAdd,Nat.reduceMul,Nat.reduceMod,↓reduceIte,reduceCtorEq,Nat.reduceLeDiff,ej1,rmP,p8])
     exact ⟨j+1,by omega,by omega,by simp [z0y,lk,purge,DV.has,hjm],rfl⟩
  ·have dl:decide ((j:Int)<(lb.length:Int))=false:=zF9
   obtain rfl:j=lb.length:=by omega
   have htk:lb.take lb.length=lb:=List.take_length
   have htl:=z1A (z7W la lb)
   rw [z6g] at htl
   rw [htk]
   have hnr:=z1q (z7W la lb)
   have hfz:frz 200 (nums (z7W la lb)) (.osl 3 200 0 (lb.length*la.length))=.sl 3 (nums (z7W la lb)):=by
    simp [frz,htl]
    rw [List.take_of_length_le (by omega)]
   refine z0I 200 (cells:=nums (z7W la lb)) rfl (List.all_eq_true.2 hnr) ?_
   refine zS (zA dl hfz) ?_
   refine z0l rfl (fun h=>by cases h) (fun _=>z0q ?_)
   refine zR ?_
   exact z0i (z0h (.imm rfl))
theorem x6p:z0U prog 156:=⟨_,func156,by kernel_rfl,by kernel_rfl⟩
def w2J (a b:Grp):Grp:=⟨z92 a.nm b.nm,.clo 156 [.el (gpC a) 0,.el (gpC b) 0],rfl,rfl⟩
theorem w5f {a b:Grp} {r:Nat} {la lb:List Rat} {w:Nat} (ha:GV prog a r la) (hb:GV prog b r lb) (hwa:∀x∈la,BS x w) (hwb:∀x∈lb,BS x w) (hw:w≤140800) (hl:lb.length*la.length≤1000) (hl2:lb.length≤1000) :
  GV prog (w2J a b) r (z7W la lb):=⟨_,_,.inl rfl,x6p,rfl,z8U a b r la lb ha hb hwa hwb hw hl hl2⟩
theorem y0f (a b:Grp) (hl:b.nm.length*a.nm.length≤1000) (hl2:b.nm.length≤1000) (hsa:∀s∈a.nm,s.length≤1000000000) (hsb:∀s∈b.nm,s.length≤1000000000):z0c prog 84 [.agg (gpC a),.agg (gpC b)] (.agg (gpC (w2J a b))):=by
 have ga0:∀x,(gpC a).getD 0 x=.sl 1 (z0L a.nm):=fun _=>rfl
 have gb0:∀x,(gpC b).getD 0 x=.sl 1 (z0L b.nm):=fun _=>rfl
 have a2:=z1y a
 have b2:=z1y b
 have hca:=z5f a
 have hcb:=z5f b
 have hrA:=List.all_eq_true.2 (z35 a)
 have hrB:=List.all_eq_true.2 (z35 b)
 have hla:=z0K a.nm
 have hlb:=z0K b.nm
 have hoc:∀x y,(DV.agg [.sl 1 x,.clo 156 y]).cells? = some [.sl 1 x,.clo 156 y]:=fun _ _=>rfl
 have hbd:∀x y,laid [DV.nils,.undef] [(0,1,.sl 1 x),(1,1,.clo 156 y)]=some [.sl 1 x,.clo 156 y]:=fun _ _=>rfl
 have hld:∀x,laid [DV.str []] [(0,1,.str x)]=some [.str x]:=fun _=>rfl
 refine z0b x0C (by simp [y09]) ?_
 unfold z69 w2J
 have hgp:gpC ⟨z92 a.nm b.nm,.clo 156 [.el (gpC a) 0,.el (gpC b) 0],rfl,rfl⟩=[.sl 1 (z0L (z92 a.nm b.nm)),.clo 156 [.el (gpC a) 0,.el (gpC b) 0]]:=rfl
 rw [hgp]
 clear hgp
 generalize a.nm=na at *
 generalize b.nm=nb at *
 generalize gpC a=A at *
 generalize gpC b=B at *
 have hneA:A≠[]:=fun e=>by rw [e] at a2;cases a2
 have hneB:B≠[]:=fun e=>by rw [e] at b2;cases b2
 refine z0d ?_
 refine z0g ?_
 refine zE (zA hca hcb) ?_
 have mB:=z1p 2 A (List.all_eq_true.1 hrB)
 refine z1P 2 (cells:=A) rfl hrA ?_
 refine z1P 3 (cells:=B) (by simp [rmH,lkH,mB]) hrB ?_
 have f2:z2e 3 B (z2e 2 A (.ptr 2 0))=.el A 0:=by
  have:z2e 2 A (.ptr 2 0)=.el A 0:=by simp [z2e,hneA]
  rw [this];rfl
 have f3:z2e 3 B (z2e 2 A (.ptr 3 0))=.el B 0:=by
  have:z2e 2 A (.ptr 3 0)=.ptr 3 0:=rfl
  rw [this];simp [z2e,hneB]
 have f4:z2e 3 B (z2e 2 A (.ptr 4 0))=.ptr 4 0:=rfl
 have fu:frz 3 B (frz 2 A .undef)=.undef:=rfl
 refine z0d ?_
 refine z0g ?_
 refine zE (zA f2 (zA f3 f4)) ?_
 refine z4a 5 1 200 rfl rfl ?_
 refine zS (zA gb0 (zA b2 hlb)) ?_
 refine z0v (σ:=Nat) (fun j=>[(2,.el A 0),(3,.el B 0),(4,.ptr 4 0),(5,.osl 1 200 0 (j*na.length)),(11,.sl 1 (z0L nb)),(12,.int .i64 nb.length),(13,.int .i64 j)]) (fun j=>[(4,[.nils,.undef]),(200,z0L (z92 na (nb.take j)))]) (fun j=>j≤nb.length) (fun j=>nb.length - j) 0 (Nat.zero_le _) ?_ ?_ ?_
 ·simp [z0y,lk]
 ·rw [fu];rfl
 ·intro j hj
  try simp only at hj ⊢
  by_cases hlt:j<nb.length
  ·have dl:decide ((j:Int)<(nb.length:Int))=true:=zT9
   have ej:(j:Int).toNat=j:=Int.toNat_natCast j
   have ej1:((j:Int)+1)=((j+1:Nat):Int):=by omega
   have hwj:=z1a (r:=nb) hlt
   obtain ⟨y,hy⟩:∃y,y=nb.getD j []:=⟨_,rfl⟩
   have hyb:y.length≤1000000000:=by rw [hy];exact hsb _ (z1J hlt)
   rw [←hy] at hwj
   have hjs:z92 na (nb.take (j+1))=z92 na (nb.take j)++na.map fun r=>r++58::y:=by
    rw [z0z [] hlt,←hy]
    unfold z92
    rw [List.flatMap_append];simp
   have htl:(z92 na (nb.take j)).length=j*na.length:=by rw [z4R,List.length_take];congr 1;omega
   have hjl:j*na.length+na.length≤1000:=by
    have:=Nat.mul_le_mul_right na.length (show j+1≤nb.length by omega)
    rw [Nat.succ_mul] at this;omega
   generalize z92 na (nb.take j)=T at *
   refine zS dl ?_
   refine wTs ?_
   refine z0d ?_
   refine z0f ?_
   refine zS (zA ej (zA hlb (zA hwj (zA ga0 (zA a2 hla))))) ?_
   refine z0v (σ:=Nat) (fun i=>[(2,.el A 0),(3,.el B 0),(4,.ptr 4 0),(5,.osl 1 200 0 (j*na.length+i)),(7,.str y),(11,.sl 1 (z0L nb)),(12,.int .i64 nb.length),(13,.int .i64 j),(18,.sl 1 (z0L na)),(19,.int .i64 na.length),(20,.int .i64 i)]) (fun i=>[(4,[.nils,.undef]),(200,z0L (T++(na.take i).map fun r=>r++58::y))]) (fun i=>i≤na.length) (fun i=>na.length - i) 0 (Nat.zero_le _) ?_ ?_ ?_
   ·simp [z0y,lk]
   ·simp
   ·intro i hi
    try simp only at hi ⊢
    by_cases hli:i<na.length
    ·have di:decide ((i:Int)<(na.length:Int))=true:=zT9
     have ei:(i:Int).toNat=i:=Int.toNat_natCast i
     have ei1:((i:Int)+1)=((i+1:Nat):Int):=by omega
     have hwi:=z1a (r:=na) hli
     obtain ⟨x,hx⟩:∃x,x=na.getD i []:=⟨_,rfl⟩
     have hxb:x.length≤1000000000:=by rw [hx];exact hsa _ (z1J hli)
     rw [←hx] at hwi
     have hx1:(x++[58]).length≤1000000001:=by rw [List.length_append];simp;omega
     have hsn:z0L (T++(na.take i).map fun r=>r++58::y)++[.str (x++[58]++y)]=z0L (T++(na.take (i+1)).map fun r=>r++58::y):=by
      rw [z0z [] hli,←hx]
      unfold z0L
      simp
     have hnl:(z0L (T++(na.take i).map fun r=>r++58::y)).length=j*na.length+i:=by
      rw [z0K,List.length_append,htl,List.length_map,List.length_take,show min i na.length=i by omega]
     have hpg:=z0k 200 (z2H (T++(na.take (i+1)).map fun r=>r++58::y))
     refine zS di ?_
     refine wTs ?_
     refine z0d ?_
     refine z0f ?_
     refine zS (zA ei (zA hla (zA hwi (zA hld hnl)))) ?_
     refine ⟨by simp [DV.rf],⟨by omega,by omega,fun h=>h,by simp [DV.one]⟩,?_⟩
     rw [hsn,hpg]
     refine zS ei1 ?_
     exact ⟨i+1,by omega,by omega,by simp [z0y,lk,purge,DV.has,Nat.add_assoc],rfl⟩
    ·have di:decide ((i:Int)<(na.length:Int))=false:=zF9
     obtain rfl:i=na.length:=by omega
     have htk:na.take na.length=na:=List.take_length
     rw [htk,←hjs]
     have hjm:(j+1)*na.length=j*na.length+na.length:=Nat.succ_mul _ _
     refine zS di ?_
     refine z0l rfl (fun h=>by cases h) (fun _=>z0q ?_)
     refine zS ej1 ?_
     exact ⟨j+1,by omega,by omega,by simp [z0y,lk,hjm],rfl⟩
  ·have dl:decide ((j:Int)<(nb.length:Int))=false:=zF9
   obtain rfl:j=nb.length:=by omega
   have htk:nb.take nb.length=nb:=List.take_length
   have htl:=z0K (z92 na nb)
   rw [z4R] at htl
   rw [htk]
   have hnr:=z2H (z92 na nb)
   have hfz:frz 200 (z0L (z92 na nb)) (.osl 1 200 0 (nb.length*na.length))=.sl 1 (z0L (z92 na nb)):=by
    simp [frz,htl]
    rw [List.take_of_length_le (by omega)]
   refine z0I 200 (cells:=z0L (z92 na nb)) rfl (List.all_eq_true.2 hnr) ?_
   have f44:∀cs,frz 200 cs (.ptr 4 0)=.ptr 4 0:=fun _=>rfl
   refine zS (zA dl (zA hfz f44)) ?_
   refine z0l rfl (fun h=>by cases h) (fun _=>z0q ?_)
   refine zS (zA hbd (zA @z3L hoc)) ?_
   refine ⟨List.all_eq_true.1 rfl,?_⟩
   exact z0i (z07 rfl rfl rfl (.imm (by simp [DV.rf,DV.rfL])))
abbrev DKt:=DK prog 217 211
theorem x9Y {m:Mdl} {cod:Nat} (h:1≤cod∧cod≤4) (t:List Fac) (f:Fac):∃c:Nat,x6r m cod t f=c∧1≤c∧c≤4:=by
 unfold x6r
 split
 ·exact ⟨cod,rfl,h⟩
 ·exact ⟨4,rfl,by decide,by decide⟩
def y4l (S:List Kx) (m:Mdl) (cod:Int) (t:List Fac) (f:Fac):Grp:=if (z4T S f.nm).kd=1 then w2H (z4T S f.nm) f.pw.toNat else w2F (z4T S f.nm) (x6r m cod t f).toNat
theorem z1j {n:Nat} {S:List Kx} {m:Mdl} {cod:Nat} (h:DKt n S m cod) {t:List Fac} {f:Fac} (ht:t∈m.tm) (hf:f∈t) :
  (y4l S m cod t f).nm=z99 S m cod t f∧(∀r,w4P n S m r→GV prog (y4l S m cod t f) r (y2e S m cod t f r))∧z0c prog 81 [.el (z5c n S m cod) 0,.sl 2 (fcs t),.agg (fcC f)] (.agg (gpC (y4l S m cod t f))):=by
 have hvs:=h.vs _ (y1T ht hf)
 have hkm:=z8P hvs
 have ccol:=z16 n S m cod f.nm h.ok h.tv hvs
 obtain ⟨hkd,hcl,hfit,h32,hk1⟩:=z91 h.tv hkm
 have hpw:=h.pw t ht f hf
 have hnl:=h.nl _ hkm
 obtain ⟨p,hp⟩:∃p:Nat,f.pw=p:=⟨f.pw.toNat,by omega⟩
 have hB6:(z5c n S m cod).length=6:=rfl
 have hBr:(z5c n S m cod).all DV.rf=true:=rfl
 have hB5:(z5c n S m cod).getD 5 .undef=.int .i64 cod:=rfl
 have hck:∀k,(DV.agg (kxC k)).cells? = some (kxC k):=fun _=>rfl
 have hk4:=z00
 have hkt:∀k,(kxC k).take 4=kxC k:=fun _=>rfl
 have hkg:∀k x,(kxC k).getD 1 x=.int .i64 k.kd:=fun _ _=>rfl
 have hcf:∀f,(DV.agg (fcC f)).cells? = some (fcC f):=fun _=>rfl
 have hf2:=z2i
 have hft:∀f,(fcC f).take 2=fcC f:=fun _=>rfl
 have hfg:∀f x,(fcC f).getD 0 x=.str f.nm:=fun _ _=>rfl
 have hfg1:∀f x,(fcC f).getD 1 x=.int .i64 f.pw:=fun _ _=>rfl
 have hs4:∀(a b c d:DV) (C:List DV),List.take 0 [a,b,c,d]++C++List.drop 4 [a,b,c,d]=C:=fun _ _ _ _ _=>by simp
 have hs2:∀(a b:DV) (C:List DV),List.take 0 [a,b]++C++List.drop 2 [a,b]=C:=fun _ _ _=>by simp
 have hga:=z5f
 have hg2:=z1y
 have hgt:∀g,(gpC g).take 2=gpC g:=fun _=>rfl
 have hgr:∀g,(DV.agg (gpC g)).rf=true:=fun g=>by rw [DV.rf_agg];exact List.all_eq_true.2 (z35 g)
 generalize hK:z4T S f.nm=k at *
 by_cases h1:k.kd=1
 ·have hG:y4l S m cod t f=w2H k p:=by unfold y4l;rw [hK,if_pos h1,hp,Int.toNat_natCast]
  rw [hG]
  refine ⟨?_,fun r hr=>?_,?_⟩
  ·unfold z99 w2H
   rw [hK,if_pos h1,hp]
   by_cases e:p=1
   ·rw [if_pos e,if_pos (by omega)]
   ·rw [if_neg e,if_neg (by omega)];rfl
  ·unfold y2e
   rw [hK,if_pos h1,hp]
   obtain ⟨q1,q2⟩:=h.nu k hkm (k.ce.getD r default) (z6j (by rw [hcl];exact hr.1))
   exact w4J k p r (by rw [hcl];exact hr.1) q1 q2 (by omega) (by decide)
  ·have cn:=z8S (z5c n S m cod) k p (by omega) hnl.1
   have d1:decide (k.kd=1)=true:=decide_eq_true h1
   rw [←hp] at cn
   refine z0b z9q (by simp [z5e]) ?_
   unfold z3E
   generalize z5c n S m cod=B at *
   refine zS (zA hcf (zA hf2 (zA hfg @cS))) ?_
   refine cP ccol ?_
   refine zS (zA hck (zA hk4 (zA hs4 (zA hkg d1)))) ?_
   refine wT ?_
   refine zS (zA hck (zA hk4 (zA hkt (zA hcf (zA hf2 (zA hfg1 @List.drop_zero.{0})))))) ?_
   refine cP cn ?_
   refine zS (zA hga (zA hg2 (zA hgt hs2))) ?_
   exact z0i (z07 rfl rfl (hg2 _) (.imm (hgr _)))
 ·obtain ⟨c,hc,hc4⟩:=x9Y (m:=m) h.c4 t f
  have hG:y4l S m cod t f=w2F k c:=by unfold y4l;rw [hK,if_neg h1,hc,Int.toNat_natCast]
  rw [hG]
  refine ⟨?_,fun r hr=>?_,?_⟩
  ·unfold z99 w2F
   rw [hK,if_neg h1,hc]
  ·unfold y2e
   rw [hK,if_neg h1,hc,Int.toNat_natCast]
   have hrl:r<k.ce.length:=by rw [hcl];exact hr.1
   have hmi:=hr.2 _ (y1T ht hf)
   rw [hK] at hmi
   have:=w3q (hfit _ (z6j hrl)) hmi h1
   exact w23 k r c _ hrl (by omega) (by omega)
  ·have ccd:=z4i (z5c n S m cod) t f _ _ hBr hB6 hB5 rfl (by have:=(h.tl.2 t ht).2;omega) (h.pr t ht f hf)
   have hcc:(if x1i m (t.filter fun x=>!decide (x=f))=true then DV.int .i64 cod else .int .i64 4)=.int .i64 c:=by
    rw [←hc]
    unfold x6r
    split<;>rfl
   rw [hcc] at ccd
   have hl3:=h.lv k hkm h1
   have ccat:=z6u (z5c n S m cod) k c hc4 (by omega) hnl.2 hnl.1 (h.mx k hkm h1 c hc4.1 hc4.2)
   have d1:decide (k.kd=1)=false:=decide_eq_false h1
   refine z0b z9q (by simp [z5e]) ?_
   unfold z3E
   generalize z5c n S m cod=B at *
   refine zS (zA hcf (zA hf2 (zA hfg @cS))) ?_
   refine cP ccol ?_
   refine zS (zA hck (zA hk4 (zA hs4 (zA hkg d1)))) ?_
   refine wFs ?_
   refine zS (zA hck (zA hk4 (zA hkt (zA hcf (zA hf2 (zA hft @List.drop_zero.{0})))))) ?_
   refine cP ccd ?_
   refine zR ?_
   refine cP ccat ?_
   refine zS (zA hga (zA hg2 (zA hgt hs2))) ?_
   exact z0i (z07 rfl rfl (hg2 _) (.imm (hgr _)))
end Go.Proofs.YtlcagndeidjobaaGreatDoor
namespace Go.Proofs.YtlcagndeidjobaaGreatDoor
open Tryz
open Go Go.Dat Go.Proofs Go.RowKit Go.Shelf Nat32
def atL (S:List Kx) (names:List Bs):List Nat:=names.map fun s=>(ixS (z1t S) s).toNat
theorem y6a (S:List Kx) {names:List Bs} {i:Nat} (h:i<names.length):(atL S names).getD i 0=(ixS (z1t S) (names.getD i [])).toNat:=by
 unfold atL
 rw [zO1,List.getElem?_map,zO4 h,zO1,zO4 h];rfl
theorem x6Q {R:List Nat} {i:Nat} (h:i<R.length) (d:DV):(ints R).getD i d=.int .i64 (R.getD i 0:Nat):=by
 unfold ints
 rw [zO1,List.getElem?_map,zO4 h,zO1,zO4 h];rfl
theorem z94 (n:Nat) (S:List Kx) (names:List Bs) (h:okT S) (hv:x8l n S=true) (hnl:names.length≤1000000) (hn:∀s∈names,0≤ixS (z1t S) s) :
  z0c prog 40 [.agg [.int .i64 n,.sl 4 (kxs S)],.sl 1 (z0L names)] (.tup [.sl 1 (ints (z1c (z22 S names) n)),.int .i64 0]):=by
 have hll:=z0K names
 have hlen:=z1X S
 have hca:(DV.agg [.int .i64 n,.sl 4 (kxs S)]).cells? = some [.int .i64 n,.sl 4 (kxs S)]:=rfl
 have cv:=z4D n S h
 rw [hv] at cv
 obtain ⟨_,hn0,hn1,hS32,hce⟩:=x8m hv
 have hl1:∀x,laid [DV.int .i64 0] [(0,1,.int .i64 x)]=some [.int .i64 x]:=fun _=>rfl
 refine z0b y6Q (by simp [z9l]) ?_
 unfold z5N
 refine zS (zA hca @cS) ?_
 refine cP cv ?_
 refine zR ?_
 refine wFs ?_
 refine z0d ?_
 refine z0g ?_
 refine zD ?_
 refine z4a 6 1 200 rfl (by simp [lkH]) ?_
 refine zR ?_
 refine z0v (σ:=Nat) (fun i=>[(1,.sl 1 (z0L names)),(2,.ptr 2 0),(6,.osl 1 200 0 i),(7,.int .i64 i)]) (fun i=>[(2,[.int .i64 n,.sl 4 (kxs S)]),(200,ints ((atL S names).take i))]) (fun i=>i≤names.length) (fun i=>names.length - i) 0 (Nat.zero_le _) ?_ rfl ?_
 ·simp [z0y,lk]
 ·intro i hi
  try simp only at hi ⊢
  have hAl:(atL S names).length=names.length:=by unfold atL;rw [List.length_map]
  by_cases hlt:i<names.length
  ·have dl:decide ((i:Int)<(names.length:Int))=true:=zT9
   have ei:(i:Int).toNat=i:=Int.toNat_natCast i
   have e1:((i:Int)+1)=((i+1:Nat):Int):=by omega
   have hg:=z1a hlt
   have hga:=y6a S hlt
   have hs0:=hn _ (z1J hlt)
   have cf:=z3Z n S (names.getD i []) h hv
   obtain ⟨j,hj⟩:∃j:Nat,ixS (z1t S) (names.getD i [])=j:=⟨(ixS (z1t S) (names.getD i [])).toNat,by omega⟩
   rw [hj,Int.toNat_natCast] at hga
   rw [hj] at cf
   generalize names.getD i []=s at *
   have hsn:ints ((atL S names).take i)++[.int .i64 j]=ints ((atL S names).take (i+1)):=by
    rw [z0z 0 (show i<(atL S names).length by omega),hga]
    unfold ints;rw [List.map_append];rfl
   have hil:(ints ((atL S names).take i)).length=i:=by rw [z28,List.length_take];omega
   have hil1:(ints ((atL S names).take (i+1))).length=i+1:=by rw [z28,List.length_take];omega
   have hlast:(ints ((atL S names).take (i+1))).getD i .undef=.int .i64 j:=by
    rw [←hsn,zO1,List.getElem?_append_right (by omega),hil,Nat.sub_self];rfl
   have hpg:=z0k 200 (z5g ((atL S names).take (i+1)))
   have dj:decide ((j:Int)<0)=false:=zF9
   have p2:∀z,purge 200 (.ptr 2 z)=.ptr 2 z:=fun z=>by simp [purge,DV.has]
   refine zS (zA dl hll) ?_
   refine wTs ?_
   refine z0d ?_
   refine z0f ?_
   refine z0d ?_
   refine z0p ?_
   refine zE (zA ei (zA hll (zA hg @cS))) ?_
   repeat refine ⟨by omega,?_⟩
   refine cP cf ?_
   refine zE (zA hl1 hil) ?_
   repeat refine ⟨by omega,?_⟩
   refine ⟨List.all_eq_true.1 rfl,⟨by omega,by omega,fun h=>h,List.all_eq_true.1 rfl⟩,?_⟩
   rw [hsn,hpg]
   refine zS (zA ei (zA p2 (zA hil1 (zA hlast (zA dj @cS))))) ?_
   refine wFs ?_
   refine zS e1 ?_
   exact ⟨i+1,by omega,by omega,by simp [z0y,lk],rfl⟩
  ·have dl:decide ((i:Int)<(names.length:Int))=false:=zF9
   obtain rfl:i=names.length:=by omega
   rw [List.take_of_length_le (show (atL S names).length≤names.length by omega)]
   have hAr:=z5g (atL S names)
   have hAi:=z28 (atL S names)
   have hAg:=fun k (hk:k<names.length)=>x6Q (R:=atL S names) (show k<(atL S names).length by omega) .undef
   have hAU:=fun k (hk:k<names.length)=>x5Q S (a:=names) hk
   have hUl:=x5R S names
   refine z0I 200 (cells:=ints (atL S names)) rfl (List.all_eq_true.2 hAr) ?_
   have hfz:frz 200 (ints (atL S names)) (.osl 1 200 0 names.length)=.sl 1 (ints (atL S names)):=by
    simp [frz,hAi,hAl]
    rw [List.take_of_length_le (by omega)]
   have f2:frz 200 (ints (atL S names)) (.ptr 2 0)=.ptr 2 0:=by simp [frz,purge,DV.has]
   refine zS (zA dl (zA hll (zA hfz (zA f2 @cS)))) ?_
   refine z0l rfl (fun h=>by cases h) (fun _=>z0q ?_)
   refine z0d ?_
   refine z0g ?_
   refine zD ?_
   refine z4a 8 1 201 rfl (by simp [lkH]) ?_
   refine zR ?_
   generalize hAA:atL S names=A at *
   generalize hUU:z22 S names=U at *
   refine z0v (σ:=Nat) (fun r=>[(2,.ptr 2 0),(6,.sl 1 (ints A)),(8,.osl 1 201 0 (z1c U r).length),(9,.int .i64 r)]) (fun r=>[(2,[.int .i64 n,.sl 4 (kxs S)]),(201,ints (z1c U r))]) (fun r=>r≤n) (fun r=>n - r) 0 (Nat.zero_le _) ?_ rfl ?_
   ·simp [z0y,lk,z1c]
   ·intro r hr
    try simp only at hr ⊢
    have hRl:=z28 (z1c U r)
    have hRb:=z8d U r
    by_cases hlr:r<n
    ·have dr:decide ((r:Int)<(n:Int))=true:=zT9
     have er:(r:Int).toNat=r:=Int.toNat_natCast r
     have er1:((r:Int)+1)=((r+1:Nat):Int):=by omega
     refine zS (zA dr @cS) ?_
     refine wTs ?_
     refine z0d ?_
     refine z0f ?_
     refine zR ?_
     refine z0v (σ:=Nat) (fun i=>[(2,.ptr 2 0),(6,.sl 1 (ints A)),(8,.osl 1 201 0 (z1c U r).length),(9,.int .i64 r),(10,.bool (!(U.take i).any (x03 r))),(11,.int .i64 i)]) (fun i=>[(2,[.int .i64 n,.sl 4 (kxs S)]),(201,ints (z1c U r))]) (fun i=>i≤names.length) (fun i=>names.length - i) 0 (Nat.zero_le _) ?_ rfl ?_
     ·simp [z0y,lk]
     ·intro i hi
      try simp only at hi ⊢
      by_cases hli:i<names.length
      ·have di:decide ((i:Int)<(names.length:Int))=true:=zT9
       have ei:(i:Int).toNat=i:=Int.toNat_natCast i
       have ei1:((i:Int)+1)=((i+1:Nat):Int):=by omega
       have hUi:i<U.length:=by omega
       have htk:=x2g (x03 r) hUi
       cases hw:(U.take i).any (x03 r)
       ·have hag:=hAg i hli
        have hbd:=z9r (names.getD i []) (z1t S)
        rw [z1b] at hbd
        have hs0:=hn _ (z1J hli)
        have hjl:A.getD i 0<S.length:=by rw [←hAA,y6a S hli];omega
        have hku:U.getD i default=S.getD (A.getD i 0) default:=by rw [hAU i hli,←hAA,y6a S hli]
        have hkm:S.getD (A.getD i 0) default∈S:=z6j hjl
        have hkc:=hce _ hkm
        have hg3:(kxs S).getD (A.getD i 0*4+3) .undef=.sl 5 (cxs (S.getD (A.getD i 0) default).ce):=y4o (l:=S) (j:=3) z00 default hjl (by decide) .undef
        rw [hku] at htk
        generalize S.getD (A.getD i 0) default=k at *
        generalize A.getD i 0=j at *
        have ej:(j:Int).toNat=j:=Int.toNat_natCast j
        have hcx:=z2A k.ce
        have hmg:(cxs k.ce).getD (r*5) .undef=.bool (k.ce.getD r default).mi:=y4o (l:=k.ce) (j:=0) z1V default (by omega) (by decide) .undef
        have hmb:x03 r k=(k.ce.getD r default).mi:=rfl
        rw [hmb,hw,Bool.false_or] at htk
        generalize (k.ce.getD r default).mi=b at *
        have dtt:(!false)=true:=rfl
        refine zS (zA hAi (zA hAl (zA di dtt))) ?_
        refine wTs ?_
        refine z0d ?_
        refine z0f ?_
        refine z0p ?_
        simp (maxSteps:=1000000) (disch:=omega) only [cA,cB,cN,FnD.nb,lk,lkH,Dst.onT,Dst.onX,Dst.slot,z0W,z0N,z0J,z0X,z0u,z0V,unE,cnt,z0j,z0t,z0m,z0o,opE,rmH,z02,z0n,Nat.reduceEqDiff,Nat.reduceLT,Nat.reduceAdd,Nat.reduceMul,Nat.reduceMod,↓reduceIte,reduceCtorEq,Nat.reduceLeDiff,ei,ej,er,hAi,hAl,hag,hlen,hg3,hcx,hmg,cS]
        repeat refine ⟨by omega,?_⟩
        refine zS ei1 ?_
        exact ⟨i+1,by omega,by omega,by simp [z0y,lk,htk]⟩
       ·have dtt:(!true)=false:=rfl
        rw [hw,Bool.true_or] at htk
        refine zS (zA hAi (zA hAl (zA di dtt))) ?_
        refine wTs ?_
        refine z0d ?_
        refine z0f ?_
        refine z0p ?_
        refine zD ?_
        repeat refine ⟨by omega,?_⟩
        refine zS ei1 ?_
        exact ⟨i+1,by omega,by omega,by simp [z0y,lk,htk]⟩
      ·have di:decide ((i:Int)<(names.length:Int))=false:=zF9
       obtain rfl:i=names.length:=by omega
       have hut:U.take names.length=U:=List.take_of_length_le (by omega)
       rw [hut]
       cases hm:U.any (x03 r)
       ·have hy:=y5D hm
        have hsn:ints (z1c U r)++[.int .i64 r]=ints (z1c U (r+1)):=by rw [hy];unfold ints;rw [List.map_append];rfl
        have hpg:=z0k 201 (z5g (z1c U (r+1)))
        have hyl:(z1c U (r+1)).length=(z1c U r).length+1:=by rw [hy,List.length_append];rfl
        have p2:∀z,purge 201 (.ptr 2 z)=.ptr 2 z:=fun z=>by simp [purge,DV.has]
        refine zS (zA hAi (zA hAl di)) ?_
        refine z0l rfl (fun h=>by cases h) (fun _=>z0q ?_)
        refine zR ?_
        refine wT ?_
        refine zS (zA hl1 hRl) ?_
        refine ⟨List.all_eq_true.1 rfl,⟨by omega,by omega,fun h=>h,List.all_eq_true.1 rfl⟩,?_⟩
        rw [hsn,hpg]
        refine zS (zA er1 p2) ?_
        exact ⟨r+1,by omega,by omega,by simp [z0y,lk,hyl],rfl⟩
       ·have hy:=y9Q hm
        refine zS (zA hAi (zA hAl di)) ?_
        refine z0l rfl (fun h=>by cases h) (fun _=>z0q ?_)
        refine zR ?_
        refine wFs ?_
        refine zS er1 ?_
        exact ⟨r+1,by omega,by omega,by simp [z0y,lk,hy],by rw [hy]⟩
    ·have dr:decide ((r:Int)<(n:Int))=false:=zF9
     obtain rfl:r=n:=by omega
     have hRr:=z5g (z1c U r)
     refine z0I 201 (cells:=ints (z1c U r)) rfl (List.all_eq_true.2 hRr) ?_
     have hfz2:frz 201 (ints (z1c U r)) (.osl 1 201 0 (z1c U r).length)=.sl 1 (ints (z1c U r)):=by
      simp [frz,hRl]
      rw [List.take_of_length_le (by omega)]
     have f3:frz 201 (ints (z1c U r)) (.ptr 2 0)=.ptr 2 0:=by simp [frz,purge,DV.has]
     refine zS (zA dr (zA hfz2 (zA f3 @cS))) ?_
     refine z0l rfl (fun h=>by cases h) (fun _=>z0q ?_)
     refine zR ?_
     exact z0i (z2f (.imm rfl) (.imm rfl))
end Go.Proofs.YtlcagndeidjobaaGreatDoor
namespace Go.Proofs.YtlcagndeidjobaaGreatDoor
open Tryz
open Go Go.Dat Go.Proofs Go.RowKit Nat32
noncomputable def evB (t:Tb) (n f:Nat) (ds:List DV) (r:DV):Bool:=match w0h t (evN t n) 1000 f ds [] with
 | some (q,[])=>dvB q r && r.rf
 | _=>false
theorem z1Q {P:Program} {t:Tb} (ht:TOK P t) {n f:Nat} {ds:List DV} {r:DV} (h:evB t n f ds r=true):z0c P f ds r:=by
 unfold evB at h
 split at h
 ·rename_i q hq
  rw [Bool.and_eq_true] at h
  rw [z7u h.1] at hq
  exact z2N ht n hq h.2
 ·cases h
noncomputable def mdT:Tb:=([(9,efF prog Tryz.f9 [0,2,3,6] []),(33,efF prog Tryz.f33 [0,2,3,4,5,6,9,33,40,53] []),(34,efF prog Tryz.f34 [0,1,2,3,4,5,6,8,9,10,11,14,38,46,52,61] []),(63,efF prog Tryz.f63 [0,2,3,8] []),(64,efF prog Tryz.f64 [0,1,7] []),(65,efF prog Tryz.f65 [0,1,4,5,6,8,20] []),(66,efF prog Tryz.f66 [0,2,21] []),(68,efF prog Tryz.f68 [0,1,2,3,28,33,42] []),(69,efF prog Tryz.f69 [0,2,3,4,5,9,25] []),(70,efF prog Tryz.f70 [0,1,2,6,7,8,9,10,11,12,13,14,15,16,30,40,54,63,67] []),(71,efF prog Tryz.f71 [0,1,2,6,7,8,9,10,11,12,13,14,22,24,25,28,46,49,54,62,75,77,81,86,91,96] []),(72,efF prog Tryz.f72 [0,1,4,5,9,17] []),(73,efF prog Tryz.f73 [0,2,3,5] []),(74,efF prog Tryz.f74 [0,1,4,5,6,10,18] []),(120,efF prog Tryz.f120 [0,2,3,7,27] []),(121,efF prog Tryz.f121 [0,2,3,21,25,32] []),(122,efF prog Tryz.f122 [0,1,4,8] []),(123,efF prog Tryz.f123 [0,2,3,7] []),(124,efF prog Tryz.f124 [0,1,4,5,12,19,26,33] []),(125,efF prog Tryz.f125 [0,1,2,4,5,6,12] [8]),(126,efF prog Tryz.f126 [0,23] []),(127,efF prog Tryz.f127 [0,1,4,5,6,7,16,26,32] []),(128,efF prog Tryz.f128 [0,1,2,4,5,15,30] []),(129,efF prog Tryz.f129 [0,1,2,4,5,10] []),(130,efF prog Tryz.f130 [0,1,3,4,5,9,17] []),(131,efF prog Tryz.f131 [0,1,4,5,6,10,19] []),(132,efF prog Tryz.f132 [0,1,4,5,6,12,21] []),(133,efF prog Tryz.f133 [0,2,3,7,15] []),(134,efF prog Tryz.f134 [0,2,3,10,13] []),(135,efF prog Tryz.f135 [0,1,4] []),(136,efF prog Tryz.f136 [0,1,4,5,6,7,11,17] []),(137,efF prog Tryz.f137 [0,1,4,5,6,10] []),(194,efF prog Tryz.f194 [0,2] []),(195,efF prog Tryz.f195 [0,2] []),(196,efF prog Tryz.f196 [0,2,3,4,5,6,8,21,35] []),(197,efF prog Tryz.f197 [0,1,2,6,7,10,15] []),(240,efF prog Tryz.f240 [0,2,3,50] []),(76,efF prog Tryz.f76 [0,1,2,3,4,5,6,16,18,19,20,21,48,49,50,51,52,65,72] []),(147,efF prog Tryz.f147 [0,1,3] []),(144,efF prog Tryz.f144 [0,1,2] []),(148,efF prog Tryz.f148 [0,1,3,4] []),(207,efF prog Tryz.f207 [0,1,2,3] []),(143,efF prog Tryz.f143 [0,2,4,21,23,24,25,26,48] []),(93,efF prog Tryz.f93 [0,1,2,3,4,5,6,16,21,52,56,92,95,104] []),(78,efF prog Tryz.f78 [0,1,2,3,5,7,12,13,14,15,18,19,20,21] [10]),(41,efF prog Tryz.f41 [0,1,2,3,4,5,13,23] [8]),(217,efF prog Tryz.f217 [0,1,3,4,7] [2000003]),(247,efF prog Tryz.f247 [0,1,2,3] [2000002]),(248,efF prog Tryz.f248 [0,1,2,3] [2000002]),(145,efF prog Tryz.f145 [0,1,3,4] []),(204,efF prog Tryz.f204 [0,1,3,4,5,7,8,9,16] []),(146,efF prog Tryz.f146 [0,1,4] []),(205,efF prog Tryz.f205 [0,1,4,5,7,8,9,16] []),(206,efF prog Tryz.f206 [0,1,4] []),(242,efF prog Tryz.f242 [0,1,4,5,7,8,9,16] []),(172,efF prog Tryz.f172 [0,1,4,5,10,14,23] []),(203,efF prog Tryz.f203 [0,2] [])],awK)
theorem z2g:TOK prog mdT:=by
 have h:=x9O
 replace h:=h.f func203 [0,2] [] (by kernel_rfl)
 replace h:=h.f func172 [0,1,4,5,10,14,23] [] (by kernel_rfl)
 replace h:=h.f func242 [0,1,4,5,7,8,9,16] [] (by kernel_rfl)
 replace h:=h.f func206 [0,1,4] [] (by kernel_rfl)
 replace h:=h.f func205 [0,1,4,5,7,8,9,16] [] (by kernel_rfl)
 replace h:=h.f func146 [0,1,4] [] (by kernel_rfl)
 replace h:=h.f func204 [0,1,3,4,5,7,8,9,16] [] (by kernel_rfl)
 replace h:=h.f func145 [0,1,3,4] [] (by kernel_rfl)
 replace h:=h.f func248 [0,1,2,3] [2000002] (by kernel_rfl)
 replace h:=h.f func247 [0,1,2,3] [2000002] (by kernel_rfl)
 replace h:=h.f func217 [0,1,3,4,7] [2000003] (by kernel_rfl)
 replace h:=h.f func41 [0,1,2,3,4,5,13,23] [8] (by kernel_rfl)
 replace h:=h.f func78 [0,1,2,3,5,7,12,13,14,15,18,19,20,21] [10] (by kernel_rfl)
 replace h:=h.f func93 [0,1,2,3,4,5,6,16,21,52,56,92,95,104] [] (by kernel_rfl)
 replace h:=h.f func143 [0,2,4,21,23,24,25,26,48] [] (by kernel_rfl)
 replace h:=h.f func207 [0,1,2,3] [] (by kernel_rfl)
 replace h:=h.f func148 [0,1,3,4] [] (by kernel_rfl)
 replace h:=h.f func144 [0,1,2] [] (by kernel_rfl)
 replace h:=h.f func147 [0,1,3] [] (by kernel_rfl)
 replace h:=h.f func76 [0,1,2,3,4,5,6,16,18,19,20,21,48,49,50,51,52,65,72] [] (by kernel_rfl)
 replace h:=h.f func240 [0,2,3,50] [] (by kernel_rfl)
 replace h:=h.f func197 [0,1,2,6,7,10,15] [] (by kernel_rfl)
 replace h:=h.f func196 [0,2,3,4,5,6,8,21,35] [] (by kernel_rfl)
 replace h:=h.f func195 [0,2] [] (by kernel_rfl)
 replace h:=h.f func194 [0,2] [] (by kernel_rfl)
 replace h:=h.f func137 [0,1,4,5,6,10] [] (by kernel_rfl)
 replace h:=h.f func136 [0,1,4,5,6,7,11,17] [] (by kernel_rfl)
 replace h:=h.f func135 [0,1,4] [] (by kernel_rfl)
 replace h:=h.f func134 [0,2,3,10,13] [] (by kernel_rfl)
 replace h:=h.f func133 [0,2,3,7,15] [] (by kernel_rfl)
 replace h:=h.f func132 [0,1,4,5,6,12,21] [] (by kernel_rfl)
 replace h:=h.f func131 [0,1,4,5,6,10,19] [] (by kernel_rfl)
 replace h:=h.f func130 [0,1,3,4,5,9,17] [] (by kernel_rfl)
 replace h:=h.f func129 [0,1,2,4,5,10] [] (by kernel_rfl)
 replace h:=h.f func128 [0,1,2,4,5,15,30] [] (by kernel_rfl)
 replace h:=h.f func127 [0,1,4,5,6,7,16,26,32] [] (by kernel_rfl)
 replace h:=h.f func126 [0,23] [] (by kernel_rfl)
 replace h:=h.f func125 [0,1,2,4,5,6,12] [8] (by kernel_rfl)
 replace h:=h.f func124 [0,1,4,5,12,19,26,33] [] (by kernel_rfl)
 replace h:=h.f func123 [0,2,3,7] [] (by kernel_rfl)
 replace h:=h.f func122 [0,1,4,8] [] (by kernel_rfl)
 replace h:=h.f func121 [0,2,3,21,25,32] [] (by kernel_rfl)
 replace h:=h.f func120 [0,2,3,7,27] [] (by kernel_rfl)
 replace h:=h.f func74 [0,1,4,5,6,10,18] [] (by kernel_rfl)
 replace h:=h.f func73 [0,2,3,5] [] (by kernel_rfl)
 replace h:=h.f func72 [0,1,4,5,9,17] [] (by kernel_rfl)
 replace h:=h.f func71 [0,1,2,6,7,8,9,10,11,12,13,14,22,24,25,28,46,49,54,62,75,77,81,86,91,96] [] (by kernel_rfl)
 replace h:=h.f func70 [0,1,2,6,7,8,9,10,11,12,13,14,15,16,30,40,54,63,67] [] (by kernel_rfl)
 replace h:=h.f func69 [0,2,3,4,5,9,25] [] (by kernel_rfl)
 replace h:=h.f func68 [0,1,2,3,28,33,42] [] (by kernel_rfl)
 replace h:=h.f func66 [0,2,21] [] (by kernel_rfl)
 replace h:=h.f func65 [0,1,4,5,6,8,20] [] (by kernel_rfl)
 replace h:=h.f func64 [0,1,7] [] (by kernel_rfl)
 replace h:=h.f func63 [0,2,3,8] [] (by kernel_rfl)
 replace h:=h.f func34 [0,1,2,3,4,5,6,8,9,10,11,14,38,46,52,61] [] (by kernel_rfl)
 replace h:=h.f func33 [0,2,3,4,5,6,9,33,40,53] [] (by kernel_rfl)
 replace h:=h.f func9 [0,2,3,6] [] (by kernel_rfl)
 exact h
end Go.Proofs.YtlcagndeidjobaaGreatDoor
namespace Go.Proofs.YtlcagndeidjobaaGreatDoor
open Tryz
open Go Go.Dat Go.Proofs Go.RowKit Go.Lib Nat32
theorem z73 (r:Int):z0c prog 79 [.int .i64 r] (.sl 3 (nums [1])):=by
 have c1:z0c prog 80 [.int .i64 1] (.agg (z0T 1)):=z3g 1 (by decide) (by decide)
 have hld:∀x:Rat,laid [DV.bool false,.nils,.nils] [(0,3,.agg (z0T x))]=some (z0T x):=fun _=>rfl
 refine z0b y4P (by simp [z7y]) ?_
 unfold z4X
 refine zR ?_
 refine cP c1 ?_
 refine zS hld ?_
 refine ⟨z1z _,?_⟩
 refine zR ?_
 exact z0i (z0h (.imm rfl))
theorem x6o:z0U prog 79:=⟨_,func79,by kernel_rfl,by kernel_rfl⟩
def icG:Grp:=⟨[[40,73,110,116,101,114,99,101,112,116,41]],.fn 79,rfl,rfl⟩
theorem w52 (r:Nat):GV prog icG r [1]:=⟨_,_,.inr ⟨rfl,rfl⟩,x6o,rfl,z73 r⟩
def x0g (S:List Kx) (m:Mdl) (cod:Int) (t fs:List Fac) (f:Fac) (k:Nat):Grp:=(fs.take k).foldl (fun g h=>w2J g (y4l S m cod t h)) (y4l S m cod t f)
theorem y3F {S:List Kx} {m:Mdl} {cod:Int} (t:List Fac) {fs:List Fac} (f:Fac) {k:Nat} (hk:k<fs.length):x0g S m cod t fs f (k+1)=w2J (x0g S m cod t fs f k) (y4l S m cod t (fs.getD k default)):=by
 unfold x0g;rw [z0z default hk,List.foldl_append];rfl
theorem w5D:∀k,k<7→3 ^ k≤729:=by decide
theorem y58 {n:Nat} {S:List Kx} {m:Mdl} {cod:Nat} (h:DKt n S m cod) {t fs:List Fac} {f:Fac} (ht:t∈m.tm) (hf:f∈t) (hfs:∀f∈fs,f∈t) (hl:fs.length≤5):∀{k:Nat},k≤fs.length →
  (x0g S m cod t fs f k).nm=x59 S m cod t fs f k∧∀r,w4P n S m r→GV prog (x0g S m cod t fs f k) r (x6a S m cod t fs f k r)
 | 0,_=>⟨(z1j h ht hf).1,(z1j h ht hf).2.1⟩
 | k+1,hk=>by
  obtain ⟨i1,i2⟩:=y58 h ht hf hfs hl (show k≤fs.length by omega)
  obtain ⟨j1,j2,_⟩:=z1j h ht (hfs _ (z6j hk))
  rw [y3F t f hk,z8m t f hk]
  refine ⟨?_,fun r hr=>?_⟩
  ·unfold w2J
   show z92 _ _=_
   rw [i1,j1]
  ·rw [z8n t f r hk]
   have l1:=y7W (S:=S) (m:=m) (cod:=cod) t f r (show k≤fs.length by omega)
   have l2:=(y1X h ht hf hfs (show k≤fs.length by omega)).1
   have l3:=z4G S m cod t (fs.getD k default) r
   have l4:=(z6z h ht (hfs _ (z6j hk))).1
   have l5:=w5D (k+1+1) (by omega)
   have hm:(y2e S m cod t (fs.getD k default) r).length*(x6a S m cod t fs f k r).length≤3*3 ^ (k+1):=Nat.mul_le_mul (by omega) (by omega)
   have e3:3*3 ^ (k+1)=3 ^ (k+1+1):=by rw [Nat.pow_succ 3 (k+1),Nat.mul_comm]
   refine w5f (w:=6000) (i2 r hr) (j2 r hr) (fun x hx=>(y59 h ht hf hfs hr.1 (show k≤fs.length by omega) x hx).mono ?_) (fun x hx=>(y6m h ht (hfs _ (z6j hk)) hr.1 x hx).mono (by decide)) (by decide) (by omega) (by omega)
   have:(k+1)*900≤6*900:=Nat.mul_le_mul_right _ (by omega)
   omega
theorem w5A {T:List (List Fac)} {i:Nat} (h:i<T.length):T.getD i []∈T:=by rw [zO1,zO4 h];exact List.getElem_mem h
def w7m (S:List Kx) (m:Mdl) (cod:Int) (t:List Fac):Grp:=x0g S m cod t t.tail (t.getD 0 default) t.tail.length
def z3o (S:List Kx) (m:Mdl) (cod:Int) (i:Nat):List Grp:=(if m.ic then [icG] else [])++((m.tm.take i).filter (y1E S m cod)).map (w7m S m cod)
theorem y9g {S:List Kx} {m:Mdl} {cod:Int} {i:Nat} (hi:i<m.tm.length) (h:y1E S m cod (m.tm.getD i [])=true):z3o S m cod (i+1)=z3o S m cod i++[w7m S m cod (m.tm.getD i [])]:=by
 unfold z3o
 rw [z0z [] hi,List.filter_append,List.map_append,List.filter_cons,if_pos h,List.append_assoc];rfl
theorem x34 {S:List Kx} {m:Mdl} {cod:Int} {i:Nat} (hi:i<m.tm.length) (h:y1E S m cod (m.tm.getD i [])=false):z3o S m cod (i+1)=z3o S m cod i:=by
 unfold z3o
 rw [z0z [] hi,List.filter_append,List.filter_cons,if_neg (show ¬y1E S m cod (m.tm.getD i [])=true by rw [h];decide)];simp
theorem x2w {t:List Fac} (h:1≤t.length):t=t.getD 0 default::t.tail:=by
 cases t with
 | nil=>cases h
 | cons f fs=>rfl
theorem x35 {n:Nat} {S:List Kx} {m:Mdl} {cod:Nat} (h:DKt n S m cod):∀{i:Nat},i≤m.tm.length→x52 prog (w4P n S m) (z3o S m cod i) (z3n S m cod i)
 | 0,_=>by
  have e1:z3o S m cod 0=if m.ic then [icG] else []:=by unfold z3o;simp
  have e2:z3n S m cod 0=icL m:=by unfold z3n;simp
  rw [e1,e2]
  unfold icL
  split
  ·exact (x52.nil _ _).snoc rfl fun r _=>w52 r
  ·exact x52.nil _ _
 | i+1,hi=>by
  have ih:=x35 h (show i≤m.tm.length by omega)
  cases hk:y1E S m cod (m.tm.getD i [])
  ·rw [x34 hi hk,x92 hi hk];exact ih
  ·rw [y9g hi hk,x6t hi hk]
   have ht:m.tm.getD i []∈m.tm:=w5A hi
   generalize m.tm.getD i []=t at *
   have htl:=h.tl.2 t ht
   have hc:=x2w htl.1
   have h0:t.getD 0 default∈t:=z6j (by omega)
   have hts:∀f∈t.tail,f∈t:=fun f hf=>List.mem_of_mem_tail hf
   obtain ⟨a1,a2⟩:=y58 h ht h0 hts (by rw [List.length_tail];omega) (Nat.le_refl t.tail.length)
   obtain ⟨b1,b2⟩:=x2a (S:=S) (m:=m) (cod:=cod) hc
   refine ih.snoc ?_ fun r hr=>?_
   ·exact a1.trans b1
   ·have:=a2 r hr
    rw [b2] at this
    exact this
theorem z8R {n:Nat} {S:List Kx} {m:Mdl} {cod:Nat} (h:DKt n S m cod) (hw:y0b S m cod m.tm.length≤12) :
  z0c prog 36 [.el (z5c n S m cod) 0] (.tup [.sl 2 (gps (z3o S m cod m.tm.length)),.int .i64 0]):=by
 have hT:=y7I m.tm
 have hB2:∀x,(z5c n S m cod).getD 3 x=.bool m.ic:=fun _=>rfl
 have hB4:∀x,(z5c n S m cod).getD 4 x=.sl 1 (tmD m.tm):=fun _=>rfl
 have hB6:(z5c n S m cod).length=6:=rfl
 refine z0b y6E (by simp [z85]) ?_
 unfold z5B
 generalize hB:z5c n S m cod=B at *
 refine z0d ?_
 refine z0g ?_
 refine zD ?_
 refine z0d ?_
 refine z0g ?_
 refine zD ?_
 refine z4a 4 2 200 rfl rfl ?_
 refine zS (zA hB2 hB6) ?_
 have hg0l:∀i,i≤m.tm.length→(z3o S m cod i).length≤40:=fun i hi=>by
  have h1:=List.length_filter_le (y1E S m cod) (m.tm.take i)
  rw [List.length_take] at h1
  have h2:=h.tl.1
  unfold z3o
  rw [List.length_append,List.length_map]
  split
  ·simp;omega
  ·simp;omega
 have hga:=z5f
 have hg2:=z1y
 have hgt:∀g,(gpC g).take 2=gpC g:=fun _=>rfl
 have hgl:∀g,laid [DV.nils,.undef] [(0,2,.agg (gpC g))]=some (gpC g):=fun g=>by simp [laid,z5f,z1y,spl];rfl
 have h22:2 / 2=1:=rfl
 have hsg:∀(A:Grp) (C:List DV),List.take 0 (gpC A)++C++List.drop 2 (gpC A)=C:=fun A C=>by rw [List.drop_of_length_le (by rw [z1y];omega)];simp
 have hlg:∀l:List Grp,(gps l).length=l.length*2:=z2C
 refine z5v (ι:=Unit) (fun _=>True) (fun _=>[(0,.el B 0),(4,.osl 2 200 0 (z3o S m cod 0).length),(5,.int .i64 (y0b S m cod 0))]) (fun _=>[(200,gps (z3o S m cod 0))]) ?_ ?_
 ·have e1:z3o S m cod 0=if m.ic then [icG] else []:=by unfold z3o;simp
  have e2:y0b S m cod 0=if m.ic then 1 else 0:=by unfold y0b;simp
  rw [e1,e2]
  cases hic:m.ic
  ·refine wFs ?_
   exact ⟨(),trivial,by simp [z0y,lk],rfl⟩
  ·have hl1:∀x,laid [DV.str []] [(0,1,.str x)]=some [.str x]:=fun _=>rfl
   have hl2:∀x,laid [DV.nils,.undef] [(0,1,.sl 1 [.str x]),(1,1,.fn 79)]=some [.sl 1 [.str x],.fn 79]:=fun _=>rfl
   have hl3:∀x,laid [DV.nils,.undef] [(0,2,.agg [.sl 1 [.str x],.fn 79])]=some [.sl 1 [.str x],.fn 79]:=fun _=>rfl
   refine wT ?_
   refine zS (zA hl1 (zA hl2 hl3)) ?_
   refine ⟨List.all_eq_true.1 rfl,?_⟩
   refine zS (zA hl1 (zA hl2 hl3)) ?_
   exact ⟨List.all_eq_true.1 rfl,⟨fun h=>h,List.all_eq_true.1 rfl⟩,(),by simp [z0y,lk],rfl⟩
 rintro ⟨⟩ -
 refine zS (zA hB4 (zA hB6 hT)) ?_
 refine z0v (σ:=Nat) (fun i=>[(0,.el B 0),(4,.osl 2 200 0 (z3o S m cod i).length),(5,.int .i64 (y0b S m cod i)),(31,.sl 1 (tmD m.tm)),(32,.int .i64 m.tm.length),(33,.int .i64 i)]) (fun i=>[(200,gps (z3o S m cod i))]) (fun i=>i≤m.tm.length) (fun i=>m.tm.length - i) 0 (Nat.zero_le _) ?_ rfl ?_
 ·simp [z0y,lk]
 ·intro i hi
  try simp only at hi ⊢
  have htl32:=h.tl.1
  by_cases hlt:i<m.tm.length
  ·have dl:decide ((i:Int)<(m.tm.length:Int))=true:=zT9
   have ei:(i:Int).toNat=i:=Int.toNat_natCast i
   have e1:((i:Int)+1)=((i+1:Nat):Int):=by omega
   have hgT:=y7H hlt .undef
   have hyes:=fun hk=>y9g (S:=S) (m:=m) (cod:=cod) hlt hk
   have hno:=fun hk=>x34 (S:=S) (m:=m) (cod:=cod) hlt hk
   have cyes:=fun hk=>y71 (S:=S) (m:=m) (cod:=cod) hlt hk
   have cno:=fun hk=>x2s (S:=S) (m:=m) (cod:=cod) hlt hk
   have cmo:=z8t (S:=S) (m:=m) (cod:=cod) (i:=i+1) (Nat.le_refl _) hlt
   have cmo0:=z8t (S:=S) (m:=m) (cod:=cod) (i:=i) (Nat.le_refl _) hi
   have hgl1:=hg0l i hi
   have ht:m.tm.getD i []∈m.tm:=w5A hlt
   generalize m.tm.getD i []=t at *
   obtain ⟨ht1,ht6⟩:=h.tl.2 t ht
   obtain ⟨G,hG⟩:∃G,G=t.map (y4l S m cod t):=⟨_,rfl⟩
   have hGl:G.length=t.length:=by rw [hG,List.length_map]
   have hGg:∀j,j<t.length→G.getD j default=y4l S m cod t (t.getD j default):=fun j hj=>by
    rw [hG,zO1,List.getElem?_map,zO4 hj,zO1,zO4 hj];rfl
   have hfcl:=z4m t
   have htl2:t.length*2 / 2=t.length:=by omega
   have etl:(t.length:Int).toNat=t.length:=Int.toNat_natCast _
   have hcf:∀f,(DV.agg (fcC f)).cells? = some (fcC f):=fun _=>rfl
   have hf2:=z2i
   have hft:∀f,(fcC f).take 2=fcC f:=fun _=>rfl
   have hs2:∀(a b:DV) (C:List DV),List.take 0 [a,b]++C++List.drop 2 [a,b]=C:=fun _ _ _=>by simp
   refine zS dl ?_
   refine wTs ?_
   refine z0d ?_
   refine z0f ?_
   refine zS (zA ei (zA hT (zA hgT (zA hfcl (zA htl2 etl))))) ?_
   rw [w3o G]
   refine z0v (σ:=Nat) (fun j=>[(0,.el B 0),(4,.osl 2 200 0 (z3o S m cod i).length),(5,.int .i64 (y0b S m cod i)),(7,.sl 2 (fcs t)),(8,.osl 2 39 0 t.length),(9,.int .i64 (x5U S m cod t j)),(31,.sl 1 (tmD m.tm)),(32,.int .i64 m.tm.length),(33,.int .i64 i),(40,.sl 2 (fcs t)),(41,.int .i64 t.length),(42,.int .i64 j)]) (fun j=>[(39,y6n G t.length j),(200,gps (z3o S m cod i))]) (fun j=>j≤t.length) (fun j=>t.length - j) 0 (Nat.zero_le _) ?_ rfl ?_
   ·simp [z0y,lk,x5U]
   ·intro j hj
    try simp only at hj ⊢
    by_cases hlj:j<t.length
    ·have dj:decide ((j:Int)<(t.length:Int))=true:=zT9
     have ej:(j:Int).toNat=j:=Int.toNat_natCast j
     have ej1:((j:Int)+1)=((j+1:Nat):Int):=by omega
     have hft2:=z1m (j:=0) (k:=2) z2i default hlj (Nat.le_refl _)
     have hftw:((fcs t).drop (j*2)).take 2=fcC (t.getD j default):=hft2
     have hfm:t.getD j default∈t:=z6j hlj
     obtain ⟨fn1,_,cf⟩:=z1j h ht hfm
     rw [hB] at cf
     have hgj:=hGg j hlj
     have hw1:=y5Z (S:=S) (m:=m) (cod:=cod) hlj
     have hw2:=y7N h ht (show j+1≤t.length by omega)
     have hw3:=w5D (j+1) (by omega)
     have hfl:=y8G hGl hj
     have hfs:=x6D hGl hlj
     have hfa:=w0c hGl hlj
     have hfl2:=y8G hGl (show j+1≤t.length by omega)
     rw [hgj,fn1] at hfa
     rw [hgj] at hfs
     have hfN:=z0K (z99 S m cod t (t.getD j default))
     generalize z99 S m cod t (t.getD j default)=N at *
     have hmx:(if (1:Int)<(N.length:Int) then (N.length:Int) else 1)=((max 1 N.length:Nat):Int):=by split<;>omega
     have hmu:((x5U S m cod t j:Nat):Int)*((max 1 N.length:Nat):Int)=((x5U S m cod t (j+1):Nat):Int):=by rw [hw1];exact (Int.natCast_mul _ _).symm
     have hrf:[DV.el B 0,.sl 2 (fcs t),.agg (fcC (t.getD j default))].all DV.rf=true:=rfl
     generalize t.getD j default=f at *
     generalize y4l S m cod t f=g at *
     refine zS dj ?_
     refine wTs ?_
     refine z0d ?_
     refine z0f ?_
     refine zS (zA ej (zA hfcl (zA hftw (zA hcf (zA hf2 (zA hft (zA hs2 @List.drop_zero.{0}))))))) ?_
     refine cP cf ?_
     refine zE (zA ej (zA hga (zA hg2 (zA hgt hfl)))) ?_
     refine ⟨⟨by omega,by omega⟩,by omega,?_⟩
     rw [hfs]
     have q1:=z0k 11 (w0d G t.length (j+1))
     have q2:=z0k 11 (z7E (z3o S m cod i))
     have q3:∀o k n,o≠11→purge 11 (.osl 2 o k n)=.osl 2 o k n:=fun o k n h=>by simp [purge,DV.has,h]
     have q4:∀n,purge 11 (.int .i64 n)=.int .i64 n:=fun n=>by simp [purge,DV.has]
     refine z25 11 ?_
     repeat (first|refine z0d ?_|refine z0g ?_|refine z0p ?_|refine z0f ?_|refine And.intro (by omega) ?_|simp (maxSteps:=1000000) (disch:=omega) only [cA,cB,cN,FnD.nb,lk,lkH,Dst.onT,Dst.onX,Dst.slot,z0W,z0N,z0J,z0X,z0u,z0V,unE,cnt,z0j,z0t,z0m,z0o,opE,rmH,z02,z0n,Nat.reduceEqDiff,Nat.reduceLT,Nat.reduceAdd,Nat.reduceMul,Nat.reduceMod,↓reduceIte,reduceCtorEq,Nat.reduceLeDiff,ej,hfl2,hfa,hfN,hmx,hmu,rmP,q1,q2,q3,q4])
     exact ⟨j+1,by omega,by omega,by simp [z0y,lk,purge,DV.has],rfl⟩
    ·have dj:decide ((j:Int)<(t.length:Int))=false:=zF9
     obtain rfl:j=t.length:=by omega
     have hwt:=y7N h ht (Nat.le_refl t.length)
     have hw3:=w5D t.length (by omega)
     generalize hwd:x5U S m cod t t.length=wd at *
     rw [x6C hGl]
     have hGr:=z7E G
     have hGn:=z2C G
     refine z0I 39 (cells:=gps G) rfl (List.all_eq_true.2 hGr) ?_
     have hfz:frz 39 (gps G) (.osl 2 39 0 t.length)=.sl 2 (gps G):=by
      simp [frz,hGn,hGl]
      rw [List.take_of_length_le (by omega)]
     have z1:∀k n,frz 39 (gps G) (.osl 2 200 k n)=.osl 2 200 k n:=fun k n=>z1H _ _ _ _ _ (by decide)
     have z2:=z1p 39 (gps G) (z7E (z3o S m cod i))
     have cCF:=y3h G (by omega)
     have hany:G.any emG=!y1E S m cod t:=by
      unfold y1E
      rw [←y12]
      rw [hG,List.any_map]
      have:∀l:List Fac,(∀f∈l,f∈t)→l.any (emG ∘ y4l S m cod t)=l.any fun f=>!!(z99 S m cod t f).isEmpty:=by
       intro l
       induction l with
       | nil=>intro _;rfl
       | cons f l ih =>
        intro hl
        rw [List.any_cons,List.any_cons,ih fun f' h'=>hl f' (List.mem_cons_of_mem _ h')]
        congr 1
        show emG (y4l S m cod t f)=_
        unfold emG
        rw [(z1j h ht (hl f List.mem_cons_self)).1]
        cases z99 S m cod t f with
        | nil=>rfl
        | cons a b=>simp;omega
      exact this t fun f hf=>hf
     rw [hany] at cCF
     refine zS (zA dj (zA hfz (zA z1 z2))) ?_
     refine z0l rfl (fun h=>by cases h) (fun _=>z0q ?_)
     refine zR ?_
     refine cP cCF ?_
     cases hk:y1E S m cod t
     ·refine zR ?_
      refine z0l rfl (fun _=>z0q ?_) (fun h=>by cases h)
      refine zS e1 ?_
      exact ⟨i+1,by omega,by omega,by simp [z0y,lk,hno hk,cno hk],by rw [hno hk]⟩
     ·have cy:=cyes hk
      have hcnt:((y0b S m cod i:Nat):Int)+(wd:Int)=((y0b S m cod (i+1):Nat):Int):=by omega
      have d12:decide ((12:Int)<((y0b S m cod (i+1):Nat):Int))=false:=zF9
      have hw0:(gps G).take 2=gpC (G.getD 0 default):=z1m (l:=G) (i:=0) (j:=0) z1y default (by omega) (Nat.le_refl _)
      have hG0:G.getD 0 default=x0g S m cod t t.tail (t.getD 0 default) 0:=hGg 0 (by omega)
      rw [hG0] at hw0
      have hd1:(gps G).drop 2=gps (G.drop 1):=y2g z1y G 1
      have hG1:(G.drop 1).length=t.tail.length:=by rw [List.length_drop,List.length_tail,hGl]
      have hdl:=z2C (G.drop 1)
      rw [hG1] at hdl
      have hdl2:t.tail.length*2 / 2=t.tail.length:=by omega
      refine zR ?_
      refine wFs ?_
      refine zS (zA hcnt d12) ?_
      refine wFs ?_
      have htkG:(gps G).take (t.length*2)=gps G:=List.take_of_length_le (by omega)
      have ez:(0:Int).toNat=0:=rfl
      have eo:(1:Int).toNat=1:=rfl
      refine zS (zA ez (zA eo (zA htkG (zA hGn (zA hGl (zA hw0 (zA hga (zA hg2 (zA hgt (zA hs2 (zA hd1 (zA hdl (zA hdl2 @List.drop_zero.{0}))))))))))))) ?_
      have htc:=x2w ht1
      have h0:t.getD 0 default∈t:=z6j (by omega)
      have hts:∀f∈t.tail,f∈t:=fun f hf=>List.mem_of_mem_tail hf
      have htll:t.tail.length+1=t.length:=by rw [List.length_tail];omega
      have hGk:∀k,k<t.tail.length→(G.drop 1).getD k default=y4l S m cod t (t.tail.getD k default):=fun k hk=>by
       have e1:(G.drop 1).getD k default=G.getD (1+k) default:=by rw [zO1,List.getElem?_drop,zO1]
       have e2:t.tail.getD k default=t.getD (k+1) default:=by
        rw [zO1,List.getElem?_tail,zO1]
       rw [e1,hGg _ (by omega),e2,Nat.add_comm]
      refine z0v (σ:=Nat) (fun k=>[(0,.el B 0),(4,.osl 2 200 0 (z3o S m cod i).length),(5,.int .i64 (y0b S m cod (i+1))),(12,.ptr 12 0),(31,.sl 1 (tmD m.tm)),(32,.int .i64 m.tm.length),(33,.int .i64 i),(75,.sl 2 (gps (G.drop 1))),(76,.int .i64 t.tail.length),(77,.int .i64 k)]) (fun k=>[(12,gpC (x0g S m cod t t.tail (t.getD 0 default) k)),(200,gps (z3o S m cod i))]) (fun k=>k≤t.tail.length) (fun k=>t.tail.length - k) 0 (Nat.zero_le _) ?_ rfl ?_
      ·have x1:List.drop 2 (List.take (t.length*2) (gps G))=gps G.tail:=by rw [htkG,hd1,List.drop_one]
       have x2:((min (t.length*2) (gps G).length - 2:Nat):Int) / 2=((t.length - 1:Nat):Int):=by rw [hGn,hGl];omega
       have x3:((gps G.tail).length:Int) / 2=((t.length - 1:Nat):Int):=by rw [z2C,List.length_tail,hGl];omega
       simp [z0y,lk,x1,x2,x3]
      ·intro k hk2
       try simp only at hk2 ⊢
       by_cases hlk:k<t.tail.length
       ·have dk:decide ((k:Int)<(t.tail.length:Int))=true:=zT9
        have ek:(k:Int).toNat=k:=Int.toNat_natCast k
        have ek1:((k:Int)+1)=((k+1:Nat):Int):=by omega
        have hwk:((gps (G.drop 1)).drop (k*2)).take 2=gpC ((G.drop 1).getD k default):=z1m (l:=G.drop 1) (j:=0) z1y default (by omega) (Nat.le_refl _)
        rw [hGk k hlk] at hwk
        have hsu:=y3F (S:=S) (m:=m) (cod:=cod) t (t.getD 0 default) hlk
        obtain ⟨a1,_⟩:=y58 h ht h0 hts (by omega) hk2
        obtain ⟨a2,a3⟩:=y1X h ht h0 hts hk2
        obtain ⟨b1,_,_⟩:=z1j h ht (hts _ (z6j hlk))
        obtain ⟨b2,b3⟩:=z6z h ht (hts _ (z6j hlk))
        have p3:=w5D (k+1+1) (by omega)
        have e3:3*3 ^ (k+1)=3 ^ (k+1+1):=by rw [Nat.pow_succ 3 (k+1),Nat.mul_comm]
        rw [←a1] at a2 a3
        rw [←b1] at b2 b3
        generalize x0g S m cod t t.tail (t.getD 0 default) k=A at *
        generalize y4l S m cod t (t.tail.getD k default)=F at *
        have hmm:F.nm.length*A.nm.length≤3*3 ^ (k+1):=Nat.mul_le_mul b2 a2
        have ct:=y0f A F (by omega) (by omega) (fun s hs=>by
         have:=a3 s hs
         have:(k+1)*2000020≤6*2000020:=Nat.mul_le_mul_right _ (by omega)
         omega) (fun s hs=>by have:=b3 s hs;omega)
        rw [←hsu] at ct
        have q1:=z0k 14 (z35 (x0g S m cod t t.tail (t.getD 0 default) (k+1)))
        have q2:=z0k 14 (z7E (z3o S m cod i))
        have q3:∀o k n,o≠14→purge 14 (.osl 2 o k n)=.osl 2 o k n:=fun o k n h=>by simp [purge,DV.has,h]
        have q4:∀n,purge 14 (.int .i64 n)=.int .i64 n:=fun n=>by simp [purge,DV.has]
        have q5:purge 14 (.ptr 12 0)=.ptr 12 0:=by simp [purge,DV.has]
        generalize hA':x0g S m cod t t.tail (t.getD 0 default) (k+1)=A' at *
        have hrf2:[DV.agg (gpC A),.agg (gpC F)].all DV.rf=true:=by
         simp only [List.all_cons,DV.rf_agg,List.all_eq_true.2 (z35 A),List.all_eq_true.2 (z35 F),List.all_nil];rfl
        refine zS dk ?_
        refine wTs ?_
        refine z0d ?_
        refine z0f ?_
        refine zS (zA ek (zA hdl (zA hwk (zA hga (zA hg2 (zA hgt (zA hs2 @List.drop_zero.{0}))))))) ?_
        refine z0E ct hrf2 ?_
        refine zE (zA hga (zA hg2 (zA hgt hsg))) ?_
        refine z25 14 ?_
        repeat (first|refine z0d ?_|refine z0g ?_|refine z0p ?_|refine z0f ?_|refine And.intro (by omega) ?_|simp (maxSteps:=1000000) (disch:=omega) only [cA,cB,cN,FnD.nb,lk,lkH,Dst.onT,Dst.onX,Dst.slot,z0W,z0N,z0J,z0X,z0u,z0V,unE,cnt,z0j,z0t,z0m,z0o,opE,rmH,z02,z0n,Nat.reduceEqDiff,Nat.reduceLT,Nat.reduceAdd,Nat.reduceMul,Nat.reduceMod,↓reduceIte,reduceCtorEq,Nat.reduceLeDiff,rmP,q1,q2,q3,q4,q5])
        exact ⟨k+1,by omega,by omega,by simp [z0y,lk,purge,DV.has],by rw [hA']⟩
       ·have dk:decide ((k:Int)<(t.tail.length:Int))=false:=zF9
        obtain rfl:k=t.tail.length:=by omega
        have hsn:gps (z3o S m cod i)++gpC (x0g S m cod t t.tail (t.getD 0 default) t.tail.length)=gps (z3o S m cod (i+1)):=by
         rw [hyes hk];exact y2h _ _
        have hgn:=z2C (z3o S m cod i)
        have hgl2:(z3o S m cod (i+1)).length=(z3o S m cod i).length+1:=by rw [hyes hk,List.length_append];rfl
        generalize x0g S m cod t t.tail (t.getD 0 default) t.tail.length=A at *
        have r1:=w0l A
        have r2:=z35 A
        have q1:=z0k 200 (z35 A)
        have q2:=z0k 200 (z7E (z3o S m cod (i+1)))
        have q3:=z0k 12 (z7E (z3o S m cod (i+1)))
        refine zS dk ?_
        refine z0l rfl (fun h=>by cases h) (fun _=>z0q ?_)
        refine zS (zA hga (zA hg2 (zA hgt (zA hgl (zA h22 (zA hgn @List.drop_zero.{0})))))) ?_
        refine ⟨⟨by omega,by omega,fun h=>h,r1⟩,?_⟩
        rw [hsn,q2]
        refine z25 12 ?_
        have q4:∀o k n,o≠12→purge 12 (.osl 2 o k n)=.osl 2 o k n:=fun o k n h=>by simp [purge,DV.has,h]
        have q5:∀n,purge 12 (.int .i64 n)=.int .i64 n:=fun n=>by simp [purge,DV.has]
        repeat (first|refine z0d ?_|refine z0g ?_|refine z0p ?_|refine z0f ?_|refine And.intro (by omega) ?_|simp (maxSteps:=1000000) (disch:=omega) only [cA,cB,cN,FnD.nb,lk,lkH,Dst.onT,Dst.onX,Dst.slot,z0W,z0N,z0J,z0X,z0u,z0V,unE,cnt,z0j,z0t,z0m,z0o,opE,rmH,z02,z0n,Nat.reduceEqDiff,Nat.reduceLT,Nat.reduceAdd,Nat.reduceMul,Nat.reduceMod,↓reduceIte,reduceCtorEq,Nat.reduceLeDiff,rmP,q3,q4,q5,e1])
        exact ⟨i+1,by omega,by omega,by simp [z0y,lk,purge,DV.has,hgl2],rfl⟩
  ·have dl:decide ((i:Int)<(m.tm.length:Int))=false:=zF9
   obtain rfl:i=m.tm.length:=by omega
   have hGr:=z7E (z3o S m cod m.tm.length)
   have hGn:=z2C (z3o S m cod m.tm.length)
   refine z0I 200 (cells:=gps (z3o S m cod m.tm.length)) rfl (List.all_eq_true.2 hGr) ?_
   have hfz:frz 200 (gps (z3o S m cod m.tm.length)) (.osl 2 200 0 (z3o S m cod m.tm.length).length)=.sl 2 (gps (z3o S m cod m.tm.length)):=by
    simp [frz,hGn]
    rw [List.take_of_length_le (by omega)]
   refine zS (zA dl hfz) ?_
   refine z0l rfl (fun h=>by cases h) (fun _=>z0q ?_)
   refine zR ?_
   exact z0i (z2f (.imm rfl) (.imm rfl))
end Go.Proofs.YtlcagndeidjobaaGreatDoor
