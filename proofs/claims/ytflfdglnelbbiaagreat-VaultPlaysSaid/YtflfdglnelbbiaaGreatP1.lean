/-
  Part 1 of the functions and the law.
  The functions of this seat as code of the abstract machine, and that they are so. Printed by a program.
-/
import Derived.Test.YtflfdglnelbbiaaGreatV10
import Derived.Test.YtflfdglnelbbiaaGreatChecked
import Derived.KernelRfl
set_option linter.all false
set_option linter.unusedVariables false
set_option linter.unusedSimpArgs false
set_option linter.unusedSectionVars false
namespace Go.Proofs.YtflfdglnelbbiaaGreat
open Go Go.VM
abbrev oM (t x:Nat):VOper:=⟨some t,none,.mov (.t x)⟩
abbrev zM (t g:Nat) (b:Bool) (x:Nat):VOper:=⟨some t,some (g,b),.mov (.t x)⟩
abbrev oL (t x:Nat):VOper:=⟨some t,none,.load1 (.t x)⟩
abbrev zL (t g:Nat) (b:Bool) (x:Nat):VOper:=⟨some t,some (g,b),.load1 (.t x)⟩
abbrev oH (t x:Nat):VOper:=⟨some t,none,.nilCheck (.t x)⟩
abbrev zH (t g:Nat) (b:Bool) (x:Nat):VOper:=⟨some t,some (g,b),.nilCheck (.t x)⟩
abbrev oS (t x:Nat):VOper:=⟨some t,none,.lenS (.t x)⟩
abbrev zS (t g:Nat) (b:Bool) (x:Nat):VOper:=⟨some t,some (g,b),.lenS (.t x)⟩
abbrev oB (t x:Nat):VOper:=⟨some t,none,.box (.t x)⟩
abbrev zB (t g:Nat) (b:Bool) (x:Nat):VOper:=⟨some t,some (g,b),.box (.t x)⟩
abbrev oF (t n x:Nat):VOper:=⟨some t,none,.fieldAddr n (.t x)⟩
abbrev zF (t g:Nat) (b:Bool) (n x:Nat):VOper:=⟨some t,some (g,b),.fieldAddr n (.t x)⟩
abbrev oK (t n x:Nat):VOper:=⟨some t,none,.loadN n (.t x)⟩
abbrev zK (t g:Nat) (b:Bool) (n x:Nat):VOper:=⟨some t,some (g,b),.loadN n (.t x)⟩
abbrev oX (t n x:Nat):VOper:=⟨some t,none,.extract n (.t x)⟩
abbrev zX (t g:Nat) (b:Bool) (n x:Nat):VOper:=⟨some t,some (g,b),.extract n (.t x)⟩
abbrev bQ (o:BinOp) (x y:Nat):VOp:=.bin .num o (.t x) (.t y)
abbrev sQ (l:List VOper) (c:VCode):VCode:=.seq (.ops l) c
abbrev oq (t:Nat) (x:VOp):VOper:=⟨some t,none,x⟩
abbrev og (t g:Nat) (b:Bool) (x:VOp):VOper:=⟨some t,some (g,b),x⟩
abbrev ki (n:Int):Opd:=.c (.int .i64 n)
def md:FuncId→VM.Mode:=fun f=>bif Nat.beq f 7 then .shared else bif Nat.beq f 8 then .shared else bif Nat.beq f 11 then .shared else bif Nat.beq f 13 then .shared else bif Nat.beq f 15 then .shared else bif Nat.beq f 18 then .shared else bif Nat.beq f 19 then .shared else bif Nat.beq f 21 then .shared else bif Nat.beq f 22 then .shared else bif Nat.beq f 23 then .shared else bif Nat.beq f 25 then .shared else bif Nat.beq f 32 then .shared else bif Nat.beq f 33 then .shared else bif Nat.beq f 36 then .shared else bif Nat.beq f 60 then .shared else bif Nat.beq f 61 then .shared else bif Nat.beq f 62 then .shared else bif Nat.beq f 63 then .shared else bif Nat.beq f 64 then .shared else bif Nat.beq f 65 then .shared else bif Nat.beq f 67 then .shared else bif Nat.beq f 68 then .shared else bif Nat.beq f 69 then .shared else bif Nat.beq f 70 then .shared else bif Nat.beq f 71 then .shared else bif Nat.beq f 72 then .shared else bif Nat.beq f 77 then .shared else bif Nat.beq f 78 then .shared else bif Nat.beq f 79 then .shared else bif Nat.beq f 80 then .shared else bif Nat.beq f 81 then .shared else bif Nat.beq f 92 then .shared else bif Nat.beq f 93 then .shared else bif Nat.beq f 94 then .shared else bif Nat.beq f 95 then .shared else bif Nat.beq f 96 then .shared else bif Nat.beq f 97 then .shared else bif Nat.beq f 98 then .shared else bif Nat.beq f 99 then .shared else bif Nat.beq f 100 then .shared else bif Nat.beq f 103 then .shared else bif Nat.beq f 106 then .shared else bif Nat.beq f 110 then .shared else bif Nat.beq f 112 then .shared else bif Nat.beq f 113 then .shared else bif Nat.beq f 119 then .shared else bif Nat.beq f 120 then .shared else bif Nat.beq f 121 then .shared else bif Nat.beq f 122 then .shared else bif Nat.beq f 128 then .shared else bif Nat.beq f 73 then .own else bif Nat.beq f 91 then .own else .pure
def c3:VCode:=
 sQ [oq 4 (.mov (.c (.bool false)))] <|
 .seq (sQ [oq 27 (.call .pure 5 []),oq 28 (.un .not (.t 27))] <|
 .cond (.t 28) (sQ [oq 4 (.mov (.c (.bool false)))] <|
 .ret) (.skip)) <|
 .seq (sQ [oM 29 0,oq 30 (.call .pure 6 [(.t 29)])] <|
 .cond (.t 30) (sQ [oq 4 (.mov (.c (.bool true)))] <|
 .ret) (.skip)) <|
 sQ [oq 32 (.call .shared 7 [(ki 65556)]),oM 31 32,oX 33 0 31,oX 34 1 31,oM 5 33,oM 6 34] <|
 sQ [oM 36 5,oq 37 (.call .shared 8 [(.t 36)]),oM 35 37,oX 38 0 35,oX 39 1 35,oM 7 38,oM 8 39] <|
 sQ [oq 40 (.call .pure 10 [(ki 65556)]),oq 41 (.call .pure 9 [(.t 40)]),oq 9 (.alloc [(.str ⟨#[]⟩),(.str ⟨#[]⟩),(.int .i64 0),(.bool false),(.int .i64 0),(.sl .nil 0 []),(.int .i64 0),(.int .i64 0),(.sl .nil 0 []),(.sl .nil 0 [])]),⟨none,none,.storeN 10 (.t 9) (.t 41)⟩] <|
 .seq (sQ [oM 42 0,oS 43 42,oq 44 (.mov (ki 0))] <|
 .block 0 (.loop (sQ [oq 45 (bQ .lss 44 43)] <|
 .seq (.cond (.t 45) (.skip) (.exit 0)) <|
 .seq (.block 1 (sQ [oq 46 (.idxAddrS 6 (.t 42) (.t 44)),oK 47 6 46,oq 11 (.alloc [(.int .i64 0),(.int .i64 0),(.int .i64 0),(.sl .nil 0 []),(.sl .nil 0 []),(.sl .nil 0 [])]),⟨none,none,.storeN 6 (.t 11) (.t 47)⟩] <|
 .seq (sQ [oF 48 0 11,oL 49 48,oq 50 (.conv .u64 (.t 49)),oq 51 (.bin .num .rem (.t 50) (.c (.int .u64 7))),oM 12 51] <|
 .block 2 (sQ [oM 68 12,oq 69 (.bin .num .eql (.t 68) (.c (.int .u64 3))),oM 67 69] <|
 .cond (.t 67) (sQ [oM 70 5,oF 71 1 11,oL 72 71,oq 73 (.call .shared 11 [(.t 70),(.t 72)])] <|
 .ops [oF 74 0 9,oK 75 6 74,oF 76 1 11,oL 77 76,oq 78 (.call .pure 12 [(.t 75),(.t 77)]),oF 79 0 9,⟨none,none,.storeN 6 (.t 79) (.t 78)⟩]) (sQ [oM 81 12,oq 82 (.bin .num .eql (.t 81) (.c (.int .u64 4))),oM 83 82,zM 84 83 false 12,og 85 83 false (.bin .num .eql (.t 84) (.c (.int .u64 6))),oq 86 (.pick (.t 83) (.c (.bool true)) (.t 85)),oM 80 86] <|
 .cond (.t 80) (.seq (sQ [oM 87 12,oq 88 (.bin .num .eql (.t 87) (.c (.int .u64 4)))] <|
 .cond (.t 88) (sQ [oM 89 5,oq 90 (.call .shared 13 [(.t 89)])] <|
 .ops [oF 91 0 9,oK 92 6 91,oq 93 (.call .pure 14 [(.t 92)]),oF 94 0 9,⟨none,none,.storeN 6 (.t 94) (.t 93)⟩]) (.skip)) <|
 sQ [oM 96 5,oq 97 (.call .shared 8 [(.t 96)]),oM 95 97,oX 98 0 95,oX 99 1 95,oM 13 98,oM 14 99] <|
 .seq (sQ [oF 100 0 9,oF 101 3 100,oL 102 101] <|
 .cond (.t 102) (.seq (sQ [oM 103 14,oq 104 (.bin .num .neq (.t 103) (ki 26)),oM 105 104,zM 106 105 false 13,og 107 105 false (.bin .ptr .neq (.t 106) (.c .nilp)),oq 108 (.pick (.t 105) (.c (.bool true)) (.t 107))] <|
 .cond (.t 108) (sQ [oq 4 (.mov (.c (.bool false)))] <|
 .ret) (.skip)) <|
 .exit 1) (.skip)) <|
 .seq (sQ [oM 109 14,oq 110 (.bin .num .neq (.t 109) (ki 0))] <|
 .cond (.t 110) (sQ [oq 4 (.mov (.c (.bool false)))] <|
 .ret) (.skip)) <|
 .ops [oM 111 13,oF 112 0 9,oK 113 6 112,oq 114 (.call .pure 9 [(.t 113)]),oM 7 111,⟨none,none,.storeN 10 (.t 9) (.t 114)⟩]) (sQ [oM 116 12,oq 117 (.bin .num .eql (.t 116) (.c (.int .u64 5))),oM 115 117] <|
 .cond (.t 115) (sQ [oM 118 5,oF 119 1 11,oL 120 119,oq 121 (.bin .num .and (.t 120) (ki 1)),oF 122 5 11,oL 123 122,oq 124 (.call .shared 15 [(.t 118),(.t 121),(.t 123)]),oM 15 124] <|
 sQ [oF 126 0 9,oK 127 6 126,oF 128 1 11,oL 129 128,oq 130 (.bin .num .and (.t 129) (ki 1)),oF 131 5 11,oL 132 131,oq 133 (.strOfP (.t 132)),oq 134 (.call .pure 16 [(.t 127),(.t 130),(.t 133)]),oM 125 134,oX 135 0 125,oX 136 1 125,oq 16 (.alloc [(.str ⟨#[]⟩),(.str ⟨#[]⟩),(.int .i64 0),(.bool false),(.int .i64 0),(.sl .nil 0 [])]),⟨none,none,.storeN 6 (.t 16) (.t 135)⟩,oM 17 136] <|
 sQ [oK 137 6 16,oF 138 0 9,⟨none,none,.storeN 6 (.t 138) (.t 137)⟩] <|
 sQ [oM 139 15,oM 140 17,oq 141 (bQ .neq 139 140)] <|
 .cond (.t 141) (sQ [oq 4 (.mov (.c (.bool false)))] <|
 .ret) (.skip)) (sQ [oK 53 10 9,oF 54 2 11,oK 55 3 54,oq 56 (.call .pure 17 [(.t 53),(.t 55)]),oM 52 56,oX 57 0 52,oX 58 1 52,oq 18 (.alloc [(.str ⟨#[]⟩),(.str ⟨#[]⟩),(.int .i64 0),(.bool false),(.int .i64 0),(.sl .nil 0 []),(.int .i64 0),(.int .i64 0),(.sl .nil 0 []),(.sl .nil 0 [])]),⟨none,none,.storeN 10 (.t 18) (.t 57)⟩,oM 19 58] <|
 .seq (sQ [oM 59 7,oF 60 2 11,oK 61 3 60,oq 62 (.call .shared 18 [(.t 59),(.t 61)]),oM 20 62] <|
 sQ [oM 63 20,oM 64 19,oq 65 (bQ .neq 63 64)] <|
 .cond (.t 65) (sQ [oq 4 (.mov (.c (.bool false)))] <|
 .ret) (.skip)) <|
 .ops [oK 66 10 18,⟨none,none,.storeN 10 (.t 9) (.t 66)⟩]))))) <|
 .seq (.draw [] [oM 142 7,oq 143 (.call .shared 19 [(.t 142)]),oF 144 6 9,oL 145 144,oq 146 (bQ .neq 143 145),oM 147 146,zM 148 147 false 7,og 149 147 false (.call .shared 21 [(.t 148)]),zF 150 147 false 7 9,zK 151 147 false 3 150,og 152 147 false (.call .pure 20 [(.t 149),(.t 151)]),og 153 147 false (.un .not (.t 152)),oq 154 (.pick (.t 147) (.c (.bool true)) (.t 153)),oM 155 154,zM 156 155 false 5,og 157 155 false (.call .shared 22 [(.t 156)]),zF 158 155 false 0 9,zF 159 155 false 3 158,zL 160 155 false 159,og 161 155 false (.bin .bool .neq (.t 157) (.t 160)),oq 162 (.pick (.t 155) (.c (.bool true)) (.t 161)),oM 163 162,zM 164 163 false 5,og 165 163 false (.call .shared 23 [(.t 164),(ki 0)]),og 166 163 false (.strOfP (.t 165)),zF 167 163 false 0 9,zF 168 163 false 0 167,og 169 163 false (.idxAddrA 2 1 (.t 168) (ki 0)),zL 170 163 false 169,og 171 163 false (bQ .neq 166 170),oq 172 (.pick (.t 163) (.c (.bool true)) (.t 171)),oM 173 172,zM 174 173 false 5,og 175 173 false (.call .shared 23 [(.t 174),(ki 1)]),og 176 173 false (.strOfP (.t 175)),zF 177 173 false 0 9,zF 178 173 false 0 177,og 179 173 false (.idxAddrA 2 1 (.t 178) (ki 1)),zL 180 173 false 179,og 181 173 false (bQ .neq 176 180),oq 182 (.pick (.t 173) (.c (.bool true)) (.t 181))] [(3,1),(9,7),(18,15),(28,23),(38,33)]) <|
 .cond (.t 182) (sQ [oq 4 (.mov (.c (.bool false)))] <|
 .ret) (.skip))) <|
 .ops [oq 183 (.bin .num .add (.t 44) (ki 1)),oM 44 183]))) <|
 sQ [oq 21 (.mov (.c .nilp))] <|
 sQ [oq 185 (.call .shared 7 [(ki 65555)]),oM 184 185,oX 186 0 184,oX 187 1 184,oM 22 186,oM 23 187] <|
 sQ [oM 189 22,oq 190 (.call .shared 8 [(.t 189)]),oM 188 190,oX 191 0 188,oX 192 1 188,oM 24 191,oM 25 192] <|
 sQ [oq 26 (.mov (ki 0))] <|
 .seq (sQ [oM 193 1,oq 194 (.bin .num .gtr (.t 193) (ki 0))] <|
 .cond (.t 194) (.ops [oM 195 1,oq 196 (.bin .num .rem (.t 195) (ki 2)),oM 26 196]) (.skip)) <|
 sQ [oM 197 25,oq 198 (.bin .num .eql (.t 197) (ki 2)),oM 199 198,zM 200 199 true 1,og 201 199 true (.call .pure 24 [(.t 200)]),zM 202 199 true 26,og 203 199 true (bQ .eql 201 202),oq 204 (.pick (.t 199) (.t 203) (.c (.bool false))),oM 205 204,zM 206 205 true 21,og 207 205 true (.build [(.int .i64 0),(.sl .nil 0 []),(.sl .nil 0 [])] []),og 208 205 true (.call .shared 18 [(.t 206),(.t 207)]),og 209 205 true (.bin .num .eql (.t 208) (ki 1)),oq 210 (.pick (.t 205) (.t 209) (.c (.bool false))),oM 211 210,zM 212 211 true 21,og 213 211 true (.call .shared 19 [(.t 212)]),og 214 211 true (.bin .num .eql (.t 213) (ki 0)),oq 215 (.pick (.t 211) (.t 214) (.c (.bool false))),oM 216 215,zM 217 216 true 21,og 218 216 true (.call .shared 25 [(.t 217)]),og 219 216 true (.bin .ptr .eql (.t 218) (.c .nilp)),oq 220 (.pick (.t 216) (.t 219) (.c (.bool false))),oM 221 220,zM 222 221 true 21,og 223 221 true (.call .shared 21 [(.t 222)]),og 224 221 true (.field1 1 (.t 223)),zS 225 221 true 224,og 226 221 true (.bin .num .eql (.t 225) (ki 0)),oq 227 (.pick (.t 221) (.t 226) (.c (.bool false))),oM 4 227] <|
 .ret
def v3:VFunc:=⟨228,[.tmp 4],c3⟩
def c5:VCode:=
 sQ [oq 0 (.mov (.c (.bool false)))] <|
 sQ [oq 12 (.call .pure 31 []),oq 13 (.call .shared 7 [(.t 12)]),oM 11 13,oX 14 0 11,oX 15 1 11,oM 1 14,oM 2 15] <|
 sQ [oM 17 1,oq 18 (.call .shared 8 [(.t 17)]),oM 16 18,oX 19 0 16,oX 20 1 16,oM 3 19,oM 4 20] <|
 sQ [oq 22 (.call .shared 8 [(.c .nilp)]),oM 21 22,oX 23 0 21,oX 24 1 21,oM 5 23,oM 6 24] <|
 sQ [oM 25 3,oq 26 (.build [(.int .i64 0),(.sl .nil 0 []),(.sl .nil 0 [])] [(0,1,(ki 7))]),oq 27 (.call .shared 18 [(.t 25),(.t 26)]),oM 7 27] <|
 sQ [oM 28 1,oq 29 (.call .shared 11 [(.t 28),(ki 3)])] <|
 sQ [oM 30 3,oq 31 (.build [(.int .i64 0),(.sl .nil 0 []),(.sl .nil 0 [])] [(0,1,(ki 8))]),oq 32 (.call .shared 18 [(.t 30),(.t 31)]),oM 8 32] <|
 sQ [oM 33 1,oq 34 (.call .shared 13 [(.t 33)])] <|
 sQ [oM 36 1,oq 37 (.call .shared 8 [(.t 36)]),oM 35 37,oX 38 0 35,oX 39 1 35,oM 9 38,oM 10 39] <|
 sQ [oM 40 4,oq 41 (.bin .num .eql (.t 40) (ki 0)),oM 42 41,zM 43 42 true 6,og 44 42 true (.bin .num .eql (.t 43) (ki 1)),oq 45 (.pick (.t 42) (.t 44) (.c (.bool false))),oM 46 45,zM 47 46 true 7,og 48 46 true (.bin .num .eql (.t 47) (ki 0)),oq 49 (.pick (.t 46) (.t 48) (.c (.bool false))),oM 50 49,zM 51 50 true 8,og 52 50 true (.bin .num .eql (.t 51) (ki 26)),oq 53 (.pick (.t 50) (.t 52) (.c (.bool false))),oM 54 53,zM 55 54 true 3,og 56 54 true (.call .shared 19 [(.t 55)]),og 57 54 true (.bin .num .eql (.t 56) (ki 1)),oq 58 (.pick (.t 54) (.t 57) (.c (.bool false))),oM 59 58,zM 60 59 true 10,og 61 59 true (.bin .num .eql (.t 60) (ki 0)),oq 62 (.pick (.t 59) (.t 61) (.c (.bool false))),oM 63 62,zM 64 63 true 9,og 65 63 true (.call .shared 19 [(.t 64)]),og 66 63 true (.bin .num .eql (.t 65) (ki 1)),oq 67 (.pick (.t 63) (.t 66) (.c (.bool false))),oM 68 67,zM 69 68 true 9,og 70 68 true (.call .shared 21 [(.t 69)]),og 71 68 true (.field1 0 (.t 70)),og 72 68 true (.bin .num .eql (.t 71) (ki 7)),oq 73 (.pick (.t 68) (.t 72) (.c (.bool false))),oM 74 73,og 75 74 true (.call .pure 24 [(ki 3)]),og 76 74 true (.bin .num .eql (.t 75) (ki 1)),oq 77 (.pick (.t 74) (.t 76) (.c (.bool false))),oM 78 77,og 79 78 true (.call .pure 31 []),og 80 78 true (.bin .num .eql (.t 79) (ki 65556)),oq 81 (.pick (.t 78) (.t 80) (.c (.bool false))),oM 82 81,zM 83 82 true 9,og 84 82 true (.call .shared 25 [(.t 83)]),zM 85 82 true 1,og 86 82 true (.bin .ptr .eql (.t 84) (.t 85)),oq 87 (.pick (.t 82) (.t 86) (.c (.bool false))),oM 0 87] <|
 .ret
def v5:VFunc:=⟨88,[.tmp 0],c5⟩
def c6:VCode:=
 sQ [oq 2 (.mov (.c (.bool false)))] <|
 sQ [oq 3 (.mov (ki 0))] <|
 .seq (sQ [oM 6 0,oS 7 6,oq 8 (.mov (ki 0))] <|
 .block 0 (.loop (sQ [oq 9 (bQ .lss 8 7)] <|
 .seq (.cond (.t 9) (.skip) (.exit 0)) <|
 .seq (.block 1 (sQ [oq 10 (.idxAddrS 6 (.t 6) (.t 8)),oK 11 6 10,oq 5 (.alloc [(.int .i64 0),(.int .i64 0),(.int .i64 0),(.sl .nil 0 []),(.sl .nil 0 []),(.sl .nil 0 [])]),⟨none,none,.storeN 6 (.t 5) (.t 11)⟩] <|
 sQ [oM 12 3,oF 13 2 5,oK 14 3 13,oq 15 (.call .pure 26 [(.t 14)]),oq 16 (.bin .num .add (ki 20) (.t 15)),oF 17 5 5,oL 18 17,oS 19 18,oq 20 (bQ .add 16 19),oq 21 (bQ .add 12 20),oM 3 21] <|
 sQ [oM 22 3,oq 23 (.bin .num .gtr (.t 22) (ki 12000))] <|
 .cond (.t 23) (sQ [oq 2 (.mov (.c (.bool true)))] <|
 .ret) (.skip))) <|
 .ops [oq 24 (.bin .num .add (.t 8) (ki 1)),oM 8 24]))) <|
 sQ [oM 25 0,oS 26 25,oq 27 (.bin .num .gtr (.t 26) (ki 16)),oM 2 27] <|
 .ret
def v6:VFunc:=⟨28,[.tmp 2],c6⟩
def c7:VCode:=
 sQ [oq 2 (.mov (.c .nilp)),oq 3 (.mov (ki 0))] <|
 .seq (sQ [oM 4 0,oq 5 (.bin .num .lss (.t 4) (ki 16)),oM 6 5,zM 7 6 false 0,og 8 6 false (.bin .num .gtr (.t 7) (ki 262144)),oq 9 (.pick (.t 6) (.c (.bool true)) (.t 8))] <|
 .cond (.t 9) (sQ [oq 2 (.mov (.c .nilp)),oq 3 (.mov (ki 2))] <|
 .ret) (.skip)) <|
 .seq (.draw [(11,.m 1 [oM 10 0] 1 [(.int .u8 0)] (.t 10)),(13,.m 3 [oM 12 0] 1 [(.int .u8 0)] (.t 12))] [oM 10 0,⟨none,none,.idleX (.t 10)⟩,oM 12 0,⟨none,none,.idleX (.t 12)⟩,oq 14 (.build [(.sl .nil 0 []),(.sl .nil 0 [])] [(0,1,(.t 11)),(1,1,(.t 13))]),oq 15 (.build [(.sl .nil 0 []),(.sl .nil 0 []),(.int .i64 0),(.bool false),(.int .i64 0),(.sl .nil 0 [])] [(0,2,(.t 14)),(2,1,(.c (.int .i64 (-1))))]),oB 16 15,oM 2 16,oq 3 (.mov (ki 0))] []) <|
 .ret
def v7:VFunc:=⟨17,[.tmp 2,.tmp 3],c7⟩
def c8:VCode:=
 sQ [oq 2 (.mov (.c .nilp)),oq 3 (.mov (ki 0))] <|
 .seq (.block 0 (sQ [oM 9 0,oq 10 (.bin .ptr .eql (.t 9) (.c .nilp)),oM 8 10] <|
 .cond (.t 8) (sQ [oq 2 (.mov (.c .nilp)),oq 3 (.mov (ki 1))] <|
 .ret) (sQ [oM 12 0,oq 13 (.call .shared 32 [(.t 12)]),oq 14 (.call .pure 31 []),oq 15 (bQ .lss 13 14),oM 11 15] <|
 .cond (.t 11) (sQ [oq 2 (.mov (.c .nilp)),oq 3 (.mov (ki 2))] <|
 .ret) (sQ [oM 17 0,oq 18 (.call .shared 22 [(.t 17)]),oM 16 18] <|
 .cond (.t 16) (sQ [oq 2 (.mov (.c .nilp)),oq 3 (.mov (ki 26))] <|
 .ret) (.skip))))) <|
 sQ [oM 19 0,oq 20 (.build [.nilp,(.int .i64 0),(.sl .nil 0 [])] [(0,1,(.t 19))]),oB 21 20,oM 4 21] <|
 .seq (sQ [oq 22 (.mov (ki 0))] <|
 .block 1 (.loop (sQ [oq 23 (.bin .num .lss (.t 22) (ki 2))] <|
 .seq (.cond (.t 23) (.skip) (.exit 1)) <|
 .seq (.block 2 (sQ [oM 24 22,oM 5 24] <|
 sQ [oM 26 0,oM 27 5,oq 28 (.call .shared 33 [(.t 26),(.t 27)]),oM 25 28,oX 29 0 25,oX 30 1 25,oM 6 29,oM 7 30] <|
 sQ [oM 31 6,oM 32 4,oH 33 32,oF 34 1 33,oL 35 34,oq 36 (bQ .gtr 31 35)] <|
 .cond (.t 36) (.ops [oM 37 4,oM 38 4,oM 39 6,oM 40 7,oH 41 37,oF 42 1 41,⟨none,none,.store1 (.t 42) (.t 39)⟩,oH 43 38,oF 44 2 43,⟨none,none,.store1 (.t 44) (.t 40)⟩]) (.skip))) <|
 .ops [oq 45 (.bin .num .add (.t 22) (ki 1)),oM 22 45]))) <|
 sQ [oM 46 4,oM 2 46,oq 3 (.mov (ki 0))] <|
 .ret
def v8:VFunc:=⟨47,[.tmp 2,.tmp 3],c8⟩
def c9:VCode:=
 sQ [oB 1 0,oq 2 (.alloc [(.str ⟨#[]⟩),(.str ⟨#[]⟩),(.int .i64 0),(.bool false),(.int .i64 0),(.sl .nil 0 []),(.int .i64 0),(.int .i64 0),(.sl .nil 0 []),(.sl .nil 0 [])])] <|
 sQ [oK 10 6 1,oq 11 (.build [(.str ⟨#[]⟩),(.str ⟨#[]⟩),(.int .i64 0),(.bool false),(.int .i64 0),(.sl .nil 0 []),(.int .i64 0),(.int .i64 0),(.sl .nil 0 []),(.sl .nil 0 [])] [(0,6,(.t 10))]),oq 3 (.alloc [(.str ⟨#[]⟩),(.str ⟨#[]⟩),(.int .i64 0),(.bool false),(.int .i64 0),(.sl .nil 0 []),(.int .i64 0),(.int .i64 0),(.sl .nil 0 []),(.sl .nil 0 [])]),⟨none,none,.storeN 10 (.t 3) (.t 11)⟩] <|
 .seq (sQ [oq 4 (.mov (ki 0))] <|
 .block 0 (.loop (.seq (sQ [oM 12 4,oq 13 (.bin .num .lss (.t 12) (ki 2))] <|
 .cond (.t 13) (.skip) (.exit 0)) <|
 .seq (.block 1 (sQ [oM 17 4,oF 18 0 1,oq 19 (.idxAddrA 2 1 (.t 18) (.t 17)),oL 20 19,oq 21 (.call .pure 34 [(.t 20)]),oM 16 21,oX 22 0 16,oX 23 1 16,oX 24 2 16,oM 5 22,oM 6 23,oM 7 24] <|
 .seq (sQ [oM 25 7,oq 26 (.bin .num .neq (.t 25) (ki 0)),oM 27 26,zM 28 27 false 5,zF 29 27 false 6 3,zL 30 27 false 29,og 31 27 false (bQ .leq 28 30),oq 32 (.pick (.t 27) (.c (.bool true)) (.t 31))] <|
 .cond (.t 32) (.exit 1) (.skip)) <|
 sQ [oM 34 6,oq 35 (.call .pure 35 [(.t 34)]),oM 33 35,oX 36 0 33,oX 37 1 33,oq 8 (.alloc [(.int .i64 0),(.sl .nil 0 []),(.sl .nil 0 [])]),⟨none,none,.storeN 3 (.t 8) (.t 36)⟩,oM 9 37] <|
 sQ [oM 38 9,oq 39 (.bin .num .eql (.t 38) (ki 0))] <|
 .cond (.t 39) (sQ [oM 40 5,oF 41 6 3,⟨none,none,.store1 (.t 41) (.t 40)⟩] <|
 .ops [oK 42 3 8,oF 43 7 3,⟨none,none,.storeN 3 (.t 43) (.t 42)⟩]) (.skip))) <|
 .ops [oM 14 4,oq 15 (.bin .num .add (.t 14) (ki 1)),oM 4 15]))) <|
 sQ [oK 44 10 3,⟨none,none,.storeN 10 (.t 2) (.t 44)⟩] <|
 .ret
def v9:VFunc:=⟨45,[.cellN 10 2],c9⟩
def c10:VCode:=
 sQ [oq 2 (.alloc [(.str ⟨#[]⟩),(.str ⟨#[]⟩),(.int .i64 0),(.bool false),(.int .i64 0),(.sl .nil 0 [])])] <|
 sQ [oM 4 0,oq 5 (.mkSlice false 1 [(.int .u8 0)] (.t 4) (.t 4)),oq 6 (.strOfP (.t 5)),oM 3 6] <|
 sQ [oM 7 3,oM 8 3,oq 9 (.build [(.str ⟨#[]⟩),(.str ⟨#[]⟩)] [(0,1,(.t 7)),(1,1,(.t 8))]),oq 10 (.build [(.str ⟨#[]⟩),(.str ⟨#[]⟩),(.int .i64 0),(.bool false),(.int .i64 0),(.sl .nil 0 [])] [(0,2,(.t 9)),(2,1,(.c (.int .i64 (-1))))]),⟨none,none,.storeN 6 (.t 2) (.t 10)⟩] <|
 .ret
def v10:VFunc:=⟨11,[.cellN 6 2],c10⟩
def c11:VCode:=
 sQ [oM 4 0,oq 5 (.bin .ptr .neq (.t 4) (.c .nilp))] <|
 .cond (.t 5) (.ops [oM 6 0,oM 7 1,oq 8 (.minmax true [(.t 7),(.c (.int .i64 (-1)))]),oH 9 6,oF 10 2 9,⟨none,none,.store1 (.t 10) (.t 8)⟩]) (.skip)
def v11:VFunc:=⟨11,[],c11⟩
def c12:VCode:=
 sQ [oB 2 0,oq 4 (.alloc [(.str ⟨#[]⟩),(.str ⟨#[]⟩),(.int .i64 0),(.bool false),(.int .i64 0),(.sl .nil 0 [])])] <|
 sQ [oM 5 1,oF 6 2 2,⟨none,none,.store1 (.t 6) (.t 5)⟩] <|
 .seq (sQ [oM 7 1,oq 8 (.bin .num .lss (.t 7) (ki 0))] <|
 .cond (.t 8) (.ops [oF 9 2 2,⟨none,none,.store1 (.t 9) (.c (.int .i64 (-1)))⟩]) (.skip)) <|
 sQ [oK 10 6 2,⟨none,none,.storeN 6 (.t 4) (.t 10)⟩] <|
 .ret
def v12:VFunc:=⟨11,[.cellN 6 4],c12⟩
def c13:VCode:=
 sQ [oM 2 0,oq 3 (.bin .ptr .neq (.t 2) (.c .nilp))] <|
 .cond (.t 3) (.ops [oM 4 0,oM 5 0,oH 6 4,oF 7 3 6,⟨none,none,.store1 (.t 7) (.c (.bool false))⟩,oH 8 5,oF 9 2 8,⟨none,none,.store1 (.t 9) (.c (.int .i64 (-1)))⟩]) (.skip)
def v13:VFunc:=⟨10,[],c13⟩
def c14:VCode:=
 sQ [oB 1 0,oq 2 (.alloc [(.str ⟨#[]⟩),(.str ⟨#[]⟩),(.int .i64 0),(.bool false),(.int .i64 0),(.sl .nil 0 [])])] <|
 sQ [oF 3 3 1,⟨none,none,.store1 (.t 3) (.c (.bool false))⟩] <|
 sQ [oF 4 2 1,⟨none,none,.store1 (.t 4) (.c (.int .i64 (-1)))⟩] <|
 sQ [oK 5 6 1,⟨none,none,.storeN 6 (.t 2) (.t 5)⟩] <|
 .ret
def v14:VFunc:=⟨6,[.cellN 6 2],c14⟩
def c15:VCode:=
 sQ [oq 6 (.mov (ki 0))] <|
 .seq (sQ [oM 9 0,oM 10 1,oq 11 (.call .shared 36 [(.t 9),(.t 10)]),oM 7 11] <|
 sQ [oM 12 7,oq 13 (.bin .num .neq (.t 12) (ki 0))] <|
 .cond (.t 13) (sQ [oM 14 7,oM 6 14] <|
 .ret) (.skip)) <|
 .seq (sQ [oM 15 2,oS 16 15,oM 17 0,oq 18 (.call .shared 32 [(.t 17)]),oq 19 (bQ .gtr 16 18)] <|
 .cond (.t 19) (sQ [oq 6 (.mov (ki 2))] <|
 .ret) (.skip)) <|
 sQ [oM 20 0,oM 21 0,oH 22 21,oF 23 5 22,oL 24 23,oM 25 2,oq 26 (.call .pure 37 [(.t 25)]),oq 27 (.buildSlice false 1 1 [(.sl .nil 0 [])] [(0,1,(.t 26))]),oq 28 (.append false false 1 24 (.t 24) (.t 27)),oH 29 20,oF 30 5 29,⟨none,none,.store1 (.t 30) (.t 28)⟩] <|
 sQ [oM 31 2,oS 32 31,oM 8 32] <|
 .seq (sQ [oM 33 0,oH 34 33,oF 35 2 34,oL 36 35,oq 37 (.bin .num .geq (.t 36) (ki 0)),oM 38 37,zM 39 38 true 0,zH 40 38 true 39,zF 41 38 true 2 40,zL 42 38 true 41,zM 43 38 true 8,og 44 38 true (bQ .leq 42 43),oq 45 (.pick (.t 38) (.t 44) (.c (.bool false)))] <|
 .cond (.t 45) (.ops [oM 46 0,oM 47 0,oH 48 47,oF 49 2 48,oL 50 49,oM 8 50,oH 51 46,oF 52 3 51,⟨none,none,.store1 (.t 52) (.c (.bool true))⟩]) (.skip)) <|
 sQ [oM 53 0,oM 54 1,oH 55 53,oF 56 0 55,oq 57 (.idxAddrA 2 1 (.t 56) (.t 54)),oL 58 57,oM 59 2,oM 60 8,oq 61 (.sliceS 1 (.t 59) none (some (.t 60)) none),oq 62 (.copy false 1 (.t 58) (.t 61))] <|
 sQ [oM 63 0,oH 64 63,oF 65 4 64,oL 66 65,oM 67 8,oq 68 (bQ .add 66 67),oH 69 63,oF 70 4 69,⟨none,none,.store1 (.t 70) (.t 68)⟩] <|
 .seq (sQ [oM 71 0,oH 72 71,oF 73 2 72,oL 74 73,oq 75 (.bin .num .gtr (.t 74) (ki 0))] <|
 .cond (.t 75) (.ops [oM 76 0,oH 77 76,oF 78 2 77,oL 79 78,oM 80 8,oq 81 (bQ .sub 79 80),oH 82 76,oF 83 2 82,⟨none,none,.store1 (.t 83) (.t 81)⟩]) (.skip)) <|
 .seq (sQ [oM 84 0,oH 85 84,oF 86 3 85,oL 87 86] <|
 .cond (.t 87) (sQ [oq 6 (.mov (ki 26))] <|
 .ret) (.skip)) <|
 sQ [oq 6 (.mov (ki 0))] <|
 .ret
def v15:VFunc:=⟨88,[.tmp 6],c15⟩
def c16:VCode:=
 sQ [oB 3 0,oq 6 (.alloc [(.str ⟨#[]⟩),(.str ⟨#[]⟩),(.int .i64 0),(.bool false),(.int .i64 0),(.sl .nil 0 [])]),oq 7 (.mov (ki 0))] <|
 .seq (sQ [oF 9 3 3,oL 10 9] <|
 .cond (.t 10) (sQ [oK 11 6 3,⟨none,none,.storeN 6 (.t 6) (.t 11)⟩,oq 7 (.mov (ki 26))] <|
 .ret) (.skip)) <|
 .seq (sQ [oM 12 1,oq 13 (.bin .num .neq (.t 12) (ki 0)),oM 14 13,zM 15 14 true 1,og 16 14 true (.bin .num .neq (.t 15) (ki 1)),oq 17 (.pick (.t 14) (.t 16) (.c (.bool false))),oM 18 17,zM 19 18 false 2,og 20 18 false (.lenStr (.t 19)),zF 21 18 false 0 3,og 22 18 false (.idxAddrA 2 1 (.t 21) (ki 0)),zL 23 18 false 22,og 24 18 false (.lenStr (.t 23)),og 25 18 false (bQ .gtr 20 24),oq 26 (.pick (.t 18) (.c (.bool true)) (.t 25))] <|
 .cond (.t 26) (sQ [oK 27 6 3,⟨none,none,.storeN 6 (.t 6) (.t 27)⟩,oq 7 (.mov (ki 2))] <|
 .ret) (.skip)) <|
 sQ [oq 28 (.buildSlice false 1 0 [] []),oF 29 5 3,oL 30 29,oq 31 (.append false false 1 16 (.t 28) (.t 30)),oM 32 2,oq 33 (.buildSlice false 1 1 [(.str ⟨#[]⟩)] [(0,1,(.t 32))]),oq 34 (.append false false 1 16 (.t 31) (.t 33)),oF 35 5 3,⟨none,none,.store1 (.t 35) (.t 34)⟩] <|
 sQ [oq 8 (.mov (ki 0))] <|
 .seq (.block 0 (.loop (.seq (sQ [oM 36 8,oM 37 2,oq 38 (.lenStr (.t 37)),oq 39 (bQ .lss 36 38),oM 40 39,zF 41 40 true 2 3,zL 42 40 true 41,og 43 40 true (.bin .num .neq (.t 42) (ki 0)),oq 44 (.pick (.t 40) (.t 43) (.c (.bool false)))] <|
 .cond (.t 44) (.skip) (.exit 0)) <|
 .block 1 (sQ [oM 45 8,oq 46 (.bin .num .add (.t 45) (ki 1)),oM 8 46] <|
 sQ [oF 47 2 3,oL 48 47,oq 49 (.bin .num .gtr (.t 48) (ki 0))] <|
 .cond (.t 49) (.ops [oF 50 2 3,oL 51 50,oq 52 (.bin .num .sub (.t 51) (ki 1)),oF 53 2 3,⟨none,none,.store1 (.t 53) (.t 52)⟩]) (.skip))))) <|
 sQ [oM 54 1,oM 55 2,oM 56 8,oq 57 (.sliceStr (.t 55) none (some (.t 56))),oM 58 1,oF 59 0 3,oq 60 (.idxAddrA 2 1 (.t 59) (.t 58)),oL 61 60,oM 62 8,oq 63 (.sliceStr (.t 61) (some (.t 62)) none),oq 64 (bQ .add 57 63),oF 65 0 3,oq 66 (.idxAddrA 2 1 (.t 65) (.t 54)),⟨none,none,.store1 (.t 66) (.t 64)⟩] <|
 sQ [oF 67 4 3,oL 68 67,oM 69 8,oq 70 (bQ .add 68 69),oF 71 4 3,⟨none,none,.store1 (.t 71) (.t 70)⟩] <|
 .seq (sQ [oF 72 2 3,oL 73 72,oq 74 (.bin .num .eql (.t 73) (ki 0))] <|
 .cond (.t 74) (sQ [oF 75 3 3,⟨none,none,.store1 (.t 75) (.c (.bool true))⟩] <|
 sQ [oK 76 6 3,⟨none,none,.storeN 6 (.t 6) (.t 76)⟩,oq 7 (.mov (ki 26))] <|
 .ret) (.skip)) <|
 sQ [oK 77 6 3,⟨none,none,.storeN 6 (.t 6) (.t 77)⟩,oq 7 (.mov (ki 0))] <|
 .ret
def v16:VFunc:=⟨78,[.cellN 6 6,.tmp 7],c16⟩
def c17:VCode:=
 sQ [oB 2 0,oB 3 1,oq 4 (.alloc [(.str ⟨#[]⟩),(.str ⟨#[]⟩),(.int .i64 0),(.bool false),(.int .i64 0),(.sl .nil 0 []),(.int .i64 0),(.int .i64 0),(.sl .nil 0 []),(.sl .nil 0 [])]),oq 5 (.mov (ki 0))] <|
 .seq (sQ [oK 8 3 3,oq 9 (.call .pure 27 [(.t 8)]),oq 10 (.un .not (.t 9)),oM 11 10,zK 12 11 false 3 3,og 13 11 false (.call .pure 29 [(.t 12)]),og 14 11 false (.lenStr (.t 13)),og 15 11 false (.bin .num .gtr (.t 14) (ki 65536)),oq 16 (.pick (.t 11) (.c (.bool true)) (.t 15))] <|
 .cond (.t 16) (sQ [oK 17 10 2,⟨none,none,.storeN 10 (.t 4) (.t 17)⟩,oq 5 (.mov (ki 2))] <|
 .ret) (.skip)) <|
 .seq (sQ [oF 18 6 2,oL 19 18,oq 20 (.bin .num .geq (.t 19) (ki 1152921504606846976))] <|
 .cond (.t 20) (sQ [oK 21 10 2,⟨none,none,.storeN 10 (.t 4) (.t 21)⟩,oq 5 (.mov (ki 15))] <|
 .ret) (.skip)) <|
 .seq (.draw [(6,.z [(.str ⟨#[]⟩),(.str ⟨#[]⟩),(.int .i64 0),(.bool false),(.int .i64 0),(.sl .nil 0 [])])] [oF 23 0 2,oK 24 6 23,oF 25 6 2,oL 26 25,oq 27 (.bin .num .add (.t 26) (ki 1)),oq 28 (.bin .num .rem (.t 27) (ki 2)),oF 29 6 2,oL 30 29,oq 31 (.bin .num .add (.t 30) (ki 1)),oK 32 3 3,oq 33 (.call .pure 29 [(.t 32)]),oq 34 (.call .pure 28 [(.t 31),(.t 33)]),oq 35 (.call .pure 16 [(.t 24),(.t 28),(.t 34)]),oM 22 35,oX 36 0 22,oX 37 1 22,⟨none,none,.idle⟩,⟨none,none,.storeN 6 (.t 6) (.t 36)⟩,oM 7 37] []) <|
 sQ [oK 38 6 6,oF 39 0 2,⟨none,none,.storeN 6 (.t 39) (.t 38)⟩] <|
 .seq (sQ [oM 40 7,oq 41 (.bin .num .eql (.t 40) (ki 0))] <|
 .cond (.t 41) (sQ [oF 42 6 2,oL 43 42,oq 44 (.bin .num .add (.t 43) (ki 1)),oF 45 6 2,⟨none,none,.store1 (.t 45) (.t 44)⟩] <|
 .ops [oK 46 3 3,oF 47 7 2,⟨none,none,.storeN 3 (.t 47) (.t 46)⟩]) (.skip)) <|
 sQ [oK 48 10 2,oM 49 7,⟨none,none,.storeN 10 (.t 4) (.t 48)⟩,oM 5 49] <|
 .ret
def v17:VFunc:=⟨50,[.cellN 10 4,.tmp 5],c17⟩
def c18:VCode:=
 sQ [oB 3 1,oq 4 (.mov (ki 0))] <|
 .seq (sQ [oM 7 0,oq 8 (.bin .ptr .eql (.t 7) (.c .nilp))] <|
 .cond (.t 8) (sQ [oq 4 (.mov (ki 1))] <|
 .ret) (.skip)) <|
 sQ [oK 9 3 3,oq 10 (.call .pure 38 [(.t 9)]),oM 5 10] <|
 .seq (.block 0 (sQ [oM 12 5,oS 13 12,oq 14 (.bin .num .eql (.t 13) (ki 0)),oM 15 14,zM 16 15 false 5,zS 17 15 false 16,og 18 15 false (.bin .num .gtr (.t 17) (ki 65536)),oq 19 (.pick (.t 15) (.c (.bool true)) (.t 18)),oM 11 19] <|
 .cond (.t 11) (sQ [oq 4 (.mov (ki 2))] <|
 .ret) (sQ [oM 21 0,oH 22 21,oF 23 1 22,oL 24 23,oq 25 (.bin .num .geq (.t 24) (ki 1152921504606846976)),oM 20 25] <|
 .cond (.t 20) (sQ [oq 4 (.mov (ki 15))] <|
 .ret) (.skip)))) <|
 .seq (sQ [oM 26 0,oH 27 26,oF 28 0 27,oL 29 28,oM 30 0,oH 31 30,oF 32 1 31,oL 33 32,oq 34 (.bin .num .add (.t 33) (ki 1)),oq 35 (.call .pure 24 [(.t 34)]),oM 36 0,oH 37 36,oF 38 1 37,oL 39 38,oq 40 (.bin .num .add (.t 39) (ki 1)),oM 41 5,oq 42 (.call .pure 39 [(.t 40),(.t 41)]),oq 43 (.call .shared 15 [(.t 29),(.t 35),(.t 42)]),oM 6 43] <|
 sQ [oM 44 6,oq 45 (.bin .num .neq (.t 44) (ki 0))] <|
 .cond (.t 45) (sQ [oM 46 6,oM 4 46] <|
 .ret) (.skip)) <|
 sQ [oM 47 0,oM 48 0,oM 49 0,oH 50 49,oF 51 1 50,oL 52 51,oq 53 (.bin .num .add (.t 52) (ki 1)),oM 54 5,oH 55 47,oF 56 1 55,⟨none,none,.store1 (.t 56) (.t 53)⟩,oH 57 48,oF 58 2 57,⟨none,none,.store1 (.t 58) (.t 54)⟩] <|
 sQ [oq 4 (.mov (ki 0))] <|
 .ret
def v18:VFunc:=⟨59,[.tmp 4],c18⟩
def c19:VCode:=
 sQ [oq 2 (.mov (ki 0))] <|
 .seq (sQ [oM 3 0,oq 4 (.bin .ptr .eql (.t 3) (.c .nilp))] <|
 .cond (.t 4) (sQ [oq 2 (.mov (ki 0))] <|
 .ret) (.skip)) <|
 sQ [oM 5 0,oH 6 5,oF 7 1 6,oL 8 7,oM 2 8] <|
 .ret
def v19:VFunc:=⟨9,[.tmp 2],c19⟩
def c20:VCode:=
 sQ [oB 2 0,oB 3 1,oq 4 (.mov (.c (.bool false)))] <|
 .seq (sQ [oF 10 0 2,oL 11 10,oF 12 0 3,oL 13 12,oq 14 (bQ .neq 11 13),oM 15 14,zF 16 15 false 1 2,zL 17 15 false 16,zS 18 15 false 17,zF 19 15 false 1 3,zL 20 15 false 19,zS 21 15 false 20,og 22 15 false (bQ .neq 18 21),oq 23 (.pick (.t 15) (.c (.bool true)) (.t 22)),oM 24 23,zF 25 24 false 2 2,zL 26 24 false 25,zS 27 24 false 26,zF 28 24 false 2 3,zL 29 24 false 28,zS 30 24 false 29,og 31 24 false (bQ .neq 27 30),oq 32 (.pick (.t 24) (.c (.bool true)) (.t 31))] <|
 .cond (.t 32) (sQ [oq 4 (.mov (.c (.bool false)))] <|
 .ret) (.skip)) <|
 .seq (sQ [oF 33 1 2,oL 34 33,oS 35 34,oq 36 (.mov (ki 0))] <|
 .block 0 (.loop (sQ [oq 37 (bQ .lss 36 35)] <|
 .seq (.cond (.t 37) (.skip) (.exit 0)) <|
 .seq (.block 1 (sQ [oM 38 36,oq 39 (.idxAddrS 10 (.t 34) (.t 36)),oK 40 10 39,oq 6 (.alloc [(.str ⟨#[]⟩),(.int .i64 0),(.int .i64 0),(.sl .nil 0 []),(.str ⟨#[]⟩),(.int .i64 0),(.int .i64 0),(.sl .nil 0 []),(.int .i64 0),(.int .i64 0)]),oM 5 38,⟨none,none,.storeN 10 (.t 6) (.t 40)⟩] <|
 sQ [oF 41 1 3,oL 42 41,oM 43 5,oq 44 (.idxAddrS 10 (.t 42) (.t 43)),oK 45 10 44,oq 7 (.alloc [(.str ⟨#[]⟩),(.int .i64 0),(.int .i64 0),(.sl .nil 0 []),(.str ⟨#[]⟩),(.int .i64 0),(.int .i64 0),(.sl .nil 0 []),(.int .i64 0),(.int .i64 0)]),⟨none,none,.storeN 10 (.t 7) (.t 45)⟩] <|
 sQ [oF 46 0 6,oK 47 4 46,oF 48 0 7,oK 49 4 48,oq 50 (.call .pure 40 [(.t 47),(.t 49)]),oq 51 (.un .not (.t 50)),oM 52 51,zF 53 52 false 4 6,zK 54 52 false 4 53,zF 55 52 false 4 7,zK 56 52 false 4 55,og 57 52 false (.call .pure 40 [(.t 54),(.t 56)]),og 58 52 false (.un .not (.t 57)),oq 59 (.pick (.t 52) (.c (.bool true)) (.t 58)),oM 60 59,zF 61 60 false 8 6,zL 62 60 false 61,zF 63 60 false 8 7,zL 64 60 false 63,og 65 60 false (bQ .neq 62 64),oq 66 (.pick (.t 60) (.c (.bool true)) (.t 65)),oM 67 66,zF 68 67 false 9 6,zL 69 67 false 68,zF 70 67 false 9 7,zL 71 67 false 70,og 72 67 false (bQ .neq 69 71),oq 73 (.pick (.t 67) (.c (.bool true)) (.t 72))] <|
 .cond (.t 73) (sQ [oq 4 (.mov (.c (.bool false)))] <|
 .ret) (.skip))) <|
 .ops [oq 74 (.bin .num .add (.t 36) (ki 1)),oM 36 74]))) <|
 .seq (sQ [oF 75 2 2,oL 76 75,oS 77 76,oq 78 (.mov (ki 0))] <|
 .block 2 (.loop (sQ [oq 79 (bQ .lss 78 77)] <|
 .seq (.cond (.t 79) (.skip) (.exit 2)) <|
 .seq (.block 3 (sQ [oM 80 78,oq 81 (.idxAddrS 11 (.t 76) (.t 78)),oK 82 11 81,oq 9 (.alloc [(.str ⟨#[]⟩),(.str ⟨#[]⟩),(.int .i64 0),(.int .i64 0),(.int .i64 0),(.int .i64 0),(.int .i64 0),(.int .i64 0),(.int .i64 0),(.int .i64 0),(.int .i64 0)]),oM 8 80,⟨none,none,.storeN 11 (.t 9) (.t 82)⟩] <|
 sQ [oK 83 11 9,oF 84 2 3,oL 85 84,oM 86 8,oq 87 (.idxAddrS 11 (.t 85) (.t 86)),oK 88 11 87,oq 89 (.bin (.agg [.s,.s,.i,.i,.i,.i,.i,.i,.i,.i,.i]) .neq (.t 83) (.t 88))] <|
 .cond (.t 89) (sQ [oq 4 (.mov (.c (.bool false)))] <|
 .ret) (.skip))) <|
 .ops [oq 90 (.bin .num .add (.t 78) (ki 1)),oM 78 90]))) <|
 sQ [oq 4 (.mov (.c (.bool true)))] <|
 .ret
def v20:VFunc:=⟨91,[.tmp 4],c20⟩
def c21:VCode:=
 sQ [oq 2 (.alloc [(.int .i64 0),(.sl .nil 0 []),(.sl .nil 0 [])])] <|
 .seq (sQ [oM 5 0,oq 6 (.bin .ptr .eql (.t 5) (.c .nilp)),oM 7 6,zM 8 7 false 0,zH 9 7 false 8,zF 10 7 false 1 9,zL 11 7 false 10,og 12 7 false (.bin .num .eql (.t 11) (ki 0)),oq 13 (.pick (.t 7) (.c (.bool true)) (.t 12))] <|
 .cond (.t 13) (sQ [oq 14 (.build [(.int .i64 0),(.sl .nil 0 []),(.sl .nil 0 [])] []),⟨none,none,.storeN 3 (.t 2) (.t 14)⟩] <|
 .ret) (.skip)) <|
 sQ [oM 16 0,oH 17 16,oF 18 2 17,oL 19 18,oq 20 (.call .pure 41 [(.t 19)]),oM 15 20,oX 21 0 15,oX 22 1 15,oq 3 (.alloc [(.int .i64 0),(.sl .nil 0 []),(.sl .nil 0 [])]),⟨none,none,.storeN 3 (.t 3) (.t 21)⟩,oM 4 22] <|
 sQ [oK 23 3 3,⟨none,none,.storeN 3 (.t 2) (.t 23)⟩] <|
 .ret
def v21:VFunc:=⟨24,[.cellN 3 2],c21⟩
def c22:VCode:=
 sQ [oq 2 (.mov (.c (.bool false)))] <|
 sQ [oM 3 0,oq 4 (.bin .ptr .neq (.t 3) (.c .nilp)),oM 5 4,zM 6 5 true 0,zH 7 5 true 6,zF 8 5 true 3 7,zL 9 5 true 8,oq 10 (.pick (.t 5) (.t 9) (.c (.bool false))),oM 2 10] <|
 .ret
def v22:VFunc:=⟨11,[.tmp 2],c22⟩
def c23:VCode:=
 sQ [oq 4 (.mov (.c (.sl .nil 0 [])))] <|
 .seq (sQ [oM 5 0,oq 6 (.bin .ptr .eql (.t 5) (.c .nilp)),oM 7 6,zM 8 7 false 1,og 9 7 false (.bin .num .lss (.t 8) (ki 0)),oq 10 (.pick (.t 7) (.c (.bool true)) (.t 9)),oM 11 10,zM 12 11 false 1,og 13 11 false (.bin .num .geq (.t 12) (ki 2)),oq 14 (.pick (.t 11) (.c (.bool true)) (.t 13))] <|
 .cond (.t 14) (sQ [oq 4 (.mov (.c (.sl .nil 0 [])))] <|
 .ret) (.skip)) <|
 sQ [oM 15 0,oM 16 1,oH 17 15,oF 18 0 17,oq 19 (.idxAddrA 2 1 (.t 18) (.t 16)),oL 20 19,oq 21 (.call (.lend false) 37 [(.t 20)]),oM 4 21] <|
 .ret
def v23:VFunc:=⟨22,[.tmp 4],c23⟩
def c24:VCode:=
 sQ [oq 2 (.mov (ki 0))] <|
 .seq (sQ [oM 3 0,oq 4 (.bin .num .lss (.t 3) (ki 0))] <|
 .cond (.t 4) (sQ [oq 2 (.mov (ki 0))] <|
 .ret) (.skip)) <|
 sQ [oM 5 0,oq 6 (.bin .num .rem (.t 5) (ki 2)),oM 2 6] <|
 .ret
def v24:VFunc:=⟨7,[.tmp 2],c24⟩
def c25:VCode:=
 sQ [oq 2 (.mov (.c .nilp))] <|
 .seq (sQ [oM 3 0,oq 4 (.bin .ptr .eql (.t 3) (.c .nilp))] <|
 .cond (.t 4) (sQ [oq 2 (.mov (.c .nilp))] <|
 .ret) (.skip)) <|
 sQ [oM 5 0,oH 6 5,oF 7 0 6,oL 8 7,oM 2 8] <|
 .ret
def v25:VFunc:=⟨9,[.tmp 2],c25⟩
def c26:VCode:=
 sQ [oB 1 0,oq 2 (.mov (ki 0))] <|
 sQ [oF 8 2 1,oL 9 8,oS 10 9,oq 11 (.minmax false [(.t 10),(ki 500)]),oq 12 (.bin .num .mul (ki 20) (.t 11)),oM 3 12] <|
 .seq (sQ [oF 13 1 1,oL 14 13,oS 15 14,oq 16 (.mov (ki 0))] <|
 .block 0 (.loop (sQ [oq 17 (bQ .lss 16 15)] <|
 .seq (.cond (.t 17) (.skip) (.exit 0)) <|
 .seq (.block 1 (sQ [oM 18 16,oq 19 (.idxAddrS 10 (.t 14) (.t 16)),oK 20 10 19,oq 5 (.alloc [(.str ⟨#[]⟩),(.int .i64 0),(.int .i64 0),(.sl .nil 0 []),(.str ⟨#[]⟩),(.int .i64 0),(.int .i64 0),(.sl .nil 0 []),(.int .i64 0),(.int .i64 0)]),oM 4 18,⟨none,none,.storeN 10 (.t 5) (.t 20)⟩] <|
 .seq (sQ [oM 21 4,oq 22 (.bin .num .gtr (.t 21) (ki 30))] <|
 .cond (.t 22) (sQ [oq 2 (.mov (ki 20000))] <|
 .ret) (.skip)) <|
 .ops [oM 23 3,oF 24 0 5,oK 25 4 24,oq 26 (.call .pure 42 [(.t 25)]),oq 27 (.bin .num .add (ki 10) (.t 26)),oF 28 4 5,oK 29 4 28,oq 30 (.call .pure 42 [(.t 29)]),oq 31 (bQ .add 27 30),oq 32 (bQ .add 23 31),oM 3 32])) <|
 .ops [oq 33 (.bin .num .add (.t 16) (ki 1)),oM 16 33]))) <|
 .seq (sQ [oF 34 2 1,oL 35 34,oS 36 35,oq 37 (.mov (ki 0))] <|
 .block 2 (.loop (sQ [oq 38 (bQ .lss 37 36)] <|
 .seq (.cond (.t 38) (.skip) (.exit 2)) <|
 .seq (.block 3 (sQ [oq 39 (.idxAddrS 11 (.t 35) (.t 37)),oK 40 11 39,oq 7 (.alloc [(.str ⟨#[]⟩),(.str ⟨#[]⟩),(.int .i64 0),(.int .i64 0),(.int .i64 0),(.int .i64 0),(.int .i64 0),(.int .i64 0),(.int .i64 0),(.int .i64 0),(.int .i64 0)]),⟨none,none,.storeN 11 (.t 7) (.t 40)⟩] <|
 sQ [oM 41 3,oF 42 0 7,oF 43 0 42,oL 44 43,oq 45 (.lenStr (.t 44)),oF 46 0 7,oF 47 1 46,oL 48 47,oq 49 (.lenStr (.t 48)),oq 50 (bQ .add 45 49),oq 51 (.minmax false [(.t 50),(ki 5000)]),oq 52 (bQ .add 41 51),oM 3 52] <|
 sQ [oM 53 3,oq 54 (.bin .num .gtr (.t 53) (ki 20000))] <|
 .cond (.t 54) (sQ [oM 55 3,oM 2 55] <|
 .ret) (.skip))) <|
 .ops [oq 56 (.bin .num .add (.t 37) (ki 1)),oM 37 56]))) <|
 sQ [oM 57 3,oM 2 57] <|
 .ret
def v26:VFunc:=⟨58,[.tmp 2],c26⟩
def c27:VCode:=
 sQ [oB 1 0,oq 2 (.mov (.c (.bool false)))] <|
 .seq (sQ [oF 12 0 1,oL 13 12,oq 14 (.bin .num .lss (.t 13) (ki 0)),oM 15 14,zF 16 15 false 0 1,zL 17 15 false 16,og 18 15 false (.bin .num .gtr (.t 17) (ki 1099511627776)),oq 19 (.pick (.t 15) (.c (.bool true)) (.t 18)),oM 20 19,zF 21 20 false 1 1,zL 22 20 false 21,zS 23 20 false 22,og 24 20 false (.bin .num .gtr (.t 23) (ki 16)),oq 25 (.pick (.t 20) (.c (.bool true)) (.t 24))] <|
 .cond (.t 25) (sQ [oq 2 (.mov (.c (.bool false)))] <|
 .ret) (.skip)) <|
 .seq (sQ [oF 26 1 1,oL 27 26,oS 28 27,oq 29 (.mov (ki 0))] <|
 .block 0 (.loop (sQ [oq 30 (bQ .lss 29 28)] <|
 .seq (.cond (.t 30) (.skip) (.exit 0)) <|
 .seq (.block 1 (sQ [oM 31 29,oq 32 (.idxAddrS 10 (.t 27) (.t 29)),oK 33 10 32,oq 4 (.alloc [(.str ⟨#[]⟩),(.int .i64 0),(.int .i64 0),(.sl .nil 0 []),(.str ⟨#[]⟩),(.int .i64 0),(.int .i64 0),(.sl .nil 0 []),(.int .i64 0),(.int .i64 0)]),oM 3 31,⟨none,none,.storeN 10 (.t 4) (.t 33)⟩] <|
 .seq (sQ [oK 34 10 4,oq 35 (.call .pure 43 [(.t 34)]),oq 36 (.un .not (.t 35)),oM 37 36,zF 38 37 false 8 4,zL 39 37 false 38,zF 40 37 false 0 1,zL 41 37 false 40,og 42 37 false (bQ .geq 39 41),oq 43 (.pick (.t 37) (.c (.bool true)) (.t 42))] <|
 .cond (.t 43) (sQ [oq 2 (.mov (.c (.bool false)))] <|
 .ret) (.skip)) <|
 sQ [oF 44 1 1,oL 45 44,oM 46 3,oq 47 (.sliceS 10 (.t 45) none (some (.t 46)) none),oS 48 47,oq 49 (.mov (ki 0))] <|
 .block 2 (.loop (sQ [oq 50 (bQ .lss 49 48)] <|
 .seq (.cond (.t 50) (.skip) (.exit 2)) <|
 .seq (.block 3 (sQ [oq 51 (.idxAddrS 10 (.t 47) (.t 49)),oK 52 10 51,oq 6 (.alloc [(.str ⟨#[]⟩),(.int .i64 0),(.int .i64 0),(.sl .nil 0 []),(.str ⟨#[]⟩),(.int .i64 0),(.int .i64 0),(.sl .nil 0 []),(.int .i64 0),(.int .i64 0)]),⟨none,none,.storeN 10 (.t 6) (.t 52)⟩] <|
 sQ [oF 53 8 6,oL 54 53,oF 55 8 4,oL 56 55,oq 57 (bQ .eql 54 56),oM 58 57,zF 59 58 false 0 6,zF 60 58 false 0 59,zL 61 58 false 60,zF 62 58 false 0 4,zF 63 58 false 0 62,zL 64 58 false 63,og 65 58 false (bQ .geq 61 64),oq 66 (.pick (.t 58) (.c (.bool true)) (.t 65))] <|
 .cond (.t 66) (sQ [oq 2 (.mov (.c (.bool false)))] <|
 .ret) (.skip))) <|
 .ops [oq 67 (.bin .num .add (.t 49) (ki 1)),oM 49 67])))) <|
 .ops [oq 68 (.bin .num .add (.t 29) (ki 1)),oM 29 68]))) <|
 .seq (sQ [oF 69 2 1,oL 70 69,oS 71 70,oq 72 (.mov (ki 0))] <|
 .block 4 (.loop (sQ [oq 73 (bQ .lss 72 71)] <|
 .seq (.cond (.t 73) (.skip) (.exit 4)) <|
 .seq (.block 5 (sQ [oM 74 72,oq 75 (.idxAddrS 11 (.t 70) (.t 72)),oK 76 11 75,oq 8 (.alloc [(.str ⟨#[]⟩),(.str ⟨#[]⟩),(.int .i64 0),(.int .i64 0),(.int .i64 0),(.int .i64 0),(.int .i64 0),(.int .i64 0),(.int .i64 0),(.int .i64 0),(.int .i64 0)]),oM 7 74,⟨none,none,.storeN 11 (.t 8) (.t 76)⟩] <|
 sQ [oK 77 3 1,oF 78 0 8,oF 79 0 78,oL 80 79,oq 81 (.call .pure 44 [(.t 77),(.t 80)]),oM 9 81] <|
 .seq (sQ [oM 82 9,oq 83 (.bin .num .lss (.t 82) (ki 0)),oM 84 83,zF 85 84 false 1 1,zL 86 84 false 85,zM 87 84 false 9,og 88 84 false (.idxAddrS 10 (.t 86) (.t 87)),zF 89 84 false 0 88,zK 90 84 false 4 89,zF 91 84 false 0 8,zF 92 84 false 1 91,zL 93 84 false 92,og 94 84 false (.call .pure 45 [(.t 90),(.t 93)]),og 95 84 false (.bin .num .lss (.t 94) (ki 0)),oq 96 (.pick (.t 84) (.c (.bool true)) (.t 95)),oM 97 96,zF 98 97 false 0 8,zF 99 97 false 2 98,zL 100 97 false 99,og 101 97 false (.bin .num .lss (.t 100) (ki 0)),oq 102 (.pick (.t 97) (.c (.bool true)) (.t 101)),oM 103 102,zF 104 103 false 0 8,zF 105 103 false 2 104,zL 106 103 false 105,og 107 103 false (.bin .num .gtr (.t 106) (ki 1)),oq 108 (.pick (.t 103) (.c (.bool true)) (.t 107)),oM 109 108,zF 110 109 false 3 8,zK 111 109 false 8 110,og 112 109 false (.build [(.int .i64 0),(.int .i64 0),(.int .i64 0),(.int .i64 0),(.int .i64 0),(.int .i64 0),(.int .i64 0),(.int .i64 0)] []),og 113 109 false (.bin (.agg [.i,.i,.i,.i,.i,.i,.i,.i]) .eql (.t 111) (.t 112)),oq 114 (.pick (.t 109) (.c (.bool true)) (.t 113))] <|
 .cond (.t 114) (sQ [oq 2 (.mov (.c (.bool false)))] <|
 .ret) (.skip)) <|
 .seq (sQ [oF 115 3 8,oK 116 8 115,oq 117 (.mov (ki 0))] <|
 .block 6 (.loop (sQ [oq 118 (.bin .num .lss (.t 117) (ki 8))] <|
 .seq (.cond (.t 118) (.skip) (.exit 6)) <|
 .seq (.block 7 (sQ [oq 119 (.idxA1 8 (.t 116) (.t 117)),oM 11 119] <|
 sQ [oM 120 11,oq 121 (.bin .num .lss (.t 120) (ki 0)),oM 122 121,zM 123 122 false 11,og 124 122 false (.bin .num .gtr (.t 123) (ki 1073741824)),oq 125 (.pick (.t 122) (.c (.bool true)) (.t 124))] <|
 .cond (.t 125) (sQ [oq 2 (.mov (.c (.bool false)))] <|
 .ret) (.skip))) <|
 .ops [oq 126 (.bin .num .add (.t 117) (ki 1)),oM 117 126]))) <|
 sQ [oM 127 7,oq 128 (.bin .num .gtr (.t 127) (ki 0)),oM 129 128,zF 130 129 true 2 1,zL 131 129 true 130,zM 132 129 true 7,og 133 129 true (.bin .num .sub (.t 132) (ki 1)),og 134 129 true (.idxAddrS 11 (.t 131) (.t 133)),zF 135 129 true 0 134,zK 136 129 true 3 135,zF 137 129 true 0 8,zK 138 129 true 3 137,og 139 129 true (.call .pure 46 [(.t 136),(.t 138)]),og 140 129 true (.un .not (.t 139)),oq 141 (.pick (.t 129) (.t 140) (.c (.bool false)))] <|
 .cond (.t 141) (sQ [oq 2 (.mov (.c (.bool false)))] <|
 .ret) (.skip))) <|
 .ops [oq 142 (.bin .num .add (.t 72) (ki 1)),oM 72 142]))) <|
 sQ [oq 2 (.mov (.c (.bool true)))] <|
 .ret
def v27:VFunc:=⟨143,[.tmp 2],c27⟩
def c28:VCode:=
 sQ [oq 4 (.mov (.c (.str ⟨#[]⟩)))] <|
 sQ [oM 6 0,oq 7 (.conv .u64 (.t 6)),oq 8 (.call .pure 47 [(.t 7),(ki 8)]),oq 9 (.bin .num .add (.c (.str ⟨#[66,82,84,72]⟩)) (.t 8)),oM 10 1,oq 11 (.lenStr (.t 10)),oq 12 (.conv .u64 (.t 11)),oq 13 (.call .pure 47 [(.t 12),(ki 4)]),oq 14 (bQ .add 9 13),oM 15 1,oq 16 (bQ .add 14 15),oM 5 16] <|
 sQ [oM 17 5,oM 18 5,oq 19 (.call .pure 49 [(.t 18)]),oq 20 (.call .pure 48 [(.t 19)]),oq 21 (bQ .add 17 20),oM 4 21] <|
 .ret
def v28:VFunc:=⟨22,[.tmp 4],c28⟩
def c29:VCode:=
 sQ [oB 1 0,oq 2 (.mov (.c (.str ⟨#[]⟩)))] <|
 sQ [oF 13 0 1,oL 14 13,oq 15 (.conv .u64 (.t 14)),oq 16 (.call .pure 50 [(.t 15)]),oF 17 1 1,oL 18 17,oS 19 18,oq 20 (.conv .u64 (.t 19)),oq 21 (.call .pure 50 [(.t 20)]),oq 22 (bQ .add 16 21),oM 3 22] <|
 .seq (sQ [oF 23 1 1,oL 24 23,oS 25 24,oq 26 (.mov (ki 0))] <|
 .block 0 (.loop (sQ [oq 27 (bQ .lss 26 25)] <|
 .seq (.cond (.t 27) (.skip) (.exit 0)) <|
 .seq (.block 1 (sQ [oq 28 (.idxAddrS 10 (.t 24) (.t 26)),oK 29 10 28,oq 5 (.alloc [(.str ⟨#[]⟩),(.int .i64 0),(.int .i64 0),(.sl .nil 0 []),(.str ⟨#[]⟩),(.int .i64 0),(.int .i64 0),(.sl .nil 0 []),(.int .i64 0),(.int .i64 0)]),⟨none,none,.storeN 10 (.t 5) (.t 29)⟩] <|
 sQ [oM 30 3,oF 31 0 5,oF 32 0 31,oL 33 32,oq 34 (.call .pure 51 [(.t 33)]),oF 35 0 5,oF 36 1 35,oL 37 36,oq 38 (.call .pure 52 [(.t 37)]),oq 39 (bQ .add 34 38),oF 40 0 5,oF 41 2 40,oL 42 41,oq 43 (.conv .u64 (.t 42)),oq 44 (.call .pure 50 [(.t 43)]),oq 45 (bQ .add 39 44),oF 46 0 5,oF 47 3 46,oL 48 47,oS 49 48,oq 50 (.conv .u64 (.t 49)),oq 51 (.call .pure 50 [(.t 50)]),oq 52 (bQ .add 45 51),oq 53 (bQ .add 30 52),oM 3 53] <|
 .seq (sQ [oF 54 0 5,oF 55 3 54,oL 56 55,oS 57 56,oq 58 (.mov (ki 0))] <|
 .block 2 (.loop (sQ [oq 59 (bQ .lss 58 57)] <|
 .seq (.cond (.t 59) (.skip) (.exit 2)) <|
 .seq (.block 3 (sQ [oM 60 58,oq 61 (.idxAddrS 10 (.t 56) (.t 58)),oK 62 10 61,oq 7 (.alloc [(.str ⟨#[]⟩),(.int .i64 0),(.int .i64 0),(.int .i64 0),(.int .i64 0),(.int .i64 0),(.int .i64 0),(.bool false),(.bool false),(.bool false)]),oM 6 60,⟨none,none,.storeN 10 (.t 7) (.t 62)⟩] <|
 sQ [oF 63 4 5,oF 64 3 63,oL 65 64,oM 66 6,oq 67 (.idxAddrS 10 (.t 65) (.t 66)),oK 68 10 67,oq 8 (.alloc [(.str ⟨#[]⟩),(.int .i64 0),(.int .i64 0),(.int .i64 0),(.int .i64 0),(.int .i64 0),(.int .i64 0),(.bool false),(.bool false),(.bool false)]),⟨none,none,.storeN 10 (.t 8) (.t 68)⟩] <|
 sQ [oM 69 3,oF 70 0 7,oL 71 70,oq 72 (.call .pure 51 [(.t 71)]),oF 73 7 7,oq 74 (.idxAddrA 3 1 (.t 73) (ki 0)),oL 75 74,oq 76 (.call .pure 53 [(.t 75)]),oq 77 (bQ .add 72 76),oF 78 7 7,oq 79 (.idxAddrA 3 1 (.t 78) (ki 1)),oL 80 79,oq 81 (.call .pure 53 [(.t 80)]),oq 82 (bQ .add 77 81),oF 83 7 7,oq 84 (.idxAddrA 3 1 (.t 83) (ki 2)),oL 85 84,oq 86 (.call .pure 53 [(.t 85)]),oq 87 (bQ .add 82 86),oq 88 (bQ .add 69 87),oM 3 88] <|
 .ops [oM 89 3,oF 90 1 7,oK 91 3 90,oq 92 (.call .pure 54 [(.t 91)]),oF 93 4 7,oK 94 3 93,oq 95 (.call .pure 54 [(.t 94)]),oq 96 (bQ .add 92 95),oF 97 1 8,oK 98 3 97,oq 99 (.call .pure 54 [(.t 98)]),oq 100 (bQ .add 96 99),oF 101 4 8,oK 102 3 101,oq 103 (.call .pure 54 [(.t 102)]),oq 104 (bQ .add 100 103),oq 105 (bQ .add 89 104),oM 3 105])) <|
 .ops [oq 106 (.bin .num .add (.t 58) (ki 1)),oM 58 106]))) <|
 .ops [oM 107 3,oF 108 8 5,oL 109 108,oq 110 (.conv .u64 (.t 109)),oq 111 (.call .pure 50 [(.t 110)]),oF 112 9 5,oL 113 112,oq 114 (.conv .u64 (.t 113)),oq 115 (.call .pure 50 [(.t 114)]),oq 116 (bQ .add 111 115),oq 117 (bQ .add 107 116),oM 3 117])) <|
 .ops [oq 118 (.bin .num .add (.t 26) (ki 1)),oM 26 118]))) <|
 sQ [oM 119 3,oF 120 2 1,oL 121 120,oS 122 121,oq 123 (.conv .u64 (.t 122)),oq 124 (.call .pure 50 [(.t 123)]),oq 125 (bQ .add 119 124),oM 3 125] <|
 .seq (sQ [oF 126 2 1,oL 127 126,oS 128 127,oq 129 (.mov (ki 0))] <|
 .block 4 (.loop (sQ [oq 130 (bQ .lss 129 128)] <|
 .seq (.cond (.t 130) (.skip) (.exit 4)) <|
 .seq (.block 5 (sQ [oq 131 (.idxAddrS 11 (.t 127) (.t 129)),oK 132 11 131,oq 10 (.alloc [(.str ⟨#[]⟩),(.str ⟨#[]⟩),(.int .i64 0),(.int .i64 0),(.int .i64 0),(.int .i64 0),(.int .i64 0),(.int .i64 0),(.int .i64 0),(.int .i64 0),(.int .i64 0)]),⟨none,none,.storeN 11 (.t 10) (.t 132)⟩] <|
 sQ [oM 133 3,oF 134 0 10,oF 135 0 134,oL 136 135,oq 137 (.call .pure 51 [(.t 136)]),oF 138 0 10,oF 139 1 138,oL 140 139,oq 141 (.call .pure 51 [(.t 140)]),oq 142 (bQ .add 137 141),oF 143 0 10,oF 144 2 143,oL 145 144,oq 146 (.conv .u64 (.t 145)),oq 147 (.call .pure 50 [(.t 146)]),oq 148 (bQ .add 142 147),oq 149 (bQ .add 133 148),oM 3 149] <|
 sQ [oF 150 3 10,oK 151 8 150,oq 152 (.mov (ki 0))] <|
 .block 6 (.loop (sQ [oq 153 (.bin .num .lss (.t 152) (ki 8))] <|
 .seq (.cond (.t 153) (.skip) (.exit 6)) <|
 .seq (.block 7 (sQ [oq 154 (.idxA1 8 (.t 151) (.t 152)),oM 12 154] <|
 .ops [oM 155 3,oM 156 12,oq 157 (.conv .u64 (.t 156)),oq 158 (.call .pure 50 [(.t 157)]),oq 159 (bQ .add 155 158),oM 3 159])) <|
 .ops [oq 160 (.bin .num .add (.t 152) (ki 1)),oM 152 160])))) <|
 .ops [oq 161 (.bin .num .add (.t 129) (ki 1)),oM 129 161]))) <|
 sQ [oM 162 3,oM 2 162] <|
 .ret
def v29:VFunc:=⟨163,[.tmp 2],c29⟩
def c31:VCode:=
 sQ [oq 0 (.mov (ki 0))] <|
 sQ [oq 1 (.call .pure 58 [(ki 65536)]),oM 0 1] <|
 .ret
def v31:VFunc:=⟨2,[.tmp 0],c31⟩
def c32:VCode:=
 sQ [oq 2 (.mov (ki 0))] <|
 .seq (sQ [oM 3 0,oq 4 (.bin .ptr .eql (.t 3) (.c .nilp))] <|
 .cond (.t 4) (sQ [oq 2 (.mov (ki 0))] <|
 .ret) (.skip)) <|
 sQ [oM 5 0,oH 6 5,oF 7 0 6,oq 8 (.idxAddrA 2 1 (.t 7) (ki 0)),oL 9 8,oS 10 9,oM 2 10] <|
 .ret
def v32:VFunc:=⟨11,[.tmp 2],c32⟩
def c33:VCode:=
 sQ [oq 4 (.mov (ki 0)),oq 5 (.mov (.c (.sl .nil 0 [])))] <|
 sQ [oM 12 0,oM 13 1,oq 14 (.call .shared 23 [(.t 12),(.t 13)]),oq 15 (.call .pure 55 [(.t 14)]),oM 11 15,oX 16 0 11,oX 17 1 11,oX 18 2 11,oM 6 16,oM 7 17,oM 8 18] <|
 .seq (sQ [oM 19 8,oq 20 (.bin .num .neq (.t 19) (ki 0))] <|
 .cond (.t 20) (sQ [oq 4 (.mov (ki 0)),oq 5 (.mov (.c (.sl .nil 0 [])))] <|
 .ret) (.skip)) <|
 .seq (sQ [oM 22 7,oq 23 (.call .pure 41 [(.t 22)]),oM 21 23,oX 24 0 21,oX 25 1 21,oq 9 (.alloc [(.int .i64 0),(.sl .nil 0 []),(.sl .nil 0 [])]),⟨none,none,.storeN 3 (.t 9) (.t 24)⟩,oM 10 25] <|
 sQ [oM 26 10,oq 27 (.bin .num .neq (.t 26) (ki 0))] <|
 .cond (.t 27) (sQ [oq 4 (.mov (ki 0)),oq 5 (.mov (.c (.sl .nil 0 [])))] <|
 .ret) (.skip)) <|
 sQ [oM 28 6,oM 29 7,oM 4 28,oM 5 29] <|
 .ret
def v33:VFunc:=⟨30,[.tmp 4,.tmp 5],c33⟩
def c34:VCode:=
 sQ [oq 2 (.mov (ki 0)),oq 3 (.mov (.c (.str ⟨#[]⟩))),oq 4 (.mov (ki 0))] <|
 .seq (sQ [oM 8 0,oq 9 (.lenStr (.t 8)),oq 10 (.bin .num .lss (.t 9) (ki 4))] <|
 .cond (.t 10) (sQ [oq 2 (.mov (ki 0)),oq 3 (.mov (.c (.str ⟨#[]⟩))),oq 4 (.mov (ki 10))] <|
 .ret) (.skip)) <|
 .seq (sQ [oM 11 0,oq 12 (.sliceStr (.t 11) none (some (ki 4))),oq 13 (.bin .num .neq (.t 12) (.c (.str ⟨#[66,82,84,72]⟩)))] <|
 .cond (.t 13) (sQ [oq 2 (.mov (ki 0)),oq 3 (.mov (.c (.str ⟨#[]⟩))),oq 4 (.mov (ki 11))] <|
 .ret) (.skip)) <|
 .seq (sQ [oM 14 0,oq 15 (.lenStr (.t 14)),oq 16 (.bin .num .lss (.t 15) (ki 16))] <|
 .cond (.t 16) (sQ [oq 2 (.mov (ki 0)),oq 3 (.mov (.c (.str ⟨#[]⟩))),oq 4 (.mov (ki 10))] <|
 .ret) (.skip)) <|
 sQ [oM 17 0,oq 18 (.sliceStr (.t 17) (some (ki 4)) (some (ki 12))),oq 19 (.call .pure 59 [(.t 18)]),oM 20 0,oq 21 (.sliceStr (.t 20) (some (ki 12)) (some (ki 16))),oq 22 (.call .pure 59 [(.t 21)]),oM 5 19,oM 6 22] <|
 .seq (sQ [oM 23 5,oq 24 (.bin .num .eql (.t 23) (.c (.int .u64 0))),oM 25 24,zM 26 25 false 5,og 27 25 false (.bin .num .gtr (.t 26) (.c (.int .u64 1152921504606846976))),oq 28 (.pick (.t 25) (.c (.bool true)) (.t 27))] <|
 .cond (.t 28) (sQ [oq 2 (.mov (ki 0)),oq 3 (.mov (.c (.str ⟨#[]⟩))),oq 4 (.mov (ki 11))] <|
 .ret) (.skip)) <|
 .seq (sQ [oM 29 6,oq 30 (.bin .num .gtr (.t 29) (.c (.int .u64 65536)))] <|
 .cond (.t 30) (sQ [oq 2 (.mov (ki 0)),oq 3 (.mov (.c (.str ⟨#[]⟩))),oq 4 (.mov (ki 15))] <|
 .ret) (.skip)) <|
 .seq (sQ [oM 31 0,oq 32 (.lenStr (.t 31)),oq 33 (.conv .u64 (.t 32)),oM 34 6,oq 35 (.bin .num .add (.t 34) (.c (.int .u64 20))),oq 36 (bQ .lss 33 35)] <|
 .cond (.t 36) (sQ [oq 2 (.mov (ki 0)),oq 3 (.mov (.c (.str ⟨#[]⟩))),oq 4 (.mov (ki 10))] <|
 .ret) (.skip)) <|
 sQ [oM 37 0,oM 38 6,oq 39 (.conv .i64 (.t 38)),oq 40 (.bin .num .add (ki 16) (.t 39)),oq 41 (.sliceStr (.t 37) (some (ki 16)) (some (.t 40))),oM 7 41] <|
 .seq (sQ [oM 42 5,oq 43 (.conv .i64 (.t 42)),oM 44 7,oq 45 (.call .pure 28 [(.t 43),(.t 44)]),oM 46 0,oM 47 6,oq 48 (.conv .i64 (.t 47)),oq 49 (.bin .num .add (ki 20) (.t 48)),oq 50 (.sliceStr (.t 46) none (some (.t 49))),oq 51 (bQ .neq 45 50)] <|
 .cond (.t 51) (sQ [oq 2 (.mov (ki 0)),oq 3 (.mov (.c (.str ⟨#[]⟩))),oq 4 (.mov (ki 14))] <|
 .ret) (.skip)) <|
 sQ [oM 52 5,oq 53 (.conv .i64 (.t 52)),oM 54 7,oM 2 53,oM 3 54,oq 4 (.mov (ki 0))] <|
 .ret
def v34:VFunc:=⟨55,[.tmp 2,.tmp 3,.tmp 4],c34⟩
def c35:VCode:=
 sQ [oq 2 (.alloc [(.int .i64 0),(.sl .nil 0 []),(.sl .nil 0 [])]),oq 3 (.mov (ki 0))] <|
 sQ [oM 17 0,oq 18 (.build [(.str ⟨#[]⟩),(.int .i64 0)] [(0,1,(.t 17))]),oB 19 18,oM 4 19] <|
 sQ [oq 5 (.alloc [(.int .i64 0),(.sl .nil 0 []),(.sl .nil 0 [])])] <|
 sQ [oM 20 4,oq 21 (.call .shared 60 [(.t 20),(.c (.int .u64 1099511627776))]),oq 22 (.conv .i64 (.t 21)),oF 23 0 5,⟨none,none,.store1 (.t 23) (.t 22)⟩] <|
 sQ [oM 24 4,oq 25 (.call .shared 60 [(.t 24),(.c (.int .u64 16))]),oq 26 (.conv .i64 (.t 25)),oM 6 26] <|
 .seq (sQ [oq 7 (.mov (ki 0))] <|
 .block 0 (.loop (.seq (sQ [oM 27 7,oM 28 6,oq 29 (bQ .lss 27 28),oM 30 29,zM 31 30 true 4,zH 32 30 true 31,zF 33 30 true 1 32,zL 34 30 true 33,og 35 30 true (.bin .num .eql (.t 34) (ki 0)),oq 36 (.pick (.t 30) (.t 35) (.c (.bool false)))] <|
 .cond (.t 36) (.skip) (.exit 0)) <|
 .seq (.block 1 (sQ [oq 8 (.alloc [(.str ⟨#[]⟩),(.int .i64 0),(.int .i64 0),(.sl .nil 0 [])])] <|
 sQ [oM 39 4,oq 40 (.call .shared 61 [(.t 39),(ki 16)]),oF 41 0 8,⟨none,none,.store1 (.t 41) (.t 40)⟩] <|
 sQ [oM 42 4,oq 43 (.call .shared 62 [(.t 42),(.c (.int .i64 (-1000))),(ki 1000)]),oF 44 1 8,⟨none,none,.store1 (.t 44) (.t 43)⟩] <|
 sQ [oM 45 4,oq 46 (.call .shared 60 [(.t 45),(.c (.int .u64 2))]),oq 47 (.conv .i64 (.t 46)),oF 48 2 8,⟨none,none,.store1 (.t 48) (.t 47)⟩] <|
 sQ [oK 49 4 8,oK 50 4 8,oq 51 (.build [(.str ⟨#[]⟩),(.int .i64 0),(.int .i64 0),(.sl .nil 0 []),(.str ⟨#[]⟩),(.int .i64 0),(.int .i64 0),(.sl .nil 0 []),(.int .i64 0),(.int .i64 0)] [(0,4,(.t 49)),(4,4,(.t 50))]),oq 9 (.alloc [(.str ⟨#[]⟩),(.int .i64 0),(.int .i64 0),(.sl .nil 0 []),(.str ⟨#[]⟩),(.int .i64 0),(.int .i64 0),(.sl .nil 0 []),(.int .i64 0),(.int .i64 0)]),⟨none,none,.storeN 10 (.t 9) (.t 51)⟩] <|
 sQ [oM 52 4,oq 53 (.call .shared 60 [(.t 52),(.c (.int .u64 6))]),oq 54 (.conv .i64 (.t 53)),oM 10 54] <|
 .seq (sQ [oq 11 (.mov (ki 0))] <|
 .block 2 (.loop (.seq (sQ [oM 55 11,oM 56 10,oq 57 (bQ .lss 55 56)] <|
 .cond (.t 57) (.skip) (.exit 2)) <|
 .seq (.block 3 (sQ [oq 12 (.alloc [(.str ⟨#[]⟩),(.int .i64 0),(.int .i64 0),(.int .i64 0),(.int .i64 0),(.int .i64 0),(.int .i64 0),(.bool false),(.bool false),(.bool false)])] <|
 sQ [oM 60 4,oq 61 (.call .shared 61 [(.t 60),(ki 16)]),oF 62 0 12,⟨none,none,.store1 (.t 62) (.t 61)⟩] <|
 sQ [oM 63 4,oq 64 (.call .shared 63 [(.t 63)]),oF 65 7 12,oq 66 (.idxAddrA 3 1 (.t 65) (ki 0)),⟨none,none,.store1 (.t 66) (.t 64)⟩] <|
 sQ [oM 67 4,oq 68 (.call .shared 63 [(.t 67)]),oF 69 7 12,oq 70 (.idxAddrA 3 1 (.t 69) (ki 1)),⟨none,none,.store1 (.t 70) (.t 68)⟩] <|
 sQ [oM 71 4,oq 72 (.call .shared 63 [(.t 71)]),oF 73 7 12,oq 74 (.idxAddrA 3 1 (.t 73) (ki 2)),⟨none,none,.store1 (.t 74) (.t 72)⟩] <|
 sQ [oK 75 10 12,oq 13 (.alloc [(.str ⟨#[]⟩),(.int .i64 0),(.int .i64 0),(.int .i64 0),(.int .i64 0),(.int .i64 0),(.int .i64 0),(.bool false),(.bool false),(.bool false)]),⟨none,none,.storeN 10 (.t 13) (.t 75)⟩] <|
 sQ [oM 76 4,oq 77 (.call .shared 64 [(.t 76)]),oF 78 1 12,⟨none,none,.storeN 3 (.t 78) (.t 77)⟩] <|
 sQ [oM 79 4,oq 80 (.call .shared 64 [(.t 79)]),oF 81 4 12,⟨none,none,.storeN 3 (.t 81) (.t 80)⟩] <|
 sQ [oM 82 4,oq 83 (.call .shared 64 [(.t 82)]),oF 84 1 13,⟨none,none,.storeN 3 (.t 84) (.t 83)⟩] <|
 sQ [oM 85 4,oq 86 (.call .shared 64 [(.t 85)]),oF 87 4 13,⟨none,none,.storeN 3 (.t 87) (.t 86)⟩] <|
 .seq (.draw [] [oq 88 (.buildSlice false 10 0 [] []),oF 89 0 9,oF 90 3 89,oL 91 90,oq 92 (.append false false 10 72 (.t 88) (.t 91)),oK 93 10 12,oq 94 (.buildSlice false 10 1 [(.str ⟨#[]⟩),(.int .i64 0),(.int .i64 0),(.int .i64 0),(.int .i64 0),(.int .i64 0),(.int .i64 0),(.bool false),(.bool false),(.bool false)] [(0,10,(.t 93))]),oq 95 (.append false false 10 72 (.t 92) (.t 94)),oF 96 0 9,oF 97 3 96,⟨none,none,.store1 (.t 97) (.t 95)⟩] [(5,4)]) <|
 .draw [] [oq 98 (.buildSlice false 10 0 [] []),oF 99 4 9,oF 100 3 99,oL 101 100,oq 102 (.append false false 10 72 (.t 98) (.t 101)),oK 103 10 13,oq 104 (.buildSlice false 10 1 [(.str ⟨#[]⟩),(.int .i64 0),(.int .i64 0),(.int .i64 0),(.int .i64 0),(.int .i64 0),(.int .i64 0),(.bool false),(.bool false),(.bool false)] [(0,10,(.t 103))]),oq 105 (.append false false 10 72 (.t 102) (.t 104)),oF 106 4 9,oF 107 3 106,⟨none,none,.store1 (.t 107) (.t 105)⟩] [(5,4)])) <|
 .ops [oM 58 11,oq 59 (.bin .num .add (.t 58) (ki 1)),oM 11 59]))) <|
 sQ [oM 108 4,oq 109 (.call .shared 60 [(.t 108),(.c (.int .u64 1099511627776))]),oq 110 (.conv .i64 (.t 109)),oF 111 8 9,⟨none,none,.store1 (.t 111) (.t 110)⟩] <|
 sQ [oM 112 4,oq 113 (.call .shared 60 [(.t 112),(.c (.int .u64 63))]),oq 114 (.conv .i64 (.t 113)),oF 115 9 9,⟨none,none,.store1 (.t 115) (.t 114)⟩] <|
 .ops [oF 116 1 5,oL 117 116,oK 118 10 9,oq 119 (.buildSlice false 10 1 [(.str ⟨#[]⟩),(.int .i64 0),(.int .i64 0),(.sl .nil 0 []),(.str ⟨#[]⟩),(.int .i64 0),(.int .i64 0),(.sl .nil 0 []),(.int .i64 0),(.int .i64 0)] [(0,10,(.t 118))]),oq 120 (.append false false 10 128 (.t 117) (.t 119)),oF 121 1 5,⟨none,none,.store1 (.t 121) (.t 120)⟩])) <|
 .ops [oM 37 7,oq 38 (.bin .num .add (.t 37) (ki 1)),oM 7 38]))) <|
 sQ [oM 122 4,oq 123 (.call .shared 60 [(.t 122),(.c (.int .u64 192))]),oq 124 (.conv .i64 (.t 123)),oM 6 124] <|
 .seq (sQ [oq 14 (.mov (ki 0))] <|
 .block 4 (.loop (.seq (sQ [oM 125 14,oM 126 6,oq 127 (bQ .lss 125 126),oM 128 127,zM 129 128 true 4,zH 130 128 true 129,zF 131 128 true 1 130,zL 132 128 true 131,og 133 128 true (.bin .num .eql (.t 132) (ki 0)),oq 134 (.pick (.t 128) (.t 133) (.c (.bool false)))] <|
 .cond (.t 134) (.skip) (.exit 4)) <|
 .seq (.block 5 (sQ [oq 15 (.alloc [(.str ⟨#[]⟩),(.str ⟨#[]⟩),(.int .i64 0),(.int .i64 0),(.int .i64 0),(.int .i64 0),(.int .i64 0),(.int .i64 0),(.int .i64 0),(.int .i64 0),(.int .i64 0)])] <|
 sQ [oM 137 4,oq 138 (.call .shared 61 [(.t 137),(ki 16)]),oF 139 0 15,oF 140 0 139,⟨none,none,.store1 (.t 140) (.t 138)⟩] <|
 sQ [oM 141 4,oq 142 (.call .shared 61 [(.t 141),(ki 16)]),oF 143 0 15,oF 144 1 143,⟨none,none,.store1 (.t 144) (.t 142)⟩] <|
 sQ [oM 145 4,oq 146 (.call .shared 60 [(.t 145),(.c (.int .u64 1))]),oq 147 (.conv .i64 (.t 146)),oF 148 0 15,oF 149 2 148,⟨none,none,.store1 (.t 149) (.t 147)⟩] <|
 .seq (sQ [oq 16 (.mov (ki 0))] <|
 .block 6 (.loop (.seq (sQ [oM 150 16,oq 151 (.bin .num .lss (.t 150) (ki 8))] <|
 .cond (.t 151) (.skip) (.exit 6)) <|
 .seq (.block 7 (.ops [oM 154 16,oM 155 4,oq 156 (.call .shared 60 [(.t 155),(.c (.int .u64 1073741824))]),oq 157 (.conv .i64 (.t 156)),oF 158 3 15,oq 159 (.idxAddrA 8 1 (.t 158) (.t 154)),⟨none,none,.store1 (.t 159) (.t 157)⟩])) <|
 .ops [oM 152 16,oq 153 (.bin .num .add (.t 152) (ki 1)),oM 16 153]))) <|
 .ops [oF 160 2 5,oL 161 160,oK 162 11 15,oq 163 (.buildSlice false 11 1 [(.str ⟨#[]⟩),(.str ⟨#[]⟩),(.int .i64 0),(.int .i64 0),(.int .i64 0),(.int .i64 0),(.int .i64 0),(.int .i64 0),(.int .i64 0),(.int .i64 0),(.int .i64 0)] [(0,11,(.t 162))]),oq 164 (.append false false 11 104 (.t 161) (.t 163)),oF 165 2 5,⟨none,none,.store1 (.t 165) (.t 164)⟩])) <|
 .ops [oM 135 14,oq 136 (.bin .num .add (.t 135) (ki 1)),oM 14 136]))) <|
 .seq (sQ [oM 166 4,oH 167 166,oF 168 0 167,oL 169 168,oq 170 (.bin .num .neq (.t 169) (.c (.str ⟨#[]⟩)))] <|
 .cond (.t 170) (.ops [oM 171 4,oq 172 (.call .shared 65 [(.t 171),(ki 13)])]) (.skip)) <|
 .seq (sQ [oM 173 4,oH 174 173,oF 175 1 174,oL 176 175,oq 177 (.bin .num .neq (.t 176) (ki 0))] <|
 .cond (.t 177) (.seq (.draw [] [oq 178 (.build [(.int .i64 0),(.sl .nil 0 []),(.sl .nil 0 [])] []),oM 179 4,oH 180 179,oF 181 1 180,oL 182 181,⟨none,none,.storeN 3 (.t 2) (.t 178)⟩,oM 3 182] [(4,5)]) <|
 .ret) (.skip)) <|
 .seq (sQ [oK 183 3 5,oq 184 (.call .pure 27 [(.t 183)]),oq 185 (.un .not (.t 184))] <|
 .cond (.t 185) (sQ [oq 186 (.build [(.int .i64 0),(.sl .nil 0 []),(.sl .nil 0 [])] []),⟨none,none,.storeN 3 (.t 2) (.t 186)⟩,oq 3 (.mov (ki 11))] <|
 .ret) (.skip)) <|
 sQ [oK 187 3 5,⟨none,none,.storeN 3 (.t 2) (.t 187)⟩,oq 3 (.mov (ki 0))] <|
 .ret
def v35:VFunc:=⟨188,[.cellN 3 2,.tmp 3],c35⟩
def c36:VCode:=
 sQ [oq 4 (.mov (ki 0))] <|
 .seq (.block 0 (sQ [oM 6 0,oq 7 (.bin .ptr .eql (.t 6) (.c .nilp)),oM 5 7] <|
 .cond (.t 5) (sQ [oq 4 (.mov (ki 1))] <|
 .ret) (sQ [oM 9 0,oH 10 9,oF 11 3 10,oL 12 11,oM 8 12] <|
 .cond (.t 8) (sQ [oq 4 (.mov (ki 26))] <|
 .ret) (sQ [oM 14 1,oq 15 (.bin .num .lss (.t 14) (ki 0)),oM 16 15,zM 17 16 false 1,og 18 16 false (.bin .num .geq (.t 17) (ki 2)),oq 19 (.pick (.t 16) (.c (.bool true)) (.t 18)),oM 13 19] <|
 .cond (.t 13) (sQ [oq 4 (.mov (ki 2))] <|
 .ret) (.skip))))) <|
 sQ [oq 4 (.mov (ki 0))] <|
 .ret
def v36:VFunc:=⟨20,[.tmp 4],c36⟩
def c37:VCode:=
 sQ [oq 2 (.mov (.c (.sl .nil 0 [])))] <|
 .seq (sQ [oM 3 0,oq 4 (.bin .sl .eql (.t 3) (.c (.sl .nil 0 [])))] <|
 .cond (.t 4) (sQ [oq 2 (.mov (.c (.sl .nil 0 [])))] <|
 .ret) (.skip)) <|
 sQ [oq 5 (.buildSlice false 1 0 [] []),oM 6 0,oq 7 (.append false false 1 1 (.t 5) (.t 6)),oM 2 7] <|
 .ret
def v37:VFunc:=⟨8,[.tmp 2],c37⟩
def c38:VCode:=
 sQ [oB 1 0,oq 2 (.mov (.c (.sl .nil 0 [])))] <|
 .seq (sQ [oK 15 3 1,oq 16 (.call .pure 66 [(.t 15)]),oq 17 (.un .not (.t 16))] <|
 .cond (.t 17) (sQ [oq 2 (.mov (.c (.sl .nil 0 [])))] <|
 .ret) (.skip)) <|
 sQ [oq 18 (.build [(.sl .nil 0 [])] []),oB 19 18,oM 3 19] <|
 sQ [oM 20 3,oF 21 0 1,oL 22 21,oq 23 (.conv .u64 (.t 22)),oq 24 (.call .shared 67 [(.t 20),(.t 23)])] <|
 sQ [oM 25 3,oF 26 1 1,oL 27 26,oS 28 27,oq 29 (.conv .u64 (.t 28)),oq 30 (.call .shared 67 [(.t 25),(.t 29)])] <|
 .seq (sQ [oF 31 1 1,oL 32 31,oS 33 32,oq 34 (.mov (ki 0))] <|
 .block 0 (.loop (sQ [oq 35 (bQ .lss 34 33)] <|
 .seq (.cond (.t 35) (.skip) (.exit 0)) <|
 .seq (.block 1 (sQ [oq 36 (.idxAddrS 10 (.t 32) (.t 34)),oK 37 10 36,oq 5 (.alloc [(.str ⟨#[]⟩),(.int .i64 0),(.int .i64 0),(.sl .nil 0 []),(.str ⟨#[]⟩),(.int .i64 0),(.int .i64 0),(.sl .nil 0 []),(.int .i64 0),(.int .i64 0)]),⟨none,none,.storeN 10 (.t 5) (.t 37)⟩] <|
 sQ [oM 38 3,oF 39 0 5,oF 40 0 39,oL 41 40,oq 42 (.call .shared 68 [(.t 38),(.t 41)])] <|
 sQ [oM 43 3,oF 44 0 5,oF 45 1 44,oL 46 45,oq 47 (.call .shared 69 [(.t 43),(.t 46)])] <|
 sQ [oM 48 3,oF 49 0 5,oF 50 2 49,oL 51 50,oq 52 (.conv .u64 (.t 51)),oq 53 (.call .shared 67 [(.t 48),(.t 52)])] <|
 sQ [oM 54 3,oF 55 0 5,oF 56 3 55,oL 57 56,oS 58 57,oq 59 (.conv .u64 (.t 58)),oq 60 (.call .shared 67 [(.t 54),(.t 59)])] <|
 .seq (sQ [oF 61 0 5,oF 62 3 61,oL 63 62,oS 64 63,oq 65 (.mov (ki 0))] <|
 .block 2 (.loop (sQ [oq 66 (bQ .lss 65 64)] <|
 .seq (.cond (.t 66) (.skip) (.exit 2)) <|
 .seq (.block 3 (sQ [oM 67 65,oq 68 (.idxAddrS 10 (.t 63) (.t 65)),oK 69 10 68,oq 7 (.alloc [(.str ⟨#[]⟩),(.int .i64 0),(.int .i64 0),(.int .i64 0),(.int .i64 0),(.int .i64 0),(.int .i64 0),(.bool false),(.bool false),(.bool false)]),oM 6 67,⟨none,none,.storeN 10 (.t 7) (.t 69)⟩] <|
 sQ [oM 70 3,oF 71 0 7,oL 72 71,oq 73 (.call .shared 68 [(.t 70),(.t 72)])] <|
 .seq (sQ [oF 74 7 7,oK 75 3 74,oq 76 (.mov (ki 0))] <|
 .block 4 (.loop (sQ [oq 77 (.bin .num .lss (.t 76) (ki 3))] <|
 .seq (.cond (.t 77) (.skip) (.exit 4)) <|
 .seq (.block 5 (sQ [oq 78 (.idxA1 3 (.t 75) (.t 76)),oM 9 78] <|
 .ops [oM 79 3,oM 80 9,oq 81 (.call .shared 70 [(.t 79),(.t 80)])])) <|
 .ops [oq 82 (.bin .num .add (.t 76) (ki 1)),oM 76 82]))) <|
 sQ [oF 83 4 5,oF 84 3 83,oL 85 84,oM 86 6,oq 87 (.idxAddrS 10 (.t 85) (.t 86)),oK 88 10 87,oq 10 (.alloc [(.str ⟨#[]⟩),(.int .i64 0),(.int .i64 0),(.int .i64 0),(.int .i64 0),(.int .i64 0),(.int .i64 0),(.bool false),(.bool false),(.bool false)]),⟨none,none,.storeN 10 (.t 10) (.t 88)⟩] <|
 .ops [oM 89 3,oF 90 1 7,oK 91 3 90,oF 92 4 7,oK 93 3 92,oF 94 1 10,oK 95 3 94,oF 96 4 10,oK 97 3 96,oq 98 (.buildSlice false 3 4 [(.int .i64 0),(.int .i64 0),(.int .i64 0),(.int .i64 0),(.int .i64 0),(.int .i64 0),(.int .i64 0),(.int .i64 0),(.int .i64 0),(.int .i64 0),(.int .i64 0),(.int .i64 0)] [(0,3,(.t 91)),(3,3,(.t 93)),(6,3,(.t 95)),(9,3,(.t 97))]),oq 99 (.call .shared 71 [(.t 89),(.t 98)])])) <|
 .ops [oq 100 (.bin .num .add (.t 65) (ki 1)),oM 65 100]))) <|
 sQ [oM 101 3,oF 102 8 5,oL 103 102,oq 104 (.conv .u64 (.t 103)),oq 105 (.call .shared 67 [(.t 101),(.t 104)])] <|
 .ops [oM 106 3,oF 107 9 5,oL 108 107,oq 109 (.conv .u64 (.t 108)),oq 110 (.call .shared 67 [(.t 106),(.t 109)])])) <|
 .ops [oq 111 (.bin .num .add (.t 34) (ki 1)),oM 34 111]))) <|
 sQ [oM 112 3,oF 113 2 1,oL 114 113,oS 115 114,oq 116 (.conv .u64 (.t 115)),oq 117 (.call .shared 67 [(.t 112),(.t 116)])] <|
 .seq (sQ [oF 118 2 1,oL 119 118,oS 120 119,oq 121 (.mov (ki 0))] <|
 .block 6 (.loop (sQ [oq 122 (bQ .lss 121 120)] <|
 .seq (.cond (.t 122) (.skip) (.exit 6)) <|
 .seq (.block 7 (sQ [oq 123 (.idxAddrS 11 (.t 119) (.t 121)),oK 124 11 123,oq 12 (.alloc [(.str ⟨#[]⟩),(.str ⟨#[]⟩),(.int .i64 0),(.int .i64 0),(.int .i64 0),(.int .i64 0),(.int .i64 0),(.int .i64 0),(.int .i64 0),(.int .i64 0),(.int .i64 0)]),⟨none,none,.storeN 11 (.t 12) (.t 124)⟩] <|
 sQ [oM 125 3,oF 126 0 12,oF 127 0 126,oL 128 127,oq 129 (.call .shared 68 [(.t 125),(.t 128)])] <|
 sQ [oM 130 3,oF 131 0 12,oF 132 1 131,oL 133 132,oq 134 (.call .shared 68 [(.t 130),(.t 133)])] <|
 sQ [oM 135 3,oF 136 0 12,oF 137 2 136,oL 138 137,oq 139 (.conv .u64 (.t 138)),oq 140 (.call .shared 67 [(.t 135),(.t 139)])] <|
 sQ [oF 141 3 12,oK 142 8 141,oq 143 (.mov (ki 0))] <|
 .block 8 (.loop (sQ [oq 144 (.bin .num .lss (.t 143) (ki 8))] <|
 .seq (.cond (.t 144) (.skip) (.exit 8)) <|
 .seq (.block 9 (sQ [oq 145 (.idxA1 8 (.t 142) (.t 143)),oM 14 145] <|
 .ops [oM 146 3,oM 147 14,oq 148 (.conv .u64 (.t 147)),oq 149 (.call .shared 67 [(.t 146),(.t 148)])])) <|
 .ops [oq 150 (.bin .num .add (.t 143) (ki 1)),oM 143 150])))) <|
 .ops [oq 151 (.bin .num .add (.t 121) (ki 1)),oM 121 151]))) <|
 sQ [oM 152 3,oq 153 (.call .shared 72 [(.t 152)]),oM 2 153] <|
 .ret
def v38:VFunc:=⟨154,[.tmp 2],c38⟩
def c39:VCode:=
 sQ [oq 4 (.mov (.c (.sl .nil 0 [])))] <|
 .seq (sQ [oM 7 0,oq 8 (.bin .num .lss (.t 7) (ki 1)),oM 9 8,zM 10 9 false 0,og 11 9 false (.bin .num .gtr (.t 10) (ki 1152921504606846976)),oq 12 (.pick (.t 9) (.c (.bool true)) (.t 11)),oM 13 12,zM 14 13 false 1,zS 15 13 false 14,og 16 13 false (.bin .num .gtr (.t 15) (ki 65536)),oq 17 (.pick (.t 13) (.c (.bool true)) (.t 16))] <|
 .cond (.t 17) (sQ [oq 4 (.mov (.c (.sl .nil 0 [])))] <|
 .ret) (.skip)) <|
 sQ [oq 18 (.buildSlice true 1 4 [(.int .u8 0),(.int .u8 0),(.int .u8 0),(.int .u8 0)] [(0,1,(.c (.int .u8 66))),(1,1,(.c (.int .u8 82))),(2,1,(.c (.int .u8 84))),(3,1,(.c (.int .u8 72)))]),oq 19 (.freeze (.t 18)),oM 20 0,oq 21 (.conv .u64 (.t 20)),oq 22 (.call .pure 74 [(.t 21),(ki 8)]),oM 23 1,oS 24 23,oq 25 (.conv .u64 (.t 24)),oq 26 (.call .pure 74 [(.t 25),(ki 4)]),oM 27 1,oq 28 (.buildSlice false 1 4 [(.sl .nil 0 []),(.sl .nil 0 []),(.sl .nil 0 []),(.sl .nil 0 [])] [(0,1,(.t 19)),(1,1,(.t 22)),(2,1,(.t 26)),(3,1,(.t 27))]),oq 29 (.call .own 73 [(.t 28)]),oM 5 29] <|
 sQ [oM 30 5,oq 31 (.buildSlice false 1 1 [(.sl .nil 0 [])] [(0,1,(.t 30))]),oq 32 (.call .pure 76 [(.t 31)]),oq 33 (.call .pure 75 [(.t 32)]),oq 6 (.alloc [(.int .u8 0),(.int .u8 0),(.int .u8 0),(.int .u8 0)]),⟨none,none,.storeN 4 (.t 6) (.t 33)⟩] <|
 sQ [oM 34 5,oq 35 (.sliceA 4 1 (.t 6) none none),oq 36 (.append false false 1 1 (.t 34) (.t 35)),oM 4 36] <|
 .ret
def v39:VFunc:=⟨37,[.tmp 4],c39⟩
def c40:VCode:=
 sQ [oB 2 0,oB 3 1,oq 4 (.mov (.c (.bool false)))] <|
 .seq (sQ [oF 6 0 2,oL 7 6,oF 8 0 3,oL 9 8,oq 10 (bQ .neq 7 9),oM 11 10,zF 12 11 false 1 2,zL 13 11 false 12,zF 14 11 false 1 3,zL 15 11 false 14,og 16 11 false (bQ .neq 13 15),oq 17 (.pick (.t 11) (.c (.bool true)) (.t 16)),oM 18 17,zF 19 18 false 2 2,zL 20 18 false 19,zF 21 18 false 2 3,zL 22 18 false 21,og 23 18 false (bQ .neq 20 22),oq 24 (.pick (.t 18) (.c (.bool true)) (.t 23)),oM 25 24,zF 26 25 false 3 2,zL 27 25 false 26,zS 28 25 false 27,zF 29 25 false 3 3,zL 30 25 false 29,zS 31 25 false 30,og 32 25 false (bQ .neq 28 31),oq 33 (.pick (.t 25) (.c (.bool true)) (.t 32))] <|
 .cond (.t 33) (sQ [oq 4 (.mov (.c (.bool false)))] <|
 .ret) (.skip)) <|
 .seq (sQ [oF 34 3 2,oL 35 34,oS 36 35,oq 37 (.mov (ki 0))] <|
 .block 0 (.loop (sQ [oq 38 (bQ .lss 37 36)] <|
 .seq (.cond (.t 38) (.skip) (.exit 0)) <|
 .seq (.block 1 (sQ [oM 39 37,oM 5 39] <|
 sQ [oF 40 3 2,oL 41 40,oM 42 5,oq 43 (.idxAddrS 10 (.t 41) (.t 42)),oK 44 10 43,oF 45 3 3,oL 46 45,oM 47 5,oq 48 (.idxAddrS 10 (.t 46) (.t 47)),oK 49 10 48,oq 50 (.bin (.agg [.s,.i,.i,.i,.i,.i,.i,.b,.b,.b]) .neq (.t 44) (.t 49))] <|
 .cond (.t 50) (sQ [oq 4 (.mov (.c (.bool false)))] <|
 .ret) (.skip))) <|
 .ops [oq 51 (.bin .num .add (.t 37) (ki 1)),oM 37 51]))) <|
 sQ [oq 4 (.mov (.c (.bool true)))] <|
 .ret
def v40:VFunc:=⟨52,[.tmp 4],c40⟩
def c41:VCode:=
 sQ [oq 2 (.alloc [(.int .i64 0),(.sl .nil 0 []),(.sl .nil 0 [])]),oq 3 (.mov (ki 0))] <|
 sQ [oM 9 0,oq 10 (.call .shared 77 [(.t 9)]),oM 4 10] <|
 sQ [oM 11 4,oq 12 (.call .shared 78 [(.t 11),(ki 1099511627776)]),oq 13 (.build [(.int .i64 0),(.sl .nil 0 []),(.sl .nil 0 [])] [(0,1,(.t 12))]),oq 5 (.alloc [(.int .i64 0),(.sl .nil 0 []),(.sl .nil 0 [])]),⟨none,none,.storeN 3 (.t 5) (.t 13)⟩] <|
 .seq (sQ [oM 14 4,oq 15 (.call .shared 78 [(.t 14),(ki 16)]),oq 16 (.mov (ki 0))] <|
 .block 0 (.loop (sQ [oq 17 (bQ .lss 16 15)] <|
 .seq (.cond (.t 17) (.skip) (.exit 0)) <|
 .seq (.block 1 (.draw [] [oF 18 1 5,oL 19 18,oM 20 4,oq 21 (.call .shared 79 [(.t 20)]),oq 22 (.buildSlice false 10 1 [(.str ⟨#[]⟩),(.int .i64 0),(.int .i64 0),(.sl .nil 0 []),(.str ⟨#[]⟩),(.int .i64 0),(.int .i64 0),(.sl .nil 0 []),(.int .i64 0),(.int .i64 0)] [(0,10,(.t 21))]),oq 23 (.append false false 10 128 (.t 19) (.t 22)),oF 24 1 5,⟨none,none,.store1 (.t 24) (.t 23)⟩] [(1,3)])) <|
 .ops [oq 25 (.bin .num .add (.t 16) (ki 1)),oM 16 25]))) <|
 .seq (sQ [oM 26 4,oq 27 (.call .shared 78 [(.t 26),(ki 192)]),oq 28 (.mov (ki 0))] <|
 .block 2 (.loop (sQ [oq 29 (bQ .lss 28 27)] <|
 .seq (.cond (.t 29) (.skip) (.exit 2)) <|
 .seq (.block 3 (sQ [oM 30 4,oq 31 (.call .shared 80 [(.t 30),(ki 16)]),oM 32 4,oq 33 (.call .shared 80 [(.t 32),(ki 16)]),oM 34 4,oq 35 (.call .shared 78 [(.t 34),(ki 1)]),oq 36 (.build [(.str ⟨#[]⟩),(.str ⟨#[]⟩),(.int .i64 0)] [(0,1,(.t 31)),(1,1,(.t 33)),(2,1,(.t 35))]),oq 37 (.build [(.str ⟨#[]⟩),(.str ⟨#[]⟩),(.int .i64 0),(.int .i64 0),(.int .i64 0),(.int .i64 0),(.int .i64 0),(.int .i64 0),(.int .i64 0),(.int .i64 0),(.int .i64 0)] [(0,3,(.t 36))]),oq 6 (.alloc [(.str ⟨#[]⟩),(.str ⟨#[]⟩),(.int .i64 0),(.int .i64 0),(.int .i64 0),(.int .i64 0),(.int .i64 0),(.int .i64 0),(.int .i64 0),(.int .i64 0),(.int .i64 0)]),⟨none,none,.storeN 11 (.t 6) (.t 37)⟩] <|
 .seq (sQ [oq 38 (.mov (ki 0))] <|
 .block 4 (.loop (sQ [oq 39 (.bin .num .lss (.t 38) (ki 8))] <|
 .seq (.cond (.t 39) (.skip) (.exit 4)) <|
 .seq (.block 5 (sQ [oM 40 38,oM 7 40] <|
 .ops [oM 41 7,oM 42 4,oq 43 (.call .shared 78 [(.t 42),(ki 1073741824)]),oF 44 3 6,oq 45 (.idxAddrA 8 1 (.t 44) (.t 41)),⟨none,none,.store1 (.t 45) (.t 43)⟩])) <|
 .ops [oq 46 (.bin .num .add (.t 38) (ki 1)),oM 38 46]))) <|
 .ops [oF 47 2 5,oL 48 47,oK 49 11 6,oq 50 (.buildSlice false 11 1 [(.str ⟨#[]⟩),(.str ⟨#[]⟩),(.int .i64 0),(.int .i64 0),(.int .i64 0),(.int .i64 0),(.int .i64 0),(.int .i64 0),(.int .i64 0),(.int .i64 0),(.int .i64 0)] [(0,11,(.t 49))]),oq 51 (.append false false 11 104 (.t 48) (.t 50)),oF 52 2 5,⟨none,none,.store1 (.t 52) (.t 51)⟩])) <|
 .ops [oq 53 (.bin .num .add (.t 28) (ki 1)),oM 28 53]))) <|
 .seq (sQ [oM 54 4,oq 55 (.call .shared 81 [(.t 54)]),oM 8 55] <|
 sQ [oM 56 8,oq 57 (.bin .num .neq (.t 56) (ki 0))] <|
 .cond (.t 57) (sQ [oq 58 (.build [(.int .i64 0),(.sl .nil 0 []),(.sl .nil 0 [])] []),oM 59 8,⟨none,none,.storeN 3 (.t 2) (.t 58)⟩,oM 3 59] <|
 .ret) (.skip)) <|
 .seq (sQ [oK 60 3 5,oq 61 (.call .pure 66 [(.t 60)]),oq 62 (.un .not (.t 61))] <|
 .cond (.t 62) (sQ [oq 63 (.build [(.int .i64 0),(.sl .nil 0 []),(.sl .nil 0 [])] []),⟨none,none,.storeN 3 (.t 2) (.t 63)⟩,oq 3 (.mov (ki 11))] <|
 .ret) (.skip)) <|
 sQ [oK 64 3 5,⟨none,none,.storeN 3 (.t 2) (.t 64)⟩,oq 3 (.mov (ki 0))] <|
 .ret
def v41:VFunc:=⟨65,[.cellN 3 2,.tmp 3],c41⟩
def c42:VCode:=
 sQ [oB 1 0,oq 2 (.mov (ki 0))] <|
 sQ [oF 6 0 1,oL 7 6,oq 8 (.lenStr (.t 7)),oM 3 8] <|
 .seq (sQ [oF 9 3 1,oL 10 9,oS 11 10,oq 12 (.mov (ki 0))] <|
 .block 0 (.loop (sQ [oq 13 (bQ .lss 12 11)] <|
 .seq (.cond (.t 13) (.skip) (.exit 0)) <|
 .seq (.block 1 (sQ [oM 14 12,oq 15 (.idxAddrS 10 (.t 10) (.t 12)),oK 16 10 15,oq 5 (.alloc [(.str ⟨#[]⟩),(.int .i64 0),(.int .i64 0),(.int .i64 0),(.int .i64 0),(.int .i64 0),(.int .i64 0),(.bool false),(.bool false),(.bool false)]),oM 4 14,⟨none,none,.storeN 10 (.t 5) (.t 16)⟩] <|
 .seq (sQ [oM 17 4,oq 18 (.bin .num .gtr (.t 17) (ki 50))] <|
 .cond (.t 18) (sQ [oq 2 (.mov (ki 5000))] <|
 .ret) (.skip)) <|
 .ops [oM 19 3,oF 20 0 5,oL 21 20,oq 22 (.lenStr (.t 21)),oq 23 (.minmax false [(.t 22),(ki 3000)]),oq 24 (.bin .num .add (ki 10) (.t 23)),oq 25 (bQ .add 19 24),oM 3 25])) <|
 .ops [oq 26 (.bin .num .add (.t 12) (ki 1)),oM 12 26]))) <|
 sQ [oM 27 3,oM 2 27] <|
 .ret
def v42:VFunc:=⟨28,[.tmp 2],c42⟩
def c43:VCode:=
 sQ [oB 1 0,oq 2 (.mov (.c (.bool false)))] <|
 .seq (.draw [(3,.z [(.str ⟨#[]⟩),(.int .i64 0),(.int .i64 0),(.sl .nil 0 [])]),(4,.z [(.str ⟨#[]⟩),(.int .i64 0),(.int .i64 0),(.sl .nil 0 [])])] [oF 6 0 1,oK 7 4 6,oF 8 4 1,oK 9 4 8,⟨none,none,.idle⟩,⟨none,none,.idle⟩,⟨none,none,.storeN 4 (.t 3) (.t 7)⟩,⟨none,none,.storeN 4 (.t 4) (.t 9)⟩] [(3,6)]) <|
 .seq (sQ [oK 10 4 3,oq 11 (.call .pure 82 [(.t 10)]),oq 12 (.un .not (.t 11)),oM 13 12,zK 14 13 false 4 4,og 15 13 false (.call .pure 82 [(.t 14)]),og 16 13 false (.un .not (.t 15)),oq 17 (.pick (.t 13) (.c (.bool true)) (.t 16)),oM 18 17,zK 19 18 false 4 3,zK 20 18 false 4 4,og 21 18 false (.call .pure 83 [(.t 19),(.t 20)]),og 22 18 false (.un .not (.t 21)),oq 23 (.pick (.t 18) (.c (.bool true)) (.t 22)),oM 24 23,zK 25 24 false 4 3,og 26 24 false (.call .pure 84 [(.t 25)]),zK 27 24 false 4 4,og 28 24 false (.call .pure 84 [(.t 27)]),og 29 24 false (bQ .neq 26 28),oq 30 (.pick (.t 24) (.c (.bool true)) (.t 29)),oM 31 30,zF 32 31 false 8 1,zL 33 31 false 32,og 34 31 false (.bin .num .lss (.t 33) (ki 0)),oq 35 (.pick (.t 31) (.c (.bool true)) (.t 34)),oM 36 35,zF 37 36 false 8 1,zL 38 36 false 37,og 39 36 false (.bin .num .gtr (.t 38) (ki 1099511627776)),oq 40 (.pick (.t 36) (.c (.bool true)) (.t 39)),oM 41 40,zF 42 41 false 9 1,zL 43 41 false 42,og 44 41 false (.bin .num .lss (.t 43) (ki 0)),oq 45 (.pick (.t 41) (.c (.bool true)) (.t 44))] <|
 .cond (.t 45) (sQ [oq 2 (.mov (.c (.bool false)))] <|
 .ret) (.skip)) <|
 sQ [oq 5 (.mov (ki 1))] <|
 .seq (sQ [oF 46 3 3,oL 47 46,oS 48 47,oq 49 (.mov (ki 0))] <|
 .block 0 (.loop (sQ [oq 50 (bQ .lss 49 48)] <|
 .seq (.cond (.t 50) (.skip) (.exit 0)) <|
 .seq (.block 1 (.ops [oM 51 5,oq 52 (.bin .num .mul (.t 51) (ki 2)),oM 5 52])) <|
 .ops [oq 53 (.bin .num .add (.t 49) (ki 1)),oM 49 53]))) <|
 sQ [oF 54 9 1,oL 55 54,oM 56 5,oq 57 (bQ .lss 55 56),oM 2 57] <|
 .ret
def v43:VFunc:=⟨58,[.tmp 2],c43⟩
def c44:VCode:=
 sQ [oB 2 0,oq 4 (.mov (ki 0))] <|
 .seq (sQ [oF 7 1 2,oL 8 7,oS 9 8,oq 10 (.mov (ki 0))] <|
 .block 0 (.loop (sQ [oq 11 (bQ .lss 10 9)] <|
 .seq (.cond (.t 11) (.skip) (.exit 0)) <|
 .seq (.block 1 (sQ [oM 12 10,oq 13 (.idxAddrS 10 (.t 8) (.t 10)),oK 14 10 13,oq 6 (.alloc [(.str ⟨#[]⟩),(.int .i64 0),(.int .i64 0),(.sl .nil 0 []),(.str ⟨#[]⟩),(.int .i64 0),(.int .i64 0),(.sl .nil 0 []),(.int .i64 0),(.int .i64 0)]),oM 5 12,⟨none,none,.storeN 10 (.t 6) (.t 14)⟩] <|
 sQ [oF 15 0 6,oF 16 0 15,oL 17 16,oM 18 1,oq 19 (bQ .eql 17 18)] <|
 .cond (.t 19) (sQ [oM 20 5,oM 4 20] <|
 .ret) (.skip))) <|
 .ops [oq 21 (.bin .num .add (.t 10) (ki 1)),oM 10 21]))) <|
 sQ [oq 4 (.mov (.c (.int .i64 (-1))))] <|
 .ret
def v44:VFunc:=⟨22,[.tmp 4],c44⟩
def c45:VCode:=
 sQ [oB 2 0,oq 4 (.mov (ki 0))] <|
 .seq (sQ [oF 7 3 2,oL 8 7,oS 9 8,oq 10 (.mov (ki 0))] <|
 .block 0 (.loop (sQ [oq 11 (bQ .lss 10 9)] <|
 .seq (.cond (.t 11) (.skip) (.exit 0)) <|
 .seq (.block 1 (sQ [oM 12 10,oq 13 (.idxAddrS 10 (.t 8) (.t 10)),oK 14 10 13,oq 6 (.alloc [(.str ⟨#[]⟩),(.int .i64 0),(.int .i64 0),(.int .i64 0),(.int .i64 0),(.int .i64 0),(.int .i64 0),(.bool false),(.bool false),(.bool false)]),oM 5 12,⟨none,none,.storeN 10 (.t 6) (.t 14)⟩] <|
 sQ [oF 15 0 6,oL 16 15,oM 17 1,oq 18 (bQ .eql 16 17)] <|
 .cond (.t 18) (sQ [oM 19 5,oM 4 19] <|
 .ret) (.skip))) <|
 .ops [oq 20 (.bin .num .add (.t 10) (ki 1)),oM 10 20]))) <|
 sQ [oq 4 (.mov (.c (.int .i64 (-1))))] <|
 .ret
def v45:VFunc:=⟨21,[.tmp 4],c45⟩
def c46:VCode:=
 sQ [oB 2 0,oB 3 1,oq 4 (.mov (.c (.bool false)))] <|
 .seq (sQ [oF 5 0 2,oL 6 5,oF 7 0 3,oL 8 7,oq 9 (bQ .neq 6 8)] <|
 .cond (.t 9) (sQ [oF 10 0 2,oL 11 10,oF 12 0 3,oL 13 12,oq 14 (bQ .lss 11 13),oM 4 14] <|
 .ret) (.skip)) <|
 .seq (sQ [oF 15 1 2,oL 16 15,oF 17 1 3,oL 18 17,oq 19 (bQ .neq 16 18)] <|
 .cond (.t 19) (sQ [oF 20 1 2,oL 21 20,oF 22 1 3,oL 23 22,oq 24 (bQ .lss 21 23),oM 4 24] <|
 .ret) (.skip)) <|
 sQ [oF 25 2 2,oL 26 25,oF 27 2 3,oL 28 27,oq 29 (bQ .lss 26 28),oM 4 29] <|
 .ret
def v46:VFunc:=⟨30,[.tmp 4],c46⟩
def c47:VCode:=
 sQ [oq 4 (.mov (.c (.str ⟨#[]⟩)))] <|
 sQ [oq 5 (.mov (.c (.str ⟨#[]⟩)))] <|
 .seq (sQ [oq 6 (.mov (ki 0))] <|
 .block 0 (.loop (.seq (sQ [oM 7 6,oM 8 1,oq 9 (bQ .lss 7 8)] <|
 .cond (.t 9) (.skip) (.exit 0)) <|
 .seq (.block 1 (sQ [oM 12 0,oq 13 (.bin .num .rem (.t 12) (.c (.int .u64 256))),oq 14 (.conv .u8 (.t 13)),oq 15 (.buildSlice false 1 1 [(.int .u8 0)] [(0,1,(.t 14))]),oq 16 (.strOfP (.t 15)),oM 17 5,oq 18 (bQ .add 16 17),oM 5 18] <|
 .ops [oM 19 0,oq 20 (.bin .num .quo (.t 19) (.c (.int .u64 256))),oM 0 20])) <|
 .ops [oM 10 6,oq 11 (.bin .num .add (.t 10) (ki 1)),oM 6 11]))) <|
 sQ [oM 21 5,oM 4 21] <|
 .ret
def v47:VFunc:=⟨22,[.tmp 4],c47⟩
def c48:VCode:=
 sQ [oq 2 (.mov (.c (.str ⟨#[]⟩)))] <|
 sQ [oM 3 0,oq 4 (.bin .num .quo (.t 3) (.c (.int .u32 16777216))),oq 5 (.conv .u8 (.t 4)),oM 6 0,oq 7 (.bin .num .quo (.t 6) (.c (.int .u32 65536))),oq 8 (.bin .num .rem (.t 7) (.c (.int .u32 256))),oq 9 (.conv .u8 (.t 8)),oM 10 0,oq 11 (.bin .num .quo (.t 10) (.c (.int .u32 256))),oq 12 (.bin .num .rem (.t 11) (.c (.int .u32 256))),oq 13 (.conv .u8 (.t 12)),oM 14 0,oq 15 (.bin .num .rem (.t 14) (.c (.int .u32 256))),oq 16 (.conv .u8 (.t 15)),oq 17 (.buildSlice false 1 4 [(.int .u8 0),(.int .u8 0),(.int .u8 0),(.int .u8 0)] [(0,1,(.t 5)),(1,1,(.t 9)),(2,1,(.t 13)),(3,1,(.t 16))]),oq 18 (.strOfP (.t 17)),oM 2 18] <|
 .ret
def v48:VFunc:=⟨19,[.tmp 2],c48⟩
def c49:VCode:=
 sQ [oq 2 (.mov (.c (.int .u32 0)))] <|
 sQ [oq 16 (.build [(.bool false),(.bool false),(.bool false),(.bool false),(.bool false),(.bool false),(.bool false),(.bool false),(.bool false),(.bool false),(.bool false),(.bool false),(.bool false),(.bool false),(.bool false),(.bool false),(.bool false),(.bool false),(.bool false),(.bool false),(.bool false),(.bool false),(.bool false),(.bool false),(.bool false),(.bool false),(.bool false),(.bool false),(.bool false),(.bool false),(.bool false),(.bool false)] []),oq 3 (.alloc [(.bool false),(.bool false),(.bool false),(.bool false),(.bool false),(.bool false),(.bool false),(.bool false),(.bool false),(.bool false),(.bool false),(.bool false),(.bool false),(.bool false),(.bool false),(.bool false),(.bool false),(.bool false),(.bool false),(.bool false),(.bool false),(.bool false),(.bool false),(.bool false),(.bool false),(.bool false),(.bool false),(.bool false),(.bool false),(.bool false),(.bool false),(.bool false)]),⟨none,none,.storeN 32 (.t 3) (.t 16)⟩] <|
 .seq (sQ [oq 4 (.mov (ki 0))] <|
 .block 0 (.loop (.seq (sQ [oM 17 4,oq 18 (.bin .num .lss (.t 17) (ki 32))] <|
 .cond (.t 18) (.skip) (.exit 0)) <|
 .seq (.block 1 (.ops [oM 21 4,oq 22 (.idxAddrA 32 1 (.t 3) (.t 21)),⟨none,none,.store1 (.t 22) (.c (.bool true))⟩])) <|
 .ops [oM 19 4,oq 20 (.bin .num .add (.t 19) (ki 1)),oM 4 20]))) <|
 sQ [oq 23 (.build [(.bool false),(.bool false),(.bool false),(.bool false),(.bool false),(.bool false),(.bool false),(.bool false),(.bool false),(.bool false),(.bool false),(.bool false),(.bool false),(.bool false),(.bool false),(.bool false),(.bool false),(.bool false),(.bool false),(.bool false),(.bool false),(.bool false),(.bool false),(.bool false),(.bool false),(.bool false),(.bool false),(.bool false),(.bool false),(.bool false),(.bool false),(.bool false)] []),oq 5 (.alloc [(.bool false),(.bool false),(.bool false),(.bool false),(.bool false),(.bool false),(.bool false),(.bool false),(.bool false),(.bool false),(.bool false),(.bool false),(.bool false),(.bool false),(.bool false),(.bool false),(.bool false),(.bool false),(.bool false),(.bool false),(.bool false),(.bool false),(.bool false),(.bool false),(.bool false),(.bool false),(.bool false),(.bool false),(.bool false),(.bool false),(.bool false),(.bool false)]),⟨none,none,.storeN 32 (.t 5) (.t 23)⟩] <|
 sQ [oq 6 (.mov (.c (.int .u32 3988292384)))] <|
 .seq (sQ [oq 7 (.mov (ki 0))] <|
 .block 2 (.loop (.seq (sQ [oM 24 7,oq 25 (.bin .num .lss (.t 24) (ki 32))] <|
 .cond (.t 25) (.skip) (.exit 2)) <|
 .seq (.block 3 (sQ [oM 28 7,oM 29 6,oq 30 (.bin .num .rem (.t 29) (.c (.int .u32 2))),oq 31 (.bin .num .eql (.t 30) (.c (.int .u32 1))),oq 32 (.idxAddrA 32 1 (.t 5) (.t 28)),⟨none,none,.store1 (.t 32) (.t 31)⟩] <|
 .ops [oM 33 6,oq 34 (.bin .num .quo (.t 33) (.c (.int .u32 2))),oM 6 34])) <|
 .ops [oM 26 7,oq 27 (.bin .num .add (.t 26) (ki 1)),oM 7 27]))) <|
 .seq (sQ [oq 8 (.mov (ki 0))] <|
 .block 4 (.loop (.seq (sQ [oM 35 8,oM 36 0,oq 37 (.lenStr (.t 36)),oq 38 (bQ .lss 35 37)] <|
 .cond (.t 38) (.skip) (.exit 4)) <|
 .seq (.block 5 (sQ [oM 41 0,oM 42 8,oq 43 (.idxStr (.t 41) (.t 42)),oM 9 43] <|
 sQ [oq 10 (.mov (ki 0))] <|
 .block 6 (.loop (.seq (sQ [oM 44 10,oq 45 (.bin .num .lss (.t 44) (ki 8))] <|
 .cond (.t 45) (.skip) (.exit 6)) <|
 .seq (.block 7 (sQ [oq 48 (.idxAddrA 32 1 (.t 3) (ki 0)),oL 49 48,oM 50 9,oq 51 (.bin .num .rem (.t 50) (.c (.int .u8 2))),oq 52 (.bin .num .eql (.t 51) (.c (.int .u8 1))),oq 53 (.bin .bool .neq (.t 49) (.t 52)),oM 11 53] <|
 sQ [oM 54 9,oq 55 (.bin .num .quo (.t 54) (.c (.int .u8 2))),oM 9 55] <|
 .seq (sQ [oq 12 (.mov (ki 0))] <|
 .block 8 (.loop (.seq (sQ [oM 56 12,oq 57 (.bin .num .lss (.t 56) (ki 31))] <|
 .cond (.t 57) (.skip) (.exit 8)) <|
 .seq (.block 9 (.ops [oM 60 12,oM 61 12,oq 62 (.bin .num .add (.t 61) (ki 1)),oq 63 (.idxAddrA 32 1 (.t 3) (.t 62)),oL 64 63,oq 65 (.idxAddrA 32 1 (.t 3) (.t 60)),⟨none,none,.store1 (.t 65) (.t 64)⟩])) <|
 .ops [oM 58 12,oq 59 (.bin .num .add (.t 58) (ki 1)),oM 12 59]))) <|
 sQ [oq 66 (.idxAddrA 32 1 (.t 3) (ki 31)),⟨none,none,.store1 (.t 66) (.c (.bool false))⟩] <|
 sQ [oq 13 (.mov (ki 0))] <|
 .block 10 (.loop (.seq (sQ [oM 67 13,oq 68 (.bin .num .lss (.t 67) (ki 32))] <|
 .cond (.t 68) (.skip) (.exit 10)) <|
 .seq (.block 11 (.ops [oM 71 13,oM 72 13,oq 73 (.idxAddrA 32 1 (.t 3) (.t 72)),oL 74 73,oM 75 11,oM 76 75,zM 77 76 true 13,og 78 76 true (.idxAddrA 32 1 (.t 5) (.t 77)),zL 79 76 true 78,oq 80 (.pick (.t 76) (.t 79) (.c (.bool false))),oq 81 (.bin .bool .neq (.t 74) (.t 80)),oq 82 (.idxAddrA 32 1 (.t 3) (.t 71)),⟨none,none,.store1 (.t 82) (.t 81)⟩])) <|
 .ops [oM 69 13,oq 70 (.bin .num .add (.t 69) (ki 1)),oM 13 70])))) <|
 .ops [oM 46 10,oq 47 (.bin .num .add (.t 46) (ki 1)),oM 10 47])))) <|
 .ops [oM 39 8,oq 40 (.bin .num .add (.t 39) (ki 1)),oM 8 40]))) <|
 sQ [oq 14 (.mov (.c (.int .u32 0)))] <|
 .seq (sQ [oq 15 (.mov (ki 31))] <|
 .block 12 (.loop (.seq (sQ [oM 83 15,oq 84 (.bin .num .geq (.t 83) (ki 0))] <|
 .cond (.t 84) (.skip) (.exit 12)) <|
 .seq (.block 13 (sQ [oM 87 14,oq 88 (.bin .num .mul (.t 87) (.c (.int .u32 2))),oM 14 88] <|
 sQ [oM 89 15,oq 90 (.idxAddrA 32 1 (.t 3) (.t 89)),oL 91 90,oq 92 (.un .not (.t 91))] <|
 .cond (.t 92) (.ops [oM 93 14,oq 94 (.bin .num .add (.t 93) (.c (.int .u32 1))),oM 14 94]) (.skip))) <|
 .ops [oM 85 15,oq 86 (.bin .num .sub (.t 85) (ki 1)),oM 15 86]))) <|
 sQ [oM 95 14,oM 2 95] <|
 .ret
def v49:VFunc:=⟨96,[.tmp 2],c49⟩
def c50:VCode:=
 sQ [oq 2 (.mov (.c (.str ⟨#[]⟩)))] <|
 sQ [oq 3 (.mov (.c (.str ⟨#[]⟩)))] <|
 .seq (.block 0 (.loop (.seq (sQ [oM 4 0,oq 5 (.bin .num .gtr (.t 4) (.c (.int .u64 127)))] <|
 .cond (.t 5) (.skip) (.exit 0)) <|
 .block 1 (sQ [oM 6 3,oM 7 0,oq 8 (.bin .num .rem (.t 7) (.c (.int .u64 128))),oq 9 (.bin .num .add (.t 8) (.c (.int .u64 128))),oq 10 (.conv .u8 (.t 9)),oq 11 (.buildSlice false 1 1 [(.int .u8 0)] [(0,1,(.t 10))]),oq 12 (.strOfP (.t 11)),oq 13 (bQ .add 6 12),oM 3 13] <|
 .ops [oM 14 0,oq 15 (.bin .num .quo (.t 14) (.c (.int .u64 128))),oM 0 15])))) <|
 sQ [oM 16 3,oM 17 0,oq 18 (.conv .u8 (.t 17)),oq 19 (.buildSlice false 1 1 [(.int .u8 0)] [(0,1,(.t 18))]),oq 20 (.strOfP (.t 19)),oq 21 (bQ .add 16 20),oM 2 21] <|
 .ret
def v50:VFunc:=⟨22,[.tmp 2],c50⟩
def c51:VCode:=
 sQ [oq 2 (.mov (.c (.str ⟨#[]⟩)))] <|
 sQ [oM 3 0,oq 4 (.lenStr (.t 3)),oq 5 (.conv .u64 (.t 4)),oq 6 (.call .pure 50 [(.t 5)]),oM 7 0,oq 8 (bQ .add 6 7),oM 2 8] <|
 .ret
def v51:VFunc:=⟨9,[.tmp 2],c51⟩
def c52:VCode:=
 sQ [oq 2 (.mov (.c (.str ⟨#[]⟩)))] <|
 .seq (sQ [oM 3 0,oq 4 (.bin .num .lss (.t 3) (ki 0))] <|
 .cond (.t 4) (sQ [oM 5 0,oq 6 (.bin .num .add (.t 5) (ki 1)),oq 7 (.un .neg (.t 6)),oq 8 (.conv .u64 (.t 7)),oq 9 (.bin .num .mul (.t 8) (.c (.int .u64 2))),oq 10 (.bin .num .add (.t 9) (.c (.int .u64 1))),oq 11 (.call .pure 50 [(.t 10)]),oM 2 11] <|
 .ret) (.skip)) <|
 sQ [oM 12 0,oq 13 (.conv .u64 (.t 12)),oq 14 (.bin .num .mul (.t 13) (.c (.int .u64 2))),oq 15 (.call .pure 50 [(.t 14)]),oM 2 15] <|
 .ret
def v52:VFunc:=⟨16,[.tmp 2],c52⟩
def c53:VCode:=
 sQ [oq 2 (.mov (.c (.str ⟨#[]⟩)))] <|
 .seq (sQ [oM 3 0] <|
 .cond (.t 3) (sQ [oq 2 (.mov (.c (.str ⟨#[1]⟩)))] <|
 .ret) (.skip)) <|
 sQ [oq 2 (.mov (.c (.str ⟨#[0]⟩)))] <|
 .ret
def v53:VFunc:=⟨4,[.tmp 2],c53⟩
def c54:VCode:=
 sQ [oB 1 0,oq 2 (.mov (.c (.str ⟨#[]⟩)))] <|
 sQ [oF 3 0 1,oL 4 3,oq 5 (.conv .u64 (.t 4)),oq 6 (.call .pure 50 [(.t 5)]),oF 7 1 1,oL 8 7,oq 9 (.conv .u64 (.t 8)),oq 10 (.call .pure 50 [(.t 9)]),oq 11 (bQ .add 6 10),oF 12 2 1,oL 13 12,oq 14 (.conv .u64 (.t 13)),oq 15 (.call .pure 50 [(.t 14)]),oq 16 (bQ .add 11 15),oM 2 16] <|
 .ret
def v54:VFunc:=⟨17,[.tmp 2],c54⟩
def c55:VCode:=
 sQ [oq 2 (.mov (ki 0)),oq 3 (.mov (.c (.sl .nil 0 []))),oq 4 (.mov (ki 0))] <|
 .seq (.block 0 (sQ [oM 9 0,oS 10 9,oq 11 (.bin .num .lss (.t 10) (ki 4)),oM 8 11] <|
 .cond (.t 8) (sQ [oq 2 (.mov (ki 0)),oq 3 (.mov (.c (.sl .nil 0 []))),oq 4 (.mov (ki 10))] <|
 .ret) (sQ [oM 13 0,oq 14 (.sliceS 1 (.t 13) none (some (ki 4)) none),oq 15 (.strOfP (.t 14)),oq 16 (.bin .num .neq (.t 15) (.c (.str ⟨#[66,82,84,72]⟩))),oM 12 16] <|
 .cond (.t 12) (sQ [oq 2 (.mov (ki 0)),oq 3 (.mov (.c (.sl .nil 0 []))),oq 4 (.mov (ki 11))] <|
 .ret) (sQ [oM 18 0,oS 19 18,oq 20 (.bin .num .lss (.t 19) (ki 16)),oM 17 20] <|
 .cond (.t 17) (sQ [oq 2 (.mov (ki 0)),oq 3 (.mov (.c (.sl .nil 0 []))),oq 4 (.mov (ki 10))] <|
 .ret) (.skip))))) <|
 sQ [oM 21 0,oq 22 (.sliceS 1 (.t 21) (some (ki 4)) (some (ki 12)) none),oq 23 (.call .pure 85 [(.t 22)]),oM 24 0,oq 25 (.sliceS 1 (.t 24) (some (ki 12)) (some (ki 16)) none),oq 26 (.call .pure 85 [(.t 25)]),oM 5 23,oM 6 26] <|
 .seq (.block 1 (sQ [oM 28 5,oq 29 (.bin .num .lss (.t 28) (.c (.int .u64 1))),oM 30 29,zM 31 30 false 5,og 32 30 false (.bin .num .gtr (.t 31) (.c (.int .u64 1152921504606846976))),oq 33 (.pick (.t 30) (.c (.bool true)) (.t 32)),oM 27 33] <|
 .cond (.t 27) (sQ [oq 2 (.mov (ki 0)),oq 3 (.mov (.c (.sl .nil 0 []))),oq 4 (.mov (ki 11))] <|
 .ret) (sQ [oM 35 6,oq 36 (.bin .num .gtr (.t 35) (.c (.int .u64 65536))),oM 34 36] <|
 .cond (.t 34) (sQ [oq 2 (.mov (ki 0)),oq 3 (.mov (.c (.sl .nil 0 []))),oq 4 (.mov (ki 15))] <|
 .ret) (sQ [oM 38 0,oS 39 38,oM 40 6,oq 41 (.conv .i64 (.t 40)),oq 42 (.call .pure 58 [(.t 41)]),oq 43 (bQ .lss 39 42),oM 37 43] <|
 .cond (.t 37) (sQ [oq 2 (.mov (ki 0)),oq 3 (.mov (.c (.sl .nil 0 []))),oq 4 (.mov (ki 10))] <|
 .ret) (.skip))))) <|
 sQ [oM 44 6,oq 45 (.conv .i64 (.t 44)),oq 46 (.bin .num .add (ki 16) (.t 45)),oM 7 46] <|
 .seq (sQ [oM 47 0,oM 48 7,oM 49 7,oq 50 (.bin .num .add (.t 49) (ki 4)),oq 51 (.sliceS 1 (.t 47) (some (.t 48)) (some (.t 50)) none),oq 52 (.toArr 4 (.t 51)),oK 53 4 52,oq 54 (.call .pure 86 [(.t 53)]),oM 55 0,oM 56 7,oq 57 (.sliceS 1 (.t 55) none (some (.t 56)) none),oq 58 (.buildSlice false 1 1 [(.sl .nil 0 [])] [(0,1,(.t 57))]),oq 59 (.call .pure 76 [(.t 58)]),oq 60 (bQ .neq 54 59)] <|
 .cond (.t 60) (sQ [oq 2 (.mov (ki 0)),oq 3 (.mov (.c (.sl .nil 0 []))),oq 4 (.mov (ki 14))] <|
 .ret) (.skip)) <|
 sQ [oM 61 5,oq 62 (.conv .i64 (.t 61)),oM 63 0,oM 64 7,oq 65 (.sliceS 1 (.t 63) (some (ki 16)) (some (.t 64)) none),oq 66 (.call .pure 37 [(.t 65)]),oM 2 62,oM 3 66,oq 4 (.mov (ki 0))] <|
 .ret
def v55:VFunc:=⟨67,[.tmp 2,.tmp 3,.tmp 4],c55⟩
def c58:VCode:=
 sQ [oq 2 (.mov (ki 0))] <|
 .seq (sQ [oM 3 0,oq 4 (.bin .num .lss (.t 3) (ki 0)),oM 5 4,zM 6 5 false 0,og 7 5 false (.bin .num .gtr (.t 6) (ki 65536)),oq 8 (.pick (.t 5) (.c (.bool true)) (.t 7))] <|
 .cond (.t 8) (sQ [oq 2 (.mov (ki 0))] <|
 .ret) (.skip)) <|
 sQ [oM 9 0,oq 10 (.bin .num .add (ki 16) (.t 9)),oq 11 (.bin .num .add (.t 10) (ki 4)),oM 2 11] <|
 .ret
def v58:VFunc:=⟨12,[.tmp 2],c58⟩
def c59:VCode:=
 sQ [oq 2 (.mov (.c (.int .u64 0)))] <|
 sQ [oq 3 (.mov (.c (.int .u64 0)))] <|
 .seq (sQ [oq 4 (.mov (ki 0))] <|
 .block 0 (.loop (.seq (sQ [oM 5 4,oM 6 0,oq 7 (.lenStr (.t 6)),oq 8 (bQ .lss 5 7)] <|
 .cond (.t 8) (.skip) (.exit 0)) <|
 .seq (.block 1 (.ops [oM 11 3,oq 12 (.bin .num .mul (.t 11) (.c (.int .u64 256))),oM 13 0,oM 14 4,oq 15 (.idxStr (.t 13) (.t 14)),oq 16 (.conv .u64 (.t 15)),oq 17 (bQ .add 12 16),oM 3 17])) <|
 .ops [oM 9 4,oq 10 (.bin .num .add (.t 9) (ki 1)),oM 4 10]))) <|
 sQ [oM 18 3,oM 2 18] <|
 .ret
def v59:VFunc:=⟨19,[.tmp 2],c59⟩
def c60:VCode:=
 sQ [oq 4 (.mov (.c (.int .u64 0)))] <|
 .seq (sQ [oM 8 0,oH 9 8,oF 10 1 9,oL 11 10,oq 12 (.bin .num .neq (.t 11) (ki 0))] <|
 .cond (.t 12) (sQ [oq 4 (.mov (.c (.int .u64 0)))] <|
 .ret) (.skip)) <|
 sQ [oq 5 (.mov (ki 0))] <|
 .seq (.block 0 (.loop (.seq (sQ [oM 13 5,oM 14 0,oH 15 14,oF 16 0 15,oL 17 16,oq 18 (.lenStr (.t 17)),oq 19 (bQ .lss 13 18),oM 20 19,zM 21 20 true 5,og 22 20 true (.bin .num .lss (.t 21) (ki 10)),oq 23 (.pick (.t 20) (.t 22) (.c (.bool false))),oM 24 23,zM 25 24 true 0,zH 26 24 true 25,zF 27 24 true 0 26,zL 28 24 true 27,zM 29 24 true 5,og 30 24 true (.idxStr (.t 28) (.t 29)),og 31 24 true (.bin .num .gtr (.t 30) (.c (.int .u8 127))),oq 32 (.pick (.t 24) (.t 31) (.c (.bool false)))] <|
 .cond (.t 32) (.skip) (.exit 0)) <|
 .block 1 (.ops [oM 33 5,oq 34 (.bin .num .add (.t 33) (ki 1)),oM 5 34])))) <|
 .seq (sQ [oM 35 5,oq 36 (.bin .num .eql (.t 35) (ki 10))] <|
 .cond (.t 36) (sQ [oM 37 0,oq 38 (.call .shared 65 [(.t 37),(ki 11)])] <|
 sQ [oq 4 (.mov (.c (.int .u64 0)))] <|
 .ret) (.skip)) <|
 .seq (sQ [oM 39 5,oM 40 0,oH 41 40,oF 42 0 41,oL 43 42,oq 44 (.lenStr (.t 43)),oq 45 (bQ .eql 39 44)] <|
 .cond (.t 45) (sQ [oM 46 0,oq 47 (.call .shared 65 [(.t 46),(ki 10)])] <|
 sQ [oq 4 (.mov (.c (.int .u64 0)))] <|
 .ret) (.skip)) <|
 .seq (sQ [oM 48 5,oq 49 (.bin .num .eql (.t 48) (ki 9)),oM 50 49,zM 51 50 true 0,zH 52 50 true 51,zF 53 50 true 0 52,zL 54 50 true 53,og 55 50 true (.idxStr (.t 54) (ki 9)),og 56 50 true (.bin .num .gtr (.t 55) (.c (.int .u8 1))),oq 57 (.pick (.t 50) (.t 56) (.c (.bool false))),oM 58 57,zM 59 58 false 5,og 60 58 false (.bin .num .gtr (.t 59) (ki 0)),zM 61 58 false 60,zM 62 61 true 0,zH 63 61 true 62,zF 64 61 true 0 63,zL 65 61 true 64,zM 66 61 true 5,og 67 61 true (.idxStr (.t 65) (.t 66)),og 68 61 true (.bin .num .eql (.t 67) (.c (.int .u8 0))),og 69 58 false (.pick (.t 61) (.t 68) (.c (.bool false))),oq 70 (.pick (.t 58) (.c (.bool true)) (.t 69))] <|
 .cond (.t 70) (sQ [oM 71 0,oq 72 (.call .shared 65 [(.t 71),(ki 11)])] <|
 sQ [oq 4 (.mov (.c (.int .u64 0)))] <|
 .ret) (.skip)) <|
 sQ [oq 6 (.mov (.c (.int .u64 0)))] <|
 .seq (sQ [oM 73 5,oM 7 73] <|
 .block 2 (.loop (.seq (sQ [oM 74 7,oq 75 (.bin .num .geq (.t 74) (ki 0))] <|
 .cond (.t 75) (.skip) (.exit 2)) <|
 .seq (.block 3 (.ops [oM 78 6,oq 79 (.bin .num .mul (.t 78) (.c (.int .u64 128))),oM 80 0,oH 81 80,oF 82 0 81,oL 83 82,oM 84 7,oq 85 (.idxStr (.t 83) (.t 84)),oq 86 (.bin .num .rem (.t 85) (.c (.int .u8 128))),oq 87 (.conv .u64 (.t 86)),oq 88 (bQ .add 79 87),oM 6 88])) <|
 .ops [oM 76 7,oq 77 (.bin .num .sub (.t 76) (ki 1)),oM 7 77]))) <|
 .seq (sQ [oM 89 6,oM 90 1,oq 91 (bQ .gtr 89 90)] <|
 .cond (.t 91) (sQ [oM 92 0,oq 93 (.call .shared 65 [(.t 92),(ki 15)])] <|
 sQ [oq 4 (.mov (.c (.int .u64 0)))] <|
 .ret) (.skip)) <|
 sQ [oM 94 0,oM 95 0,oH 96 95,oF 97 0 96,oL 98 97,oM 99 5,oq 100 (.bin .num .add (.t 99) (ki 1)),oq 101 (.sliceStr (.t 98) (some (.t 100)) none),oH 102 94,oF 103 0 102,⟨none,none,.store1 (.t 103) (.t 101)⟩] <|
 sQ [oM 104 6,oM 4 104] <|
 .ret
def v60:VFunc:=⟨105,[.tmp 4],c60⟩
def c61:VCode:=
 sQ [oq 4 (.mov (.c (.str ⟨#[]⟩)))] <|
 sQ [oM 7 0,oq 8 (.call .shared 60 [(.t 7),(.c (.int .u64 18446744073709551615))]),oM 5 8] <|
 .seq (sQ [oM 9 0,oH 10 9,oF 11 1 10,oL 12 11,oq 13 (.bin .num .neq (.t 12) (ki 0))] <|
 .cond (.t 13) (sQ [oq 4 (.mov (.c (.str ⟨#[]⟩)))] <|
 .ret) (.skip)) <|
 .seq (sQ [oM 14 1,oq 15 (.bin .num .lss (.t 14) (ki 0)),oM 16 15,zM 17 16 false 5,zM 18 16 false 1,og 19 16 false (.conv .u64 (.t 18)),og 20 16 false (bQ .gtr 17 19),oq 21 (.pick (.t 16) (.c (.bool true)) (.t 20))] <|
 .cond (.t 21) (sQ [oM 22 0,oq 23 (.call .shared 65 [(.t 22),(ki 15)])] <|
 sQ [oq 4 (.mov (.c (.str ⟨#[]⟩)))] <|
 .ret) (.skip)) <|
 .seq (sQ [oM 24 5,oM 25 0,oH 26 25,oF 27 0 26,oL 28 27,oq 29 (.lenStr (.t 28)),oq 30 (.conv .u64 (.t 29)),oq 31 (bQ .gtr 24 30)] <|
 .cond (.t 31) (sQ [oM 32 0,oq 33 (.call .shared 65 [(.t 32),(ki 10)])] <|
 sQ [oq 4 (.mov (.c (.str ⟨#[]⟩)))] <|
 .ret) (.skip)) <|
 sQ [oM 34 0,oH 35 34,oF 36 0 35,oL 37 36,oM 38 5,oq 39 (.conv .i64 (.t 38)),oq 40 (.sliceStr (.t 37) none (some (.t 39))),oM 6 40] <|
 sQ [oM 41 0,oM 42 0,oH 43 42,oF 44 0 43,oL 45 44,oM 46 5,oq 47 (.conv .i64 (.t 46)),oq 48 (.sliceStr (.t 45) (some (.t 47)) none),oH 49 41,oF 50 0 49,⟨none,none,.store1 (.t 50) (.t 48)⟩] <|
 sQ [oM 51 6,oM 4 51] <|
 .ret
def v61:VFunc:=⟨52,[.tmp 4],c61⟩
def c62:VCode:=
 sQ [oq 6 (.mov (ki 0))] <|
 sQ [oM 9 0,oq 10 (.call .shared 60 [(.t 9),(.c (.int .u64 18446744073709551615))]),oM 7 10] <|
 sQ [oM 11 7,oq 12 (.bin .num .quo (.t 11) (.c (.int .u64 2))),oq 13 (.conv .i64 (.t 12)),oM 8 13] <|
 .seq (sQ [oM 14 7,oq 15 (.bin .num .rem (.t 14) (.c (.int .u64 2))),oq 16 (.bin .num .eql (.t 15) (.c (.int .u64 1)))] <|
 .cond (.t 16) (.ops [oM 17 8,oq 18 (.un .neg (.t 17)),oq 19 (.bin .num .sub (.t 18) (ki 1)),oM 8 19]) (.skip)) <|
 .seq (sQ [oM 20 0,oH 21 20,oF 22 1 21,oL 23 22,oq 24 (.bin .num .neq (.t 23) (ki 0))] <|
 .cond (.t 24) (sQ [oq 6 (.mov (ki 0))] <|
 .ret) (.skip)) <|
 .seq (sQ [oM 25 8,oM 26 1,oq 27 (bQ .lss 25 26),oM 28 27,zM 29 28 false 8,zM 30 28 false 2,og 31 28 false (bQ .gtr 29 30),oq 32 (.pick (.t 28) (.c (.bool true)) (.t 31))] <|
 .cond (.t 32) (sQ [oM 33 0,oq 34 (.call .shared 65 [(.t 33),(ki 15)])] <|
 sQ [oq 6 (.mov (ki 0))] <|
 .ret) (.skip)) <|
 sQ [oM 35 8,oM 6 35] <|
 .ret
def v62:VFunc:=⟨36,[.tmp 6],c62⟩
def c63:VCode:=
 sQ [oq 2 (.mov (.c (.bool false)))] <|
 .seq (sQ [oM 4 0,oH 5 4,oF 6 1 5,oL 7 6,oq 8 (.bin .num .neq (.t 7) (ki 0))] <|
 .cond (.t 8) (sQ [oq 2 (.mov (.c (.bool false)))] <|
 .ret) (.skip)) <|
 .seq (sQ [oM 9 0,oH 10 9,oF 11 0 10,oL 12 11,oq 13 (.bin .num .eql (.t 12) (.c (.str ⟨#[]⟩)))] <|
 .cond (.t 13) (sQ [oM 14 0,oq 15 (.call .shared 65 [(.t 14),(ki 10)])] <|
 sQ [oq 2 (.mov (.c (.bool false)))] <|
 .ret) (.skip)) <|
 sQ [oM 16 0,oH 17 16,oF 18 0 17,oL 19 18,oq 20 (.idxStr (.t 19) (ki 0)),oM 3 20] <|
 .seq (sQ [oM 21 3,oq 22 (.bin .num .gtr (.t 21) (.c (.int .u8 1)))] <|
 .cond (.t 22) (sQ [oM 23 0,oq 24 (.call .shared 65 [(.t 23),(ki 11)])] <|
 sQ [oq 2 (.mov (.c (.bool false)))] <|
 .ret) (.skip)) <|
 sQ [oM 25 0,oM 26 0,oH 27 26,oF 28 0 27,oL 29 28,oq 30 (.sliceStr (.t 29) (some (ki 1)) none),oH 31 25,oF 32 0 31,⟨none,none,.store1 (.t 32) (.t 30)⟩] <|
 sQ [oM 33 3,oq 34 (.bin .num .eql (.t 33) (.c (.int .u8 1))),oM 2 34] <|
 .ret
def v63:VFunc:=⟨35,[.tmp 2],c63⟩
def c64:VCode:=
 sQ [oq 2 (.alloc [(.int .i64 0),(.int .i64 0),(.int .i64 0)])] <|
 sQ [oq 3 (.alloc [(.int .i64 0),(.int .i64 0),(.int .i64 0)])] <|
 sQ [oM 4 0,oq 5 (.call .shared 60 [(.t 4),(.c (.int .u64 1099511627776))]),oq 6 (.conv .i64 (.t 5)),oF 7 0 3,⟨none,none,.store1 (.t 7) (.t 6)⟩] <|
 sQ [oM 8 0,oq 9 (.call .shared 60 [(.t 8),(.c (.int .u64 1125899906842624))]),oq 10 (.conv .i64 (.t 9)),oF 11 1 3,⟨none,none,.store1 (.t 11) (.t 10)⟩] <|
 sQ [oM 12 0,oq 13 (.call .shared 60 [(.t 12),(.c (.int .u64 1125899906842624))]),oq 14 (.conv .i64 (.t 13)),oF 15 2 3,⟨none,none,.store1 (.t 15) (.t 14)⟩] <|
 sQ [oK 16 3 3,⟨none,none,.storeN 3 (.t 2) (.t 16)⟩] <|
 .ret
def v64:VFunc:=⟨17,[.cellN 3 2],c64⟩
def c65:VCode:=
 sQ [oM 4 0,oH 5 4,oF 6 1 5,oL 7 6,oq 8 (.bin .num .eql (.t 7) (ki 0)),oM 9 8,zM 10 9 true 1,og 11 9 true (.bin .num .neq (.t 10) (ki 0)),oq 12 (.pick (.t 9) (.t 11) (.c (.bool false)))] <|
 .cond (.t 12) (.ops [oM 13 0,oM 14 0,oM 15 1,oH 16 13,oF 17 0 16,⟨none,none,.store1 (.t 17) (.c (.str ⟨#[]⟩))⟩,oH 18 14,oF 19 1 18,⟨none,none,.store1 (.t 19) (.t 15)⟩]) (.skip)
def v65:VFunc:=⟨20,[],c65⟩
def c66:VCode:=
 sQ [oB 1 0,oq 2 (.mov (.c (.bool false)))] <|
 .seq (sQ [oF 5 0 1,oL 6 5,oq 7 (.bin .num .lss (.t 6) (ki 0)),oM 8 7,zF 9 8 false 0 1,zL 10 8 false 9,og 11 8 false (.bin .num .gtr (.t 10) (ki 1099511627776)),oq 12 (.pick (.t 8) (.c (.bool true)) (.t 11)),oM 13 12,zF 14 13 false 1 1,zL 15 13 false 14,zS 16 13 false 15,og 17 13 false (.bin .num .gtr (.t 16) (ki 16)),oq 18 (.pick (.t 13) (.c (.bool true)) (.t 17)),oM 19 18,zK 20 19 false 3 1,og 21 19 false (.call .pure 87 [(.t 20)]),og 22 19 false (.un .not (.t 21)),oq 23 (.pick (.t 19) (.c (.bool true)) (.t 22))] <|
 .cond (.t 23) (sQ [oq 2 (.mov (.c (.bool false)))] <|
 .ret) (.skip)) <|
 .seq (sQ [oF 24 2 1,oL 25 24,oS 26 25,oq 27 (.mov (ki 0))] <|
 .block 0 (.loop (sQ [oq 28 (bQ .lss 27 26)] <|
 .seq (.cond (.t 28) (.skip) (.exit 0)) <|
 .seq (.block 1 (sQ [oM 29 27,oq 30 (.idxAddrS 11 (.t 25) (.t 27)),oK 31 11 30,oq 4 (.alloc [(.str ⟨#[]⟩),(.str ⟨#[]⟩),(.int .i64 0),(.int .i64 0),(.int .i64 0),(.int .i64 0),(.int .i64 0),(.int .i64 0),(.int .i64 0),(.int .i64 0),(.int .i64 0)]),oM 3 29,⟨none,none,.storeN 11 (.t 4) (.t 31)⟩] <|
 sQ [oK 32 3 1,oK 33 11 4,oq 34 (.call .pure 88 [(.t 32),(.t 33)]),oq 35 (.un .not (.t 34)),oM 36 35,zM 37 36 false 3,og 38 36 false (.bin .num .gtr (.t 37) (ki 0)),zM 39 36 false 38,zF 40 39 true 2 1,zL 41 39 true 40,zM 42 39 true 3,og 43 39 true (.bin .num .sub (.t 42) (ki 1)),og 44 39 true (.idxAddrS 11 (.t 41) (.t 43)),zF 45 39 true 0 44,zK 46 39 true 3 45,zF 47 39 true 0 4,zK 48 39 true 3 47,og 49 39 true (.call .pure 89 [(.t 46),(.t 48)]),og 50 39 true (.bin .num .geq (.t 49) (ki 0)),og 51 36 false (.pick (.t 39) (.t 50) (.c (.bool false))),oq 52 (.pick (.t 36) (.c (.bool true)) (.t 51))] <|
 .cond (.t 52) (sQ [oq 2 (.mov (.c (.bool false)))] <|
 .ret) (.skip))) <|
 .ops [oq 53 (.bin .num .add (.t 27) (ki 1)),oM 27 53]))) <|
 sQ [oq 2 (.mov (.c (.bool true)))] <|
 .ret
def v66:VFunc:=⟨54,[.tmp 2],c66⟩
def c67:VCode:=
 .seq (sQ [oM 4 0,oq 5 (.bin .ptr .eql (.t 4) (.c .nilp))] <|
 .cond (.t 5) (.ret) (.skip)) <|
 .seq (.block 0 (.loop (.seq (sQ [oM 6 1,oq 7 (.bin .num .geq (.t 6) (.c (.int .u64 128)))] <|
 .cond (.t 7) (.skip) (.exit 0)) <|
 .seq (.block 1 (.ops [oM 10 0,oM 11 0,oH 12 11,oF 13 0 12,oL 14 13,oM 15 1,oq 16 (.conv .u8 (.t 15)),oq 17 (.bin .num .or (.t 16) (.c (.int .u8 128))),oq 18 (.buildSlice false 1 1 [(.int .u8 0)] [(0,1,(.t 17))]),oq 19 (.append false false 1 1 (.t 14) (.t 18)),oH 20 10,oF 21 0 20,⟨none,none,.store1 (.t 21) (.t 19)⟩])) <|
 .ops [oM 8 1,oq 9 (.bin .num .shr (.t 8) (.c (.int .u64 7))),oM 1 9]))) <|
 .ops [oM 22 0,oM 23 0,oH 24 23,oF 25 0 24,oL 26 25,oM 27 1,oq 28 (.conv .u8 (.t 27)),oq 29 (.buildSlice false 1 1 [(.int .u8 0)] [(0,1,(.t 28))]),oq 30 (.append false false 1 1 (.t 26) (.t 29)),oH 31 22,oF 32 0 31,⟨none,none,.store1 (.t 32) (.t 30)⟩]
def v67:VFunc:=⟨33,[],c67⟩
def c68:VCode:=
 sQ [oM 4 0,oM 5 1,oq 6 (.lenStr (.t 5)),oq 7 (.conv .u64 (.t 6)),oq 8 (.call .shared 67 [(.t 4),(.t 7)])] <|
 sQ [oM 9 0,oq 10 (.bin .ptr .neq (.t 9) (.c .nilp))] <|
 .cond (.t 10) (.ops [oM 11 0,oM 12 0,oH 13 12,oF 14 0 13,oL 15 14,oM 16 1,oq 17 (.append false true 1 1 (.t 15) (.t 16)),oH 18 11,oF 19 0 18,⟨none,none,.store1 (.t 19) (.t 17)⟩]) (.skip)
def v68:VFunc:=⟨20,[],c68⟩
def c69:VCode:=
 .ops [oM 4 0,oM 5 1,oq 6 (.call .pure 90 [(.t 5)]),oq 7 (.call .shared 67 [(.t 4),(.t 6)])]
def v69:VFunc:=⟨8,[],c69⟩
def c70:VCode:=
 .seq (sQ [oM 4 1] <|
 .cond (.t 4) (sQ [oM 5 0,oq 6 (.call .shared 67 [(.t 5),(.c (.int .u64 1))])] <|
 .ret) (.skip)) <|
 .ops [oM 7 0,oq 8 (.call .shared 67 [(.t 7),(.c (.int .u64 0))])]
def v70:VFunc:=⟨9,[],c70⟩
def c71:VCode:=
 sQ [oM 8 1,oS 9 8,oq 10 (.mov (ki 0))] <|
 .block 0 (.loop (sQ [oq 11 (bQ .lss 10 9)] <|
 .seq (.cond (.t 11) (.skip) (.exit 0)) <|
 .seq (.block 1 (sQ [oq 12 (.idxAddrS 3 (.t 8) (.t 10)),oK 13 3 12,oq 5 (.alloc [(.int .i64 0),(.int .i64 0),(.int .i64 0)]),⟨none,none,.storeN 3 (.t 5) (.t 13)⟩] <|
 sQ [oF 14 0 5,oL 15 14,oF 16 1 5,oL 17 16,oF 18 2 5,oL 19 18,oq 20 (.buildSlice false 1 3 [(.int .i64 0),(.int .i64 0),(.int .i64 0)] [(0,1,(.t 15)),(1,1,(.t 17)),(2,1,(.t 19))]),oS 21 20,oq 22 (.mov (ki 0))] <|
 .block 2 (.loop (sQ [oq 23 (bQ .lss 22 21)] <|
 .seq (.cond (.t 23) (.skip) (.exit 2)) <|
 .seq (.block 3 (sQ [oq 24 (.idxAddrS 1 (.t 20) (.t 22)),oL 25 24,oM 7 25] <|
 .ops [oM 26 0,oM 27 7,oq 28 (.conv .u64 (.t 27)),oq 29 (.call .shared 67 [(.t 26),(.t 28)])])) <|
 .ops [oq 30 (.bin .num .add (.t 22) (ki 1)),oM 22 30])))) <|
 .ops [oq 31 (.bin .num .add (.t 10) (ki 1)),oM 10 31]))
def v71:VFunc:=⟨32,[],c71⟩
def c72:VCode:=
 sQ [oq 2 (.mov (.c (.sl .nil 0 [])))] <|
 .seq (sQ [oM 3 0,oq 4 (.bin .ptr .eql (.t 3) (.c .nilp))] <|
 .cond (.t 4) (sQ [oq 2 (.mov (.c (.sl .nil 0 [])))] <|
 .ret) (.skip)) <|
 sQ [oM 5 0,oH 6 5,oF 7 0 6,oL 8 7,oq 9 (.call .pure 37 [(.t 8)]),oM 2 9] <|
 .ret
def v72:VFunc:=⟨10,[.tmp 2],c72⟩
def c73:VCode:=
 sQ [oq 2 (.mov (.c (.sl .nil 0 [])))] <|
 sQ [oq 3 (.mov (ki 0))] <|
 .seq (sQ [oM 9 0,oS 10 9,oq 11 (.mov (ki 0))] <|
 .block 0 (.loop (sQ [oq 12 (bQ .lss 11 10)] <|
 .seq (.cond (.t 12) (.skip) (.exit 0)) <|
 .seq (.block 1 (sQ [oq 13 (.idxAddrS 1 (.t 9) (.t 11)),oL 14 13,oM 5 14] <|
 sQ [oM 15 3,oM 16 5,oS 17 16,oq 18 (bQ .add 15 17),oM 3 18] <|
 sQ [oM 19 3,oq 20 (.bin .num .lss (.t 19) (ki 0))] <|
 .cond (.t 20) (.ops [⟨none,none,.bad⟩,⟨none,none,.bad⟩]) (.skip))) <|
 .ops [oq 22 (.bin .num .add (.t 11) (ki 1)),oM 11 22]))) <|
 sQ [oM 23 3,oq 24 (.call .own 91 [(.c (.sl .nil 0 [])),(.t 23)]),oM 6 24] <|
 .seq (sQ [oM 25 0,oS 26 25,oq 27 (.mov (ki 0))] <|
 .block 2 (.loop (sQ [oq 28 (bQ .lss 27 26)] <|
 .seq (.cond (.t 28) (.skip) (.exit 2)) <|
 .seq (.block 3 (sQ [oq 29 (.idxAddrS 1 (.t 25) (.t 27)),oL 30 29,oM 8 30] <|
 .ops [oM 31 6,oM 32 8,oq 33 (.append false false 1 1 (.t 31) (.t 32)),oM 6 33])) <|
 .ops [oq 34 (.bin .num .add (.t 27) (ki 1)),oM 27 34]))) <|
 sQ [oM 35 6,oM 2 35] <|
 .ret
def v73:VFunc:=⟨36,[.tmp 2],c73⟩
def c74:VCode:=
 sQ [oq 4 (.mov (.c (.sl .nil 0 [])))] <|
 sQ [oM 7 1,oq 8 (.mkSlice true 1 [(.int .u8 0)] (.t 7) (.t 7)),oM 5 8] <|
 .seq (sQ [oM 9 5,oS 10 9,oq 11 (.mov (ki 0))] <|
 .block 0 (.loop (sQ [oq 12 (bQ .lss 11 10)] <|
 .seq (.cond (.t 12) (.skip) (.exit 0)) <|
 .seq (.block 1 (sQ [oM 13 11,oM 6 13] <|
 .ops [oM 14 5,oM 15 6,oM 16 0,oM 17 1,oq 18 (.bin .num .sub (.t 17) (ki 1)),oM 19 6,oq 20 (bQ .sub 18 19),oq 21 (.bin .num .mul (ki 8) (.t 20)),oq 22 (bQ .shr 16 21),oq 23 (.conv .u8 (.t 22)),oq 24 (.idxAddrS 1 (.t 14) (.t 15)),⟨none,none,.store1 (.t 24) (.t 23)⟩])) <|
 .ops [oq 25 (.bin .num .add (.t 11) (ki 1)),oM 11 25]))) <|
 sQ [oM 26 5,oM 4 26] <|
 .ret
def v74:VFunc:=⟨27,[.tmp 4],c74⟩
def c75:VCode:=
 sQ [oq 2 (.alloc [(.int .u8 0),(.int .u8 0),(.int .u8 0),(.int .u8 0)])] <|
 sQ [oM 3 0,oq 4 (.bin .num .shr (.t 3) (.c (.int .u64 24))),oq 5 (.conv .u8 (.t 4)),oM 6 0,oq 7 (.bin .num .shr (.t 6) (.c (.int .u64 16))),oq 8 (.conv .u8 (.t 7)),oM 9 0,oq 10 (.bin .num .shr (.t 9) (.c (.int .u64 8))),oq 11 (.conv .u8 (.t 10)),oM 12 0,oq 13 (.conv .u8 (.t 12)),oq 14 (.build [(.int .u8 0),(.int .u8 0),(.int .u8 0),(.int .u8 0)] [(0,1,(.t 5)),(1,1,(.t 8)),(2,1,(.t 11)),(3,1,(.t 13))]),⟨none,none,.storeN 4 (.t 2) (.t 14)⟩] <|
 .ret
def v75:VFunc:=⟨15,[.cellN 4 2],c75⟩
def c76:VCode:=
 sQ [oq 2 (.mov (.c (.int .u32 0)))] <|
 sQ [oq 4 (.call .shared 92 []),oM 3 4] <|
 sQ [oM 5 3,oM 6 0,oq 7 (.call .shared 93 [(.t 5),(.t 6)])] <|
 sQ [oM 8 3,oq 9 (.call .shared 94 [(.t 8)]),oM 2 9] <|
 .ret
def v76:VFunc:=⟨10,[.tmp 2],c76⟩
def c77:VCode:=
 sQ [oq 2 (.mov (.c .nilp))] <|
 sQ [oM 3 0,oq 4 (.call .pure 37 [(.t 3)]),oq 5 (.build [(.sl .nil 0 []),(.int .i64 0)] [(0,1,(.t 4))]),oB 6 5,oM 2 6] <|
 .ret
def v77:VFunc:=⟨7,[.tmp 2],c77⟩
def c78:VCode:=
 sQ [oq 4 (.mov (ki 0))] <|
 sQ [oM 5 0,oM 6 1,oq 7 (.conv .u64 (.t 6)),oq 8 (.call .shared 95 [(.t 5),(.t 7)]),oq 9 (.conv .i64 (.t 8)),oM 4 9] <|
 .ret
def v78:VFunc:=⟨10,[.tmp 4],c78⟩
def c79:VCode:=
 sQ [oq 2 (.alloc [(.str ⟨#[]⟩),(.int .i64 0),(.int .i64 0),(.sl .nil 0 []),(.str ⟨#[]⟩),(.int .i64 0),(.int .i64 0),(.sl .nil 0 []),(.int .i64 0),(.int .i64 0)])] <|
 sQ [oM 7 0,oq 8 (.call .shared 80 [(.t 7),(ki 16)]),oM 9 0,oq 10 (.call .shared 96 [(.t 9),(.c (.int .i64 (-1000))),(ki 1000)]),oM 11 0,oq 12 (.call .shared 78 [(.t 11),(ki 2)]),oq 13 (.build [(.str ⟨#[]⟩),(.int .i64 0),(.int .i64 0),(.sl .nil 0 [])] [(0,1,(.t 8)),(1,1,(.t 10)),(2,1,(.t 12))]),oq 3 (.alloc [(.str ⟨#[]⟩),(.int .i64 0),(.int .i64 0),(.sl .nil 0 [])]),⟨none,none,.storeN 4 (.t 3) (.t 13)⟩] <|
 sQ [oK 14 4 3,oK 15 4 3,oq 16 (.build [(.str ⟨#[]⟩),(.int .i64 0),(.int .i64 0),(.sl .nil 0 []),(.str ⟨#[]⟩),(.int .i64 0),(.int .i64 0),(.sl .nil 0 []),(.int .i64 0),(.int .i64 0)] [(0,4,(.t 14)),(4,4,(.t 15))]),oq 4 (.alloc [(.str ⟨#[]⟩),(.int .i64 0),(.int .i64 0),(.sl .nil 0 []),(.str ⟨#[]⟩),(.int .i64 0),(.int .i64 0),(.sl .nil 0 []),(.int .i64 0),(.int .i64 0)]),⟨none,none,.storeN 10 (.t 4) (.t 16)⟩] <|
 .seq (sQ [oM 17 0,oq 18 (.call .shared 78 [(.t 17),(ki 6)]),oq 19 (.mov (ki 0))] <|
 .block 0 (.loop (sQ [oq 20 (bQ .lss 19 18)] <|
 .seq (.cond (.t 20) (.skip) (.exit 0)) <|
 .seq (.block 1 (sQ [oM 22 0,oq 23 (.call .shared 97 [(.t 22)]),oM 21 23,oX 24 0 21,oX 25 1 21,oq 5 (.alloc [(.str ⟨#[]⟩),(.int .i64 0),(.int .i64 0),(.int .i64 0),(.int .i64 0),(.int .i64 0),(.int .i64 0),(.bool false),(.bool false),(.bool false)]),oq 6 (.alloc [(.str ⟨#[]⟩),(.int .i64 0),(.int .i64 0),(.int .i64 0),(.int .i64 0),(.int .i64 0),(.int .i64 0),(.bool false),(.bool false),(.bool false)]),⟨none,none,.storeN 10 (.t 5) (.t 24)⟩,⟨none,none,.storeN 10 (.t 6) (.t 25)⟩] <|
 sQ [oF 26 0 4,oF 27 3 26,oL 28 27,oK 29 10 5,oq 30 (.buildSlice false 10 1 [(.str ⟨#[]⟩),(.int .i64 0),(.int .i64 0),(.int .i64 0),(.int .i64 0),(.int .i64 0),(.int .i64 0),(.bool false),(.bool false),(.bool false)] [(0,10,(.t 29))]),oq 31 (.append false false 10 72 (.t 28) (.t 30)),oF 32 0 4,oF 33 3 32,⟨none,none,.store1 (.t 33) (.t 31)⟩] <|
 .ops [oF 34 4 4,oF 35 3 34,oL 36 35,oK 37 10 6,oq 38 (.buildSlice false 10 1 [(.str ⟨#[]⟩),(.int .i64 0),(.int .i64 0),(.int .i64 0),(.int .i64 0),(.int .i64 0),(.int .i64 0),(.bool false),(.bool false),(.bool false)] [(0,10,(.t 37))]),oq 39 (.append false false 10 72 (.t 36) (.t 38)),oF 40 4 4,oF 41 3 40,⟨none,none,.store1 (.t 41) (.t 39)⟩])) <|
 .ops [oq 42 (.bin .num .add (.t 19) (ki 1)),oM 19 42]))) <|
 sQ [oM 43 0,oq 44 (.call .shared 78 [(.t 43),(ki 1099511627776)]),oM 45 0,oq 46 (.call .shared 78 [(.t 45),(ki 63)]),oF 47 8 4,⟨none,none,.store1 (.t 47) (.t 44)⟩,oF 48 9 4,⟨none,none,.store1 (.t 48) (.t 46)⟩] <|
 sQ [oK 49 10 4,⟨none,none,.storeN 10 (.t 2) (.t 49)⟩] <|
 .ret
def v79:VFunc:=⟨50,[.cellN 10 2],c79⟩
def c80:VCode:=
 sQ [oq 4 (.mov (.c (.str ⟨#[]⟩)))] <|
 .seq (sQ [oM 7 0,oq 8 (.bin .ptr .eql (.t 7) (.c .nilp))] <|
 .cond (.t 8) (sQ [oq 4 (.mov (.c (.str ⟨#[]⟩)))] <|
 .ret) (.skip)) <|
 sQ [oM 9 0,oq 10 (.call .shared 95 [(.t 9),(.c (.int .u64 18446744073709551615))]),oM 5 10] <|
 .seq (.block 0 (sQ [oM 12 0,oH 13 12,oF 14 1 13,oL 15 14,oq 16 (.bin .num .neq (.t 15) (ki 0)),oM 11 16] <|
 .cond (.t 11) (sQ [oq 4 (.mov (.c (.str ⟨#[]⟩)))] <|
 .ret) (sQ [oM 18 1,oq 19 (.bin .num .lss (.t 18) (ki 0)),oM 20 19,zM 21 20 false 5,zM 22 20 false 1,og 23 20 false (.conv .u64 (.t 22)),og 24 20 false (bQ .gtr 21 23),oq 25 (.pick (.t 20) (.c (.bool true)) (.t 24)),oM 17 25] <|
 .cond (.t 17) (sQ [oM 26 0,oq 27 (.call .shared 98 [(.t 26),(ki 15)])] <|
 sQ [oq 4 (.mov (.c (.str ⟨#[]⟩)))] <|
 .ret) (sQ [oM 29 5,oM 30 0,oH 31 30,oF 32 0 31,oL 33 32,oS 34 33,oq 35 (.conv .u64 (.t 34)),oq 36 (bQ .gtr 29 35),oM 28 36] <|
 .cond (.t 28) (sQ [oM 37 0,oq 38 (.call .shared 98 [(.t 37),(ki 10)])] <|
 sQ [oq 4 (.mov (.c (.str ⟨#[]⟩)))] <|
 .ret) (.skip))))) <|
 sQ [oM 39 0,oH 40 39,oF 41 0 40,oL 42 41,oM 43 5,oq 44 (.sliceS 1 (.t 42) none (some (.t 43)) none),oq 45 (.strOfP (.t 44)),oM 6 45] <|
 sQ [oM 46 0,oM 47 0,oH 48 47,oF 49 0 48,oL 50 49,oM 51 5,oq 52 (.sliceS 1 (.t 50) (some (.t 51)) none none),oH 53 46,oF 54 0 53,⟨none,none,.store1 (.t 54) (.t 52)⟩] <|
 sQ [oM 55 6,oM 4 55] <|
 .ret
def v80:VFunc:=⟨56,[.tmp 4],c80⟩
def c81:VCode:=
 sQ [oq 2 (.mov (ki 0))] <|
 .seq (sQ [oM 3 0,oq 4 (.call .shared 99 [(.t 3)]),oq 5 (.bin .num .gtr (.t 4) (ki 0))] <|
 .cond (.t 5) (.ops [oM 6 0,oq 7 (.call .shared 98 [(.t 6),(ki 13)])]) (.skip)) <|
 sQ [oM 8 0,oq 9 (.call .shared 100 [(.t 8)]),oM 2 9] <|
 .ret
def v81:VFunc:=⟨10,[.tmp 2],c81⟩
def c82:VCode:=
 sQ [oB 1 0,oq 2 (.mov (.c (.bool false)))] <|
 .seq (sQ [oF 10 0 1,oL 11 10,oq 12 (.call .pure 101 [(.t 11)]),oq 13 (.un .not (.t 12)),oM 14 13,zF 15 14 false 1 1,zL 16 14 false 15,og 17 14 false (.bin .num .lss (.t 16) (.c (.int .i64 (-1000)))),oq 18 (.pick (.t 14) (.c (.bool true)) (.t 17)),oM 19 18,zF 20 19 false 1 1,zL 21 19 false 20,og 22 19 false (.bin .num .gtr (.t 21) (ki 1000)),oq 23 (.pick (.t 19) (.c (.bool true)) (.t 22)),oM 24 23,zF 25 24 false 2 1,zL 26 24 false 25,og 27 24 false (.bin .num .lss (.t 26) (ki 0)),oq 28 (.pick (.t 24) (.c (.bool true)) (.t 27)),oM 29 28,zF 30 29 false 2 1,zL 31 29 false 30,og 32 29 false (.bin .num .gtr (.t 31) (ki 2)),oq 33 (.pick (.t 29) (.c (.bool true)) (.t 32)),oM 34 33,zF 35 34 false 3 1,zL 36 34 false 35,zS 37 34 false 36,og 38 34 false (.bin .num .lss (.t 37) (ki 1)),oq 39 (.pick (.t 34) (.c (.bool true)) (.t 38)),oM 40 39,zF 41 40 false 3 1,zL 42 40 false 41,zS 43 40 false 42,og 44 40 false (.bin .num .gtr (.t 43) (ki 6)),oq 45 (.pick (.t 40) (.c (.bool true)) (.t 44))] <|
 .cond (.t 45) (sQ [oq 2 (.mov (.c (.bool false)))] <|
 .ret) (.skip)) <|
 .seq (sQ [oF 46 3 1,oL 47 46,oS 48 47,oq 49 (.mov (ki 0))] <|
 .block 0 (.loop (sQ [oq 50 (bQ .lss 49 48)] <|
 .seq (.cond (.t 50) (.skip) (.exit 0)) <|
 .seq (.block 1 (sQ [oM 51 49,oq 52 (.idxAddrS 10 (.t 47) (.t 49)),oK 53 10 52,oq 4 (.alloc [(.str ⟨#[]⟩),(.int .i64 0),(.int .i64 0),(.int .i64 0),(.int .i64 0),(.int .i64 0),(.int .i64 0),(.bool false),(.bool false),(.bool false)]),oM 3 51,⟨none,none,.storeN 10 (.t 4) (.t 53)⟩] <|
 .seq (sQ [oK 54 10 4,oq 55 (.call .pure 102 [(.t 54)]),oq 56 (.un .not (.t 55))] <|
 .cond (.t 56) (sQ [oq 2 (.mov (.c (.bool false)))] <|
 .ret) (.skip)) <|
 sQ [oF 57 3 1,oL 58 57,oM 59 3,oq 60 (.sliceS 10 (.t 58) none (some (.t 59)) none),oS 61 60,oq 62 (.mov (ki 0))] <|
 .block 2 (.loop (sQ [oq 63 (bQ .lss 62 61)] <|
 .seq (.cond (.t 63) (.skip) (.exit 2)) <|
 .seq (.block 3 (sQ [oq 64 (.idxAddrS 10 (.t 60) (.t 62)),oK 65 10 64,oq 6 (.alloc [(.str ⟨#[]⟩),(.int .i64 0),(.int .i64 0),(.int .i64 0),(.int .i64 0),(.int .i64 0),(.int .i64 0),(.bool false),(.bool false),(.bool false)]),⟨none,none,.storeN 10 (.t 6) (.t 65)⟩] <|
 sQ [oF 66 0 4,oL 67 66,oF 68 0 6,oL 69 68,oq 70 (bQ .eql 67 69)] <|
 .cond (.t 70) (sQ [oq 2 (.mov (.c (.bool false)))] <|
 .ret) (.skip))) <|
 .ops [oq 71 (.bin .num .add (.t 62) (ki 1)),oM 62 71])))) <|
 .ops [oq 72 (.bin .num .add (.t 49) (ki 1)),oM 49 72]))) <|
 sQ [oK 74 4 1,oq 75 (.call .shared 103 [(.t 74)]),oM 73 75,oX 76 0 73,oX 77 1 73,oX 78 2 73,oq 7 (.alloc [(.int .i64 0),(.int .i64 0),(.int .i64 0)]),oq 8 (.alloc [(.int .i64 0),(.int .i64 0),(.int .i64 0)]),⟨none,none,.storeN 3 (.t 7) (.t 76)⟩,⟨none,none,.storeN 3 (.t 8) (.t 77)⟩,oM 9 78] <|
 sQ [oM 79 9,oM 2 79] <|
 .ret
def v82:VFunc:=⟨80,[.tmp 2],c82⟩
def c83:VCode:=
 sQ [oB 2 0,oB 3 1,oq 4 (.mov (.c (.bool false)))] <|
 .seq (sQ [oF 7 0 2,oL 8 7,oF 9 0 3,oL 10 9,oq 11 (bQ .neq 8 10),oM 12 11,zF 13 12 false 1 2,zL 14 12 false 13,zF 15 12 false 1 3,zL 16 12 false 15,og 17 12 false (bQ .neq 14 16),oq 18 (.pick (.t 12) (.c (.bool true)) (.t 17)),oM 19 18,zF 20 19 false 2 2,zL 21 19 false 20,zF 22 19 false 2 3,zL 23 19 false 22,og 24 19 false (bQ .neq 21 23),oq 25 (.pick (.t 19) (.c (.bool true)) (.t 24)),oM 26 25,zF 27 26 false 3 2,zL 28 26 false 27,zS 29 26 false 28,zF 30 26 false 3 3,zL 31 26 false 30,zS 32 26 false 31,og 33 26 false (bQ .neq 29 32),oq 34 (.pick (.t 26) (.c (.bool true)) (.t 33))] <|
 .cond (.t 34) (sQ [oq 4 (.mov (.c (.bool false)))] <|
 .ret) (.skip)) <|
 .seq (sQ [oF 35 3 2,oL 36 35,oS 37 36,oq 38 (.mov (ki 0))] <|
 .block 0 (.loop (sQ [oq 39 (bQ .lss 38 37)] <|
 .seq (.cond (.t 39) (.skip) (.exit 0)) <|
 .seq (.block 1 (sQ [oM 40 38,oq 41 (.idxAddrS 10 (.t 36) (.t 38)),oK 42 10 41,oq 6 (.alloc [(.str ⟨#[]⟩),(.int .i64 0),(.int .i64 0),(.int .i64 0),(.int .i64 0),(.int .i64 0),(.int .i64 0),(.bool false),(.bool false),(.bool false)]),oM 5 40,⟨none,none,.storeN 10 (.t 6) (.t 42)⟩] <|
 sQ [oF 43 0 6,oL 44 43,oF 45 3 3,oL 46 45,oM 47 5,oq 48 (.idxAddrS 10 (.t 46) (.t 47)),oF 49 0 48,oL 50 49,oq 51 (bQ .neq 44 50),oM 52 51,zF 53 52 false 7 6,zK 54 52 false 3 53,zF 55 52 false 3 3,zL 56 52 false 55,zM 57 52 false 5,og 58 52 false (.idxAddrS 10 (.t 56) (.t 57)),zF 59 52 false 7 58,zK 60 52 false 3 59,og 61 52 false (.bin (.agg [.b,.b,.b]) .neq (.t 54) (.t 60)),oq 62 (.pick (.t 52) (.c (.bool true)) (.t 61))] <|
 .cond (.t 62) (sQ [oq 4 (.mov (.c (.bool false)))] <|
 .ret) (.skip))) <|
 .ops [oq 63 (.bin .num .add (.t 38) (ki 1)),oM 38 63]))) <|
 sQ [oq 4 (.mov (.c (.bool true)))] <|
 .ret
def v83:VFunc:=⟨64,[.tmp 4],c83⟩
def c84:VCode:=
 sQ [oB 1 0,oq 2 (.mov (ki 0))] <|
 sQ [oq 3 (.mov (.c (.bool true)))] <|
 .seq (sQ [oF 8 3 1,oL 9 8,oS 10 9,oq 11 (.mov (ki 0))] <|
 .block 0 (.loop (sQ [oq 12 (bQ .lss 11 10)] <|
 .seq (.cond (.t 12) (.skip) (.exit 0)) <|
 .seq (.block 1 (sQ [oq 13 (.idxAddrS 10 (.t 9) (.t 11)),oK 14 10 13,oq 5 (.alloc [(.str ⟨#[]⟩),(.int .i64 0),(.int .i64 0),(.int .i64 0),(.int .i64 0),(.int .i64 0),(.int .i64 0),(.bool false),(.bool false),(.bool false)]),⟨none,none,.storeN 10 (.t 5) (.t 14)⟩] <|
 .ops [oM 15 3,oM 16 15,zF 17 16 true 1 5,zF 18 16 true 0 17,zL 19 16 true 18,og 20 16 true (.bin .num .eql (.t 19) (ki 0)),oq 21 (.pick (.t 16) (.t 20) (.c (.bool false))),oM 22 21,zF 23 22 true 1 5,zF 24 22 true 1 23,zL 25 22 true 24,og 26 22 true (.bin .num .eql (.t 25) (ki 0)),oq 27 (.pick (.t 22) (.t 26) (.c (.bool false))),oM 28 27,zF 29 28 true 4 5,zF 30 28 true 0 29,zL 31 28 true 30,og 32 28 true (.bin .num .eql (.t 31) (ki 0)),oq 33 (.pick (.t 28) (.t 32) (.c (.bool false))),oM 34 33,zF 35 34 true 4 5,zF 36 34 true 1 35,zL 37 34 true 36,og 38 34 true (.bin .num .eql (.t 37) (ki 0)),oq 39 (.pick (.t 34) (.t 38) (.c (.bool false))),oM 3 39])) <|
 .ops [oq 40 (.bin .num .add (.t 11) (ki 1)),oM 11 40]))) <|
 .seq (sQ [oM 41 3] <|
 .cond (.t 41) (sQ [oq 2 (.mov (ki 2))] <|
 .ret) (.skip)) <|
 .seq (sQ [oF 42 3 1,oL 43 42,oS 44 43,oq 45 (.mov (ki 0))] <|
 .block 2 (.loop (sQ [oq 46 (bQ .lss 45 44)] <|
 .seq (.cond (.t 46) (.skip) (.exit 2)) <|
 .seq (.block 3 (sQ [oq 47 (.idxAddrS 10 (.t 43) (.t 45)),oK 48 10 47,oq 7 (.alloc [(.str ⟨#[]⟩),(.int .i64 0),(.int .i64 0),(.int .i64 0),(.int .i64 0),(.int .i64 0),(.int .i64 0),(.bool false),(.bool false),(.bool false)]),⟨none,none,.storeN 10 (.t 7) (.t 48)⟩] <|
 sQ [oF 49 1 7,oF 50 0 49,oL 51 50,oF 52 4 7,oF 53 0 52,oL 54 53,oq 55 (bQ .neq 51 54),oM 56 55,zF 57 56 false 1 7,zF 58 56 false 1 57,zL 59 56 false 58,zF 60 56 false 4 7,zF 61 56 false 1 60,zL 62 56 false 61,og 63 56 false (bQ .neq 59 62),oq 64 (.pick (.t 56) (.c (.bool true)) (.t 63)),oM 65 64,zF 66 65 false 1 7,zF 67 65 false 0 66,zL 68 65 false 67,og 69 65 false (.bin .num .eql (.t 68) (ki 0)),oq 70 (.pick (.t 65) (.c (.bool true)) (.t 69)),oM 71 70,zF 72 71 false 1 7,zF 73 71 false 1 72,zL 74 71 false 73,og 75 71 false (.bin .num .eql (.t 74) (ki 0)),oq 76 (.pick (.t 71) (.c (.bool true)) (.t 75))] <|
 .cond (.t 76) (sQ [oq 2 (.mov (ki 1))] <|
 .ret) (.skip))) <|
 .ops [oq 77 (.bin .num .add (.t 45) (ki 1)),oM 45 77]))) <|
 sQ [oq 2 (.mov (ki 0))] <|
 .ret
def v84:VFunc:=⟨78,[.tmp 2],c84⟩
def c85:VCode:=
 sQ [oq 2 (.mov (.c (.int .u64 0)))] <|
 sQ [oq 3 (.mov (.c (.int .u64 0)))] <|
 .seq (sQ [oM 6 0,oS 7 6,oq 8 (.mov (ki 0))] <|
 .block 0 (.loop (sQ [oq 9 (bQ .lss 8 7)] <|
 .seq (.cond (.t 9) (.skip) (.exit 0)) <|
 .seq (.block 1 (sQ [oq 10 (.idxAddrS 1 (.t 6) (.t 8)),oL 11 10,oM 5 11] <|
 .ops [oM 12 3,oq 13 (.bin .num .shl (.t 12) (.c (.int .u64 8))),oM 14 5,oq 15 (.conv .u64 (.t 14)),oq 16 (bQ .or 13 15),oM 3 16])) <|
 .ops [oq 17 (.bin .num .add (.t 8) (ki 1)),oM 8 17]))) <|
 sQ [oM 18 3,oM 2 18] <|
 .ret
def v85:VFunc:=⟨19,[.tmp 2],c85⟩
def c86:VCode:=
 sQ [oB 1 0,oq 2 (.mov (.c (.int .u32 0)))] <|
 sQ [oq 3 (.mov (.c (.int .u32 0)))] <|
 .seq (sQ [oK 6 4 1,oq 7 (.mov (ki 0))] <|
 .block 0 (.loop (sQ [oq 8 (.bin .num .lss (.t 7) (ki 4))] <|
 .seq (.cond (.t 8) (.skip) (.exit 0)) <|
 .seq (.block 1 (sQ [oq 9 (.idxA1 4 (.t 6) (.t 7)),oM 5 9] <|
 .ops [oM 10 3,oq 11 (.bin .num .shl (.t 10) (.c (.int .u64 8))),oM 12 5,oq 13 (.conv .u32 (.t 12)),oq 14 (bQ .or 11 13),oM 3 14])) <|
 .ops [oq 15 (.bin .num .add (.t 7) (ki 1)),oM 7 15]))) <|
 sQ [oM 16 3,oM 2 16] <|
 .ret
def v86:VFunc:=⟨17,[.tmp 2],c86⟩
def c87:VCode:=
 sQ [oB 1 0,oq 2 (.mov (.c (.bool false)))] <|
 sQ [oq 6 (.mkMap),oM 3 6] <|
 .seq (sQ [oF 7 1 1,oL 8 7,oS 9 8,oq 10 (.mov (ki 0))] <|
 .block 0 (.loop (sQ [oq 11 (bQ .lss 10 9)] <|
 .seq (.cond (.t 11) (.skip) (.exit 0)) <|
 .seq (.block 1 (sQ [oM 12 10,oq 13 (.idxAddrS 10 (.t 8) (.t 10)),oK 14 10 13,oq 5 (.alloc [(.str ⟨#[]⟩),(.int .i64 0),(.int .i64 0),(.sl .nil 0 []),(.str ⟨#[]⟩),(.int .i64 0),(.int .i64 0),(.sl .nil 0 []),(.int .i64 0),(.int .i64 0)]),oM 4 12,⟨none,none,.storeN 10 (.t 5) (.t 14)⟩] <|
 sQ [oM 15 3,oF 16 8 5,oL 17 16,oq 18 (.lookM false .i (.int .i64 0) (.t 15) (.t 17)),oq 19 (.bin .num .add (.t 18) (ki 1)),⟨none,none,.updM .i (.t 15) (.t 17) (.t 19)⟩] <|
 sQ [oK 20 10 5,oq 21 (.call .pure 104 [(.t 20)]),oq 22 (.un .not (.t 21)),oM 23 22,zF 24 23 false 8 5,zL 25 23 false 24,zF 26 23 false 0 1,zL 27 23 false 26,og 28 23 false (bQ .geq 25 27),oq 29 (.pick (.t 23) (.c (.bool true)) (.t 28)),oM 30 29,zM 31 30 false 3,zF 32 30 false 8 5,zL 33 30 false 32,og 34 30 false (.lookM false .i (.int .i64 0) (.t 31) (.t 33)),og 35 30 false (.bin .num .gtr (.t 34) (ki 1)),oq 36 (.pick (.t 30) (.c (.bool true)) (.t 35)),oM 37 36,zM 38 37 false 4,og 39 37 false (.bin .num .gtr (.t 38) (ki 0)),zM 40 37 false 39,zF 41 40 true 1 1,zL 42 40 true 41,zM 43 40 true 4,og 44 40 true (.bin .num .sub (.t 43) (ki 1)),og 45 40 true (.idxAddrS 10 (.t 42) (.t 44)),zF 46 40 true 0 45,zF 47 40 true 0 46,zL 48 40 true 47,zF 49 40 true 0 5,zF 50 40 true 0 49,zL 51 40 true 50,og 52 40 true (bQ .geq 48 51),og 53 37 false (.pick (.t 40) (.t 52) (.c (.bool false))),oq 54 (.pick (.t 37) (.c (.bool true)) (.t 53))] <|
 .cond (.t 54) (sQ [oq 2 (.mov (.c (.bool false)))] <|
 .ret) (.skip))) <|
 .ops [oq 55 (.bin .num .add (.t 10) (ki 1)),oM 10 55]))) <|
 sQ [oF 56 1 1,oL 57 56,oS 58 57,oq 59 (.bin .num .leq (.t 58) (ki 16)),oM 2 59] <|
 .ret
def v87:VFunc:=⟨60,[.tmp 2],c87⟩
def c88:VCode:=
 sQ [oB 2 0,oB 3 1,oq 4 (.mov (.c (.bool false)))] <|
 sQ [oK 12 3 2,oF 13 0 3,oF 14 0 13,oL 15 14,oq 16 (.call .pure 105 [(.t 12),(.t 15)]),oM 11 16,oX 17 0 11,oX 18 1 11,oM 5 17,oM 6 18] <|
 .seq (sQ [oM 19 6,oq 20 (.un .not (.t 19)),oM 21 20,zF 22 21 false 0 3,zF 23 21 false 2 22,zL 24 21 false 23,og 25 21 false (.bin .num .lss (.t 24) (ki 0)),oq 26 (.pick (.t 21) (.c (.bool true)) (.t 25)),oM 27 26,zF 28 27 false 0 3,zF 29 27 false 2 28,zL 30 27 false 29,og 31 27 false (.bin .num .gtr (.t 30) (ki 1)),oq 32 (.pick (.t 27) (.c (.bool true)) (.t 31)),oM 33 32,zF 34 33 false 3 3,zK 35 33 false 8 34,og 36 33 false (.build [(.int .i64 0),(.int .i64 0),(.int .i64 0),(.int .i64 0),(.int .i64 0),(.int .i64 0),(.int .i64 0),(.int .i64 0)] []),og 37 33 false (.bin (.agg [.i,.i,.i,.i,.i,.i,.i,.i]) .eql (.t 35) (.t 36)),oq 38 (.pick (.t 33) (.c (.bool true)) (.t 37))] <|
 .cond (.t 38) (sQ [oq 4 (.mov (.c (.bool false)))] <|
 .ret) (.skip)) <|
 .seq (sQ [oF 39 3 3,oK 40 8 39,oq 41 (.mov (ki 0))] <|
 .block 0 (.loop (sQ [oq 42 (.bin .num .lss (.t 41) (ki 8))] <|
 .seq (.cond (.t 42) (.skip) (.exit 0)) <|
 .seq (.block 1 (sQ [oq 43 (.idxA1 8 (.t 40) (.t 41)),oM 8 43] <|
 sQ [oM 44 8,oq 45 (.bin .num .lss (.t 44) (ki 0)),oM 46 45,zM 47 46 false 8,og 48 46 false (.bin .num .gtr (.t 47) (ki 1073741824)),oq 49 (.pick (.t 46) (.c (.bool true)) (.t 48))] <|
 .cond (.t 49) (sQ [oq 4 (.mov (.c (.bool false)))] <|
 .ret) (.skip))) <|
 .ops [oq 50 (.bin .num .add (.t 41) (ki 1)),oM 41 50]))) <|
 sQ [oF 52 1 2,oL 53 52,oM 54 5,oq 55 (.idxAddrS 10 (.t 53) (.t 54)),oF 56 0 55,oK 57 4 56,oF 58 0 3,oF 59 1 58,oL 60 59,oq 61 (.call .shared 106 [(.t 57),(.t 60)]),oM 51 61,oX 62 0 51,oX 63 1 51,oM 9 62,oM 10 63] <|
 sQ [oM 64 10,oM 4 64] <|
 .ret
def v88:VFunc:=⟨65,[.tmp 4],c88⟩
def c89:VCode:=
 sQ [oB 2 0,oB 3 1,oq 4 (.mov (ki 0))] <|
 sQ [oF 5 0 2,oL 6 5,oF 7 0 3,oL 8 7,oq 9 (.call .pure 108 [(.t 6),(.t 8)]),oF 10 1 2,oL 11 10,oF 12 1 3,oL 13 12,oq 14 (.call .pure 108 [(.t 11),(.t 13)]),oF 15 2 2,oL 16 15,oF 17 2 3,oL 18 17,oq 19 (.call .pure 109 [(.t 16),(.t 18)]),oq 20 (.buildSlice false 1 3 [(.int .i64 0),(.int .i64 0),(.int .i64 0)] [(0,1,(.t 9)),(1,1,(.t 14)),(2,1,(.t 19))]),oq 21 (.call .pure 107 [(.t 20)]),oM 4 21] <|
 .ret
def v89:VFunc:=⟨22,[.tmp 4],c89⟩
def c90:VCode:=
 sQ [oq 2 (.mov (.c (.int .u64 0)))] <|
 sQ [oM 3 0,oq 4 (.conv .u64 (.t 3)),oq 5 (.bin .num .shl (.t 4) (.c (.int .u64 1))),oM 6 0,oq 7 (.bin .num .shr (.t 6) (.c (.int .u64 63))),oq 8 (.conv .u64 (.t 7)),oq 9 (bQ .xor 5 8),oM 2 9] <|
 .ret
def v90:VFunc:=⟨10,[.tmp 2],c90⟩
def c91:VCode:=
 sQ [oq 4 (.mov (.c (.sl .nil 0 [])))] <|
 .seq (sQ [oM 5 1,oq 6 (.bin .num .lss (.t 5) (ki 0))] <|
 .cond (.t 6) (.ops [⟨none,none,.bad⟩,⟨none,none,.bad⟩]) (.skip)) <|
 .seq (sQ [oM 8 1,oM 9 0,oq 10 (.capS (.t 9)),oM 11 0,oS 12 11,oq 13 (bQ .sub 10 12),oq 14 (bQ .sub 8 13),oM 1 14] <|
 sQ [oM 15 1,oq 16 (.bin .num .gtr (.t 15) (ki 0))] <|
 .cond (.t 16) (.ops [oM 17 0,oM 18 0,oq 19 (.capS (.t 18)),oq 20 (.sliceS 1 (.t 17) none (some (.t 19)) none),oM 21 1,oq 22 (.appendZ true 1 1 [(.int .u8 0)] (.t 20) (.t 21)),oM 23 0,oS 24 23,oq 25 (.sliceS 1 (.t 22) none (some (.t 24)) none),oM 0 25]) (.skip)) <|
 sQ [oM 26 0,oM 4 26] <|
 .ret
def v91:VFunc:=⟨27,[.tmp 4],c91⟩
def c92:VCode:=
 sQ [oq 0 (.mov (.c .nilp))] <|
 sQ [oq 1 (.build [(.int .u32 0)] [(0,1,(.c (.int .u32 4294967295)))]),oB 2 1,oM 0 2] <|
 .ret
def v92:VFunc:=⟨3,[.tmp 0],c92⟩
def c93:VCode:=
 .seq (sQ [oM 8 0,oq 9 (.bin .ptr .eql (.t 8) (.c .nilp))] <|
 .cond (.t 9) (.ret) (.skip)) <|
 sQ [oM 10 1,oS 11 10,oq 12 (.mov (ki 0))] <|
 .block 0 (.loop (sQ [oq 13 (bQ .lss 12 11)] <|
 .seq (.cond (.t 13) (.skip) (.exit 0)) <|
 .seq (.block 1 (sQ [oq 14 (.idxAddrS 1 (.t 10) (.t 12)),oL 15 14,oM 5 15] <|
 sQ [oM 16 5,oS 17 16,oq 18 (.mov (ki 0))] <|
 .block 2 (.loop (sQ [oq 19 (bQ .lss 18 17)] <|
 .seq (.cond (.t 19) (.skip) (.exit 2)) <|
 .seq (.block 3 (sQ [oq 20 (.idxAddrS 1 (.t 16) (.t 18)),oL 21 20,oM 7 21] <|
 sQ [oM 22 0,oH 23 22,oF 24 0 23,oL 25 24,oM 26 7,oq 27 (.conv .u32 (.t 26)),oq 28 (bQ .xor 25 27),oH 29 22,oF 30 0 29,⟨none,none,.store1 (.t 30) (.t 28)⟩] <|
 sQ [oq 31 (.mov (ki 0))] <|
 .block 4 (.loop (sQ [oq 32 (.bin .num .lss (.t 31) (ki 8))] <|
 .seq (.cond (.t 32) (.skip) (.exit 4)) <|
 .seq (.block 5 (.ops [oM 33 0,oM 34 0,oH 35 34,oF 36 0 35,oL 37 36,oq 38 (.bin .num .shr (.t 37) (.c (.int .u64 1))),oM 39 0,oH 40 39,oF 41 0 40,oL 42 41,oq 43 (.bin .num .and (.t 42) (.c (.int .u32 1))),oq 44 (.un .neg (.t 43)),oq 45 (.bin .num .and (.c (.int .u32 3988292384)) (.t 44)),oq 46 (bQ .xor 38 45),oH 47 33,oF 48 0 47,⟨none,none,.store1 (.t 48) (.t 46)⟩])) <|
 .ops [oq 49 (.bin .num .add (.t 31) (ki 1)),oM 31 49])))) <|
 .ops [oq 50 (.bin .num .add (.t 18) (ki 1)),oM 18 50])))) <|
 .ops [oq 51 (.bin .num .add (.t 12) (ki 1)),oM 12 51]))
def v93:VFunc:=⟨52,[],c93⟩
def c94:VCode:=
 sQ [oq 2 (.mov (.c (.int .u32 0)))] <|
 .seq (sQ [oM 3 0,oq 4 (.bin .ptr .eql (.t 3) (.c .nilp))] <|
 .cond (.t 4) (sQ [oq 2 (.mov (.c (.int .u32 0)))] <|
 .ret) (.skip)) <|
 sQ [oM 5 0,oH 6 5,oF 7 0 6,oL 8 7,oq 9 (.un .xor (.t 8)),oM 2 9] <|
 .ret
def v94:VFunc:=⟨10,[.tmp 2],c94⟩
def c95:VCode:=
 sQ [oq 4 (.mov (.c (.int .u64 0)))] <|
 .seq (sQ [oM 7 0,oq 8 (.bin .ptr .eql (.t 7) (.c .nilp)),oM 9 8,zM 10 9 false 0,zH 11 9 false 10,zF 12 9 false 1 11,zL 13 9 false 12,og 14 9 false (.bin .num .neq (.t 13) (ki 0)),oq 15 (.pick (.t 9) (.c (.bool true)) (.t 14))] <|
 .cond (.t 15) (sQ [oq 4 (.mov (.c (.int .u64 0)))] <|
 .ret) (.skip)) <|
 sQ [oM 17 0,oq 18 (.call .shared 110 [(.t 17)]),oM 16 18,oX 19 0 16,oX 20 1 16,oM 5 19,oM 6 20] <|
 .seq (sQ [oM 21 6,oq 22 (.bin .num .eql (.t 21) (ki 0)),oM 23 22,zM 24 23 true 5,zM 25 23 true 1,og 26 23 true (bQ .gtr 24 25),oq 27 (.pick (.t 23) (.t 26) (.c (.bool false)))] <|
 .cond (.t 27) (.ops [oq 6 (.mov (ki 15))]) (.skip)) <|
 sQ [oM 28 0,oM 29 6,oq 30 (.call .shared 98 [(.t 28),(.t 29)])] <|
 .seq (sQ [oM 31 6,oq 32 (.bin .num .neq (.t 31) (ki 0))] <|
 .cond (.t 32) (sQ [oq 4 (.mov (.c (.int .u64 0)))] <|
 .ret) (.skip)) <|
 sQ [oM 33 5,oM 4 33] <|
 .ret
def v95:VFunc:=⟨34,[.tmp 4],c95⟩
def c96:VCode:=
 sQ [oq 6 (.mov (ki 0))] <|
 sQ [oM 8 0,oq 9 (.call .shared 95 [(.t 8),(.c (.int .u64 18446744073709551615))]),oq 10 (.call .pure 111 [(.t 9)]),oM 7 10] <|
 .seq (sQ [oM 11 0,oq 12 (.bin .ptr .eql (.t 11) (.c .nilp)),oM 13 12,zM 14 13 false 0,zH 15 13 false 14,zF 16 13 false 1 15,zL 17 13 false 16,og 18 13 false (.bin .num .neq (.t 17) (ki 0)),oq 19 (.pick (.t 13) (.c (.bool true)) (.t 18))] <|
 .cond (.t 19) (sQ [oq 6 (.mov (ki 0))] <|
 .ret) (.skip)) <|
 .seq (sQ [oM 20 7,oM 21 1,oq 22 (bQ .lss 20 21),oM 23 22,zM 24 23 false 7,zM 25 23 false 2,og 26 23 false (bQ .gtr 24 25),oq 27 (.pick (.t 23) (.c (.bool true)) (.t 26))] <|
 .cond (.t 27) (sQ [oM 28 0,oq 29 (.call .shared 98 [(.t 28),(ki 15)])] <|
 sQ [oq 6 (.mov (ki 0))] <|
 .ret) (.skip)) <|
 sQ [oM 30 7,oM 6 30] <|
 .ret
def v96:VFunc:=⟨31,[.tmp 6],c96⟩
def c97:VCode:=
 sQ [oq 2 (.alloc [(.str ⟨#[]⟩),(.int .i64 0),(.int .i64 0),(.int .i64 0),(.int .i64 0),(.int .i64 0),(.int .i64 0),(.bool false),(.bool false),(.bool false)]),oq 3 (.alloc [(.str ⟨#[]⟩),(.int .i64 0),(.int .i64 0),(.int .i64 0),(.int .i64 0),(.int .i64 0),(.int .i64 0),(.bool false),(.bool false),(.bool false)])] <|
 sQ [oM 7 0,oq 8 (.call .shared 80 [(.t 7),(ki 16)]),oq 9 (.build [(.str ⟨#[]⟩),(.int .i64 0),(.int .i64 0),(.int .i64 0),(.int .i64 0),(.int .i64 0),(.int .i64 0),(.bool false),(.bool false),(.bool false)] [(0,1,(.t 8))]),oq 4 (.alloc [(.str ⟨#[]⟩),(.int .i64 0),(.int .i64 0),(.int .i64 0),(.int .i64 0),(.int .i64 0),(.int .i64 0),(.bool false),(.bool false),(.bool false)]),⟨none,none,.storeN 10 (.t 4) (.t 9)⟩] <|
 .seq (sQ [oq 10 (.mov (ki 0))] <|
 .block 0 (.loop (sQ [oq 11 (.bin .num .lss (.t 10) (ki 3))] <|
 .seq (.cond (.t 11) (.skip) (.exit 0)) <|
 .seq (.block 1 (sQ [oM 12 10,oM 5 12] <|
 .ops [oM 13 5,oM 14 0,oq 15 (.call .shared 112 [(.t 14)]),oF 16 7 4,oq 17 (.idxAddrA 3 1 (.t 16) (.t 13)),⟨none,none,.store1 (.t 17) (.t 15)⟩])) <|
 .ops [oq 18 (.bin .num .add (.t 10) (ki 1)),oM 10 18]))) <|
 sQ [oK 19 10 4,oq 6 (.alloc [(.str ⟨#[]⟩),(.int .i64 0),(.int .i64 0),(.int .i64 0),(.int .i64 0),(.int .i64 0),(.int .i64 0),(.bool false),(.bool false),(.bool false)]),⟨none,none,.storeN 10 (.t 6) (.t 19)⟩] <|
 sQ [oM 20 0,oq 21 (.call .shared 113 [(.t 20)]),oM 22 0,oq 23 (.call .shared 113 [(.t 22)]),oF 24 1 4,⟨none,none,.storeN 3 (.t 24) (.t 21)⟩,oF 25 4 4,⟨none,none,.storeN 3 (.t 25) (.t 23)⟩] <|
 sQ [oM 26 0,oq 27 (.call .shared 113 [(.t 26)]),oM 28 0,oq 29 (.call .shared 113 [(.t 28)]),oF 30 1 6,⟨none,none,.storeN 3 (.t 30) (.t 27)⟩,oF 31 4 6,⟨none,none,.storeN 3 (.t 31) (.t 29)⟩] <|
 .seq (.draw [] [oK 32 10 4,oK 33 10 6,⟨none,none,.storeN 10 (.t 2) (.t 32)⟩,⟨none,none,.storeN 10 (.t 3) (.t 33)⟩] [(1,2)]) <|
 .ret
def v97:VFunc:=⟨34,[.cellN 10 2,.cellN 10 3],c97⟩
def c98:VCode:=
 sQ [oM 4 0,oq 5 (.bin .ptr .neq (.t 4) (.c .nilp)),oM 6 5,zM 7 6 true 0,zH 8 6 true 7,zF 9 6 true 1 8,zL 10 6 true 9,og 11 6 true (.bin .num .eql (.t 10) (ki 0)),oq 12 (.pick (.t 6) (.t 11) (.c (.bool false))),oM 13 12,zM 14 13 true 1,og 15 13 true (.bin .num .neq (.t 14) (ki 0)),oq 16 (.pick (.t 13) (.t 15) (.c (.bool false)))] <|
 .cond (.t 16) (.ops [oM 17 0,oM 18 0,oM 19 1,oH 20 17,oF 21 0 20,⟨none,none,.store1 (.t 21) (.c (.sl .nil 0 []))⟩,oH 22 18,oF 23 1 22,⟨none,none,.store1 (.t 23) (.t 19)⟩]) (.skip)
def v98:VFunc:=⟨24,[],c98⟩
def c99:VCode:=
 sQ [oq 2 (.mov (ki 0))] <|
 .seq (sQ [oM 3 0,oq 4 (.bin .ptr .eql (.t 3) (.c .nilp))] <|
 .cond (.t 4) (sQ [oq 2 (.mov (ki 0))] <|
 .ret) (.skip)) <|
 sQ [oM 5 0,oH 6 5,oF 7 0 6,oL 8 7,oS 9 8,oM 2 9] <|
 .ret
def v99:VFunc:=⟨10,[.tmp 2],c99⟩
def c100:VCode:=
 sQ [oq 2 (.mov (ki 0))] <|
 .seq (sQ [oM 3 0,oq 4 (.bin .ptr .eql (.t 3) (.c .nilp))] <|
 .cond (.t 4) (sQ [oq 2 (.mov (ki 1))] <|
 .ret) (.skip)) <|
 sQ [oM 5 0,oH 6 5,oF 7 1 6,oL 8 7,oM 2 8] <|
 .ret
def v100:VFunc:=⟨9,[.tmp 2],c100⟩
def c101:VCode:=
 sQ [oq 2 (.mov (.c (.bool false)))] <|
 .seq (sQ [oq 3 (.mov (ki 0))] <|
 .block 0 (.loop (.seq (sQ [oM 6 3,oM 7 0,oq 8 (.lenStr (.t 7)),oq 9 (bQ .lss 6 8)] <|
 .cond (.t 9) (.skip) (.exit 0)) <|
 .seq (.block 1 (sQ [oM 12 0,oM 13 3,oq 14 (.idxStr (.t 12) (.t 13)),oM 4 14] <|
 sQ [oM 15 4,oq 16 (.bin .num .geq (.t 15) (.c (.int .u8 97))),oM 17 16,zM 18 17 true 4,og 19 17 true (.bin .num .leq (.t 18) (.c (.int .u8 122))),oq 20 (.pick (.t 17) (.t 19) (.c (.bool false))),oM 21 20,zM 22 21 false 4,og 23 21 false (.bin .num .geq (.t 22) (.c (.int .u8 48))),zM 24 21 false 23,zM 25 24 true 4,og 26 24 true (.bin .num .leq (.t 25) (.c (.int .u8 57))),og 27 21 false (.pick (.t 24) (.t 26) (.c (.bool false))),oq 28 (.pick (.t 21) (.c (.bool true)) (.t 27)),oM 5 28] <|
 sQ [oM 29 5,oq 30 (.un .not (.t 29)),oM 31 30,zM 32 31 true 4,og 33 31 true (.bin .num .neq (.t 32) (.c (.int .u8 45))),zM 34 31 true 33,zM 35 34 false 3,og 36 34 false (.bin .num .eql (.t 35) (ki 0)),og 37 31 true (.pick (.t 34) (.c (.bool true)) (.t 36)),zM 38 31 true 37,zM 39 38 false 3,zM 40 38 false 0,og 41 38 false (.lenStr (.t 40)),og 42 38 false (.bin .num .sub (.t 41) (ki 1)),og 43 38 false (bQ .eql 39 42),og 44 31 true (.pick (.t 38) (.c (.bool true)) (.t 43)),oq 45 (.pick (.t 31) (.t 44) (.c (.bool false)))] <|
 .cond (.t 45) (sQ [oq 2 (.mov (.c (.bool false)))] <|
 .ret) (.skip))) <|
 .ops [oM 10 3,oq 11 (.bin .num .add (.t 10) (ki 1)),oM 3 11]))) <|
 sQ [oM 46 0,oq 47 (.lenStr (.t 46)),oq 48 (.bin .num .gtr (.t 47) (ki 0)),oM 49 48,zM 50 49 true 0,og 51 49 true (.lenStr (.t 50)),og 52 49 true (.bin .num .lss (.t 51) (ki 17)),oq 53 (.pick (.t 49) (.t 52) (.c (.bool false))),oM 2 53] <|
 .ret
def v101:VFunc:=⟨54,[.tmp 2],c101⟩
def c102:VCode:=
 sQ [oB 1 0,oq 2 (.mov (.c (.bool false)))] <|
 .seq (.draw [(3,.z [(.int .i64 0),(.int .i64 0),(.int .i64 0)]),(4,.z [(.int .i64 0),(.int .i64 0),(.int .i64 0)])] [oF 5 1 1,oK 6 3 5,oF 7 4 1,oK 8 3 7,⟨none,none,.idle⟩,⟨none,none,.idle⟩,⟨none,none,.storeN 3 (.t 3) (.t 6)⟩,⟨none,none,.storeN 3 (.t 4) (.t 8)⟩] [(3,6)]) <|
 sQ [oF 9 0 1,oL 10 9,oq 11 (.call .pure 101 [(.t 10)]),oM 12 11,zK 13 12 true 3 3,og 14 12 true (.call .pure 114 [(.t 13)]),oq 15 (.pick (.t 12) (.t 14) (.c (.bool false))),oM 16 15,zK 17 16 true 3 4,og 18 16 true (.call .pure 114 [(.t 17)]),oq 19 (.pick (.t 16) (.t 18) (.c (.bool false))),oM 20 19,zF 21 20 true 0 4,zL 22 20 true 21,og 23 20 true (.bin .num .eql (.t 22) (ki 0)),zM 24 20 true 23,zF 25 24 false 0 4,zL 26 24 false 25,zF 27 24 false 0 3,zL 28 24 false 27,og 29 24 false (bQ .geq 26 28),og 30 20 true (.pick (.t 24) (.c (.bool true)) (.t 29)),oq 31 (.pick (.t 20) (.t 30) (.c (.bool false))),oM 32 31,zF 33 32 true 1 4,zL 34 32 true 33,og 35 32 true (.bin .num .eql (.t 34) (ki 0)),zM 36 32 true 35,zF 37 36 false 1 4,zL 38 36 false 37,zF 39 36 false 1 3,zL 40 36 false 39,og 41 36 false (bQ .geq 38 40),og 42 32 true (.pick (.t 36) (.c (.bool true)) (.t 41)),oq 43 (.pick (.t 32) (.t 42) (.c (.bool false))),oM 44 43,zF 45 44 true 2 3,zL 46 44 true 45,zF 47 44 true 2 4,zL 48 44 true 47,og 49 44 true (bQ .eql 46 48),oq 50 (.pick (.t 44) (.t 49) (.c (.bool false))),oM 2 50] <|
 .ret
def v102:VFunc:=⟨51,[.tmp 2],c102⟩
def c103:VCode:=
 sQ [oB 1 0,oq 2 (.alloc [(.int .i64 0),(.int .i64 0),(.int .i64 0)]),oq 3 (.alloc [(.int .i64 0),(.int .i64 0),(.int .i64 0)]),oq 4 (.mov (.c (.bool false)))] <|
 sQ [oq 5 (.mov (.c (.sl .nil 0 []))),oq 6 (.mov (.c (.sl .nil 0 [])))] <|
 .seq (sQ [oF 13 3 1,oL 14 13,oS 15 14,oq 16 (.mov (ki 0))] <|
 .block 0 (.loop (sQ [oq 17 (bQ .lss 16 15)] <|
 .seq (.cond (.t 17) (.skip) (.exit 0)) <|
 .seq (.block 1 (sQ [oq 18 (.idxAddrS 10 (.t 14) (.t 16)),oK 19 10 18,oq 8 (.alloc [(.str ⟨#[]⟩),(.int .i64 0),(.int .i64 0),(.int .i64 0),(.int .i64 0),(.int .i64 0),(.int .i64 0),(.bool false),(.bool false),(.bool false)]),⟨none,none,.storeN 10 (.t 8) (.t 19)⟩] <|
 sQ [oM 20 5,oF 21 1 8,oK 22 3 21,oq 23 (.buildSlice false 3 1 [(.int .i64 0),(.int .i64 0),(.int .i64 0)] [(0,3,(.t 22))]),oq 24 (.append false false 3 24 (.t 20) (.t 23)),oM 5 24] <|
 .ops [oM 25 6,oF 26 4 8,oK 27 3 26,oq 28 (.buildSlice false 3 1 [(.int .i64 0),(.int .i64 0),(.int .i64 0)] [(0,3,(.t 27))]),oq 29 (.append false false 3 24 (.t 25) (.t 28)),oM 6 29])) <|
 .ops [oq 30 (.bin .num .add (.t 16) (ki 1)),oM 16 30]))) <|
 sQ [oM 32 5,oq 33 (.call .pure 115 [(.t 32)]),oM 31 33,oX 34 0 31,oX 35 1 31,oq 9 (.alloc [(.int .i64 0),(.int .i64 0),(.int .i64 0)]),⟨none,none,.storeN 3 (.t 9) (.t 34)⟩,oM 10 35] <|
 sQ [oM 37 6,oq 38 (.call .pure 115 [(.t 37)]),oM 36 38,oX 39 0 36,oX 40 1 36,oq 11 (.alloc [(.int .i64 0),(.int .i64 0),(.int .i64 0)]),⟨none,none,.storeN 3 (.t 11) (.t 39)⟩,oM 12 40] <|
 .seq (.draw [] [oK 41 3 9,oK 42 3 11,oM 43 10,oM 44 43,zM 45 44 true 12,oq 46 (.pick (.t 44) (.t 45) (.c (.bool false))),⟨none,none,.storeN 3 (.t 2) (.t 41)⟩,⟨none,none,.storeN 3 (.t 3) (.t 42)⟩,oM 4 46] [(1,6)]) <|
 .ret
def v103:VFunc:=⟨47,[.cellN 3 2,.cellN 3 3,.tmp 4],c103⟩
def c104:VCode:=
 sQ [oB 1 0,oq 2 (.mov (.c (.bool false)))] <|
 sQ [oF 3 0 1,oK 4 4 3,oq 5 (.call .pure 116 [(.t 4)]),oM 6 5,zF 7 6 true 4 1,zK 8 6 true 4 7,og 9 6 true (.call .pure 116 [(.t 8)]),oq 10 (.pick (.t 6) (.t 9) (.c (.bool false))),oM 11 10,zF 12 11 true 0 1,zK 13 11 true 4 12,zF 14 11 true 4 1,zK 15 11 true 4 14,og 16 11 true (.call .pure 117 [(.t 13),(.t 15)]),oq 17 (.pick (.t 11) (.t 16) (.c (.bool false))),oM 18 17,zF 19 18 true 0 1,zK 20 18 true 4 19,og 21 18 true (.call .pure 118 [(.t 20)]),zF 22 18 true 4 1,zK 23 18 true 4 22,og 24 18 true (.call .pure 118 [(.t 23)]),og 25 18 true (bQ .eql 21 24),oq 26 (.pick (.t 18) (.t 25) (.c (.bool false))),oM 27 26,zF 28 27 true 8 1,zL 29 27 true 28,og 30 27 true (.bin .num .geq (.t 29) (ki 0)),oq 31 (.pick (.t 27) (.t 30) (.c (.bool false))),oM 32 31,zF 33 32 true 8 1,zL 34 32 true 33,og 35 32 true (.bin .num .leq (.t 34) (ki 1099511627776)),oq 36 (.pick (.t 32) (.t 35) (.c (.bool false))),oM 37 36,zF 38 37 true 9 1,zL 39 37 true 38,og 40 37 true (.bin .num .geq (.t 39) (ki 0)),oq 41 (.pick (.t 37) (.t 40) (.c (.bool false))),oM 42 41,zF 43 42 true 9 1,zL 44 42 true 43,zF 45 42 true 0 1,zF 46 42 true 3 45,zL 47 42 true 46,zS 48 42 true 47,og 49 42 true (.bin .num .shl (ki 1) (.t 48)),og 50 42 true (bQ .lss 44 49),oq 51 (.pick (.t 42) (.t 50) (.c (.bool false))),oM 2 51] <|
 .ret
def v104:VFunc:=⟨52,[.tmp 2],c104⟩
def c105:VCode:=
 sQ [oB 2 0,oB 3 1,oq 4 (.mov (ki 0)),oq 5 (.mov (.c (.bool false)))] <|
 sQ [oF 7 1 2,oL 8 7,oq 9 (.mkFn 120 [] [(.t 3)]),oq 10 (.call .shared 119 [(.t 8),(.t 9)]),oM 6 10] <|
 sQ [oM 11 6,oq 12 (.minmax true [(.t 11),(ki 0)]),oM 13 6,oq 14 (.bin .num .geq (.t 13) (ki 0)),oM 4 12,oM 5 14] <|
 .ret
def v105:VFunc:=⟨15,[.tmp 4,.tmp 5],c105⟩
def c106:VCode:=
 sQ [oB 2 0,oB 3 1,oq 4 (.mov (ki 0)),oq 5 (.mov (.c (.bool false)))] <|
 sQ [oF 7 3 2,oL 8 7,oq 9 (.mkFn 122 [] [(.t 3)]),oq 10 (.call .shared 121 [(.t 8),(.t 9)]),oM 6 10] <|
 sQ [oM 11 6,oq 12 (.minmax true [(.t 11),(ki 0)]),oM 13 6,oq 14 (.bin .num .geq (.t 13) (ki 0)),oM 4 12,oM 5 14] <|
 .ret
def v106:VFunc:=⟨15,[.tmp 4,.tmp 5],c106⟩
def c107:VCode:=
 sQ [oq 2 (.mov (ki 0))] <|
 sQ [oq 3 (.mov (ki 0))] <|
 .seq (sQ [oM 6 0,oS 7 6,oq 8 (.mov (ki 0))] <|
 .block 0 (.loop (sQ [oq 9 (bQ .lss 8 7)] <|
 .seq (.cond (.t 9) (.skip) (.exit 0)) <|
 .seq (.block 1 (sQ [oq 10 (.idxAddrS 1 (.t 6) (.t 8)),oL 11 10,oM 5 11] <|
 sQ [oM 12 5,oM 13 3,oq 14 (bQ .neq 12 13)] <|
 .cond (.t 14) (sQ [oM 15 5,oM 2 15] <|
 .ret) (.skip))) <|
 .ops [oq 16 (.bin .num .add (.t 8) (ki 1)),oM 8 16]))) <|
 sQ [oM 17 3,oM 2 17] <|
 .ret
def v107:VFunc:=⟨18,[.tmp 2],c107⟩
def c108:VCode:=
 sQ [oq 4 (.mov (ki 0))] <|
 sQ [oM 7 0,oq 8 (.call .pure 123 [(.t 7)]),oM 5 8] <|
 sQ [oM 9 1,oq 10 (.call .pure 123 [(.t 9)]),oM 6 10] <|
 .seq (sQ [oM 11 5] <|
 .cond (.t 11) (.seq (sQ [oM 12 6] <|
 .cond (.t 12) (sQ [oq 4 (.mov (ki 0))] <|
 .ret) (.skip)) <|
 sQ [oq 4 (.mov (.c (.int .i64 (-1))))] <|
 .ret) (.skip)) <|
 .seq (sQ [oM 13 6] <|
 .cond (.t 13) (sQ [oq 4 (.mov (ki 1))] <|
 .ret) (.skip)) <|
 .seq (sQ [oM 14 0,oM 15 1,oq 16 (bQ .lss 14 15)] <|
 .cond (.t 16) (sQ [oq 4 (.mov (.c (.int .i64 (-1))))] <|
 .ret) (.skip)) <|
 .seq (sQ [oM 17 0,oM 18 1,oq 19 (bQ .gtr 17 18)] <|
 .cond (.t 19) (sQ [oq 4 (.mov (ki 1))] <|
 .ret) (.skip)) <|
 sQ [oq 4 (.mov (ki 0))] <|
 .ret
def v108:VFunc:=⟨20,[.tmp 4],c108⟩
def c109:VCode:=
 sQ [oq 4 (.mov (ki 0))] <|
 sQ [oM 7 0,oq 8 (.call .pure 124 [(.t 7)]),oM 5 8] <|
 sQ [oM 9 1,oq 10 (.call .pure 124 [(.t 9)]),oM 6 10] <|
 .seq (sQ [oM 11 5] <|
 .cond (.t 11) (.seq (sQ [oM 12 6] <|
 .cond (.t 12) (sQ [oq 4 (.mov (ki 0))] <|
 .ret) (.skip)) <|
 sQ [oq 4 (.mov (.c (.int .i64 (-1))))] <|
 .ret) (.skip)) <|
 .seq (sQ [oM 13 6] <|
 .cond (.t 13) (sQ [oq 4 (.mov (ki 1))] <|
 .ret) (.skip)) <|
 .seq (sQ [oM 14 0,oM 15 1,oq 16 (bQ .lss 14 15)] <|
 .cond (.t 16) (sQ [oq 4 (.mov (.c (.int .i64 (-1))))] <|
 .ret) (.skip)) <|
 .seq (sQ [oM 17 0,oM 18 1,oq 19 (bQ .gtr 17 18)] <|
 .cond (.t 19) (sQ [oq 4 (.mov (ki 1))] <|
 .ret) (.skip)) <|
 sQ [oq 4 (.mov (ki 0))] <|
 .ret
def v109:VFunc:=⟨20,[.tmp 4],c109⟩
def c110:VCode:=
 sQ [oq 2 (.mov (.c (.int .u64 0))),oq 3 (.mov (ki 0))] <|
 sQ [oq 4 (.mov (.c (.int .u64 0)))] <|
 .seq (sQ [oM 7 0,oH 8 7,oF 9 0 8,oL 10 9,oS 11 10,oq 12 (.mov (ki 0))] <|
 .block 0 (.loop (sQ [oq 13 (bQ .lss 12 11)] <|
 .seq (.cond (.t 13) (.skip) (.exit 0)) <|
 .seq (.block 1 (sQ [oM 14 12,oq 15 (.idxAddrS 1 (.t 10) (.t 12)),oL 16 15,oM 5 14,oM 6 16] <|
 sQ [oM 17 4,oM 18 6,oq 19 (.bin .num .andNot (.t 18) (.c (.int .u8 128))),oq 20 (.conv .u64 (.t 19)),oM 21 5,oq 22 (.bin .num .mul (ki 7) (.t 21)),oq 23 (bQ .shl 20 22),oq 24 (bQ .or 17 23),oM 4 24] <|
 .block 2 (sQ [oM 26 5,oq 27 (.bin .num .eql (.t 26) (ki 9)),oM 28 27,zM 29 28 true 6,og 30 28 true (.bin .num .gtr (.t 29) (.c (.int .u8 1))),oq 31 (.pick (.t 28) (.t 30) (.c (.bool false))),oM 25 31] <|
 .cond (.t 25) (sQ [oq 2 (.mov (.c (.int .u64 0))),oq 3 (.mov (ki 11))] <|
 .ret) (sQ [oM 33 6,oq 34 (.bin .num .lss (.t 33) (.c (.int .u8 128))),oM 35 34,zM 36 35 true 6,og 37 35 true (.bin .num .eql (.t 36) (.c (.int .u8 0))),oq 38 (.pick (.t 35) (.t 37) (.c (.bool false))),oM 39 38,zM 40 39 true 5,og 41 39 true (.bin .num .gtr (.t 40) (ki 0)),oq 42 (.pick (.t 39) (.t 41) (.c (.bool false))),oM 32 42] <|
 .cond (.t 32) (sQ [oq 2 (.mov (.c (.int .u64 0))),oq 3 (.mov (ki 11))] <|
 .ret) (sQ [oM 44 6,oq 45 (.bin .num .lss (.t 44) (.c (.int .u8 128))),oM 43 45] <|
 .cond (.t 43) (sQ [oM 46 0,oM 47 0,oH 48 47,oF 49 0 48,oL 50 49,oM 51 5,oq 52 (.bin .num .add (.t 51) (ki 1)),oq 53 (.sliceS 1 (.t 50) (some (.t 52)) none none),oH 54 46,oF 55 0 54,⟨none,none,.store1 (.t 55) (.t 53)⟩] <|
 sQ [oM 56 4,oM 2 56,oq 3 (.mov (ki 0))] <|
 .ret) (.skip)))))) <|
 .ops [oq 57 (.bin .num .add (.t 12) (ki 1)),oM 12 57]))) <|
 sQ [oq 2 (.mov (.c (.int .u64 0))),oq 3 (.mov (ki 10))] <|
 .ret
def v110:VFunc:=⟨58,[.tmp 2,.tmp 3],c110⟩
def c111:VCode:=
 sQ [oq 2 (.mov (ki 0))] <|
 sQ [oM 3 0,oq 4 (.bin .num .shr (.t 3) (.c (.int .u64 1))),oq 5 (.conv .i64 (.t 4)),oM 6 0,oq 7 (.bin .num .and (.t 6) (.c (.int .u64 1))),oq 8 (.conv .i64 (.t 7)),oq 9 (.un .neg (.t 8)),oq 10 (bQ .xor 5 9),oM 2 10] <|
 .ret
def v111:VFunc:=⟨11,[.tmp 2],c111⟩
def c112:VCode:=
 sQ [oq 2 (.mov (.c (.bool false)))] <|
 .seq (sQ [oM 4 0,oq 5 (.bin .ptr .eql (.t 4) (.c .nilp)),oM 6 5,zM 7 6 false 0,zH 8 6 false 7,zF 9 6 false 1 8,zL 10 6 false 9,og 11 6 false (.bin .num .neq (.t 10) (ki 0)),oq 12 (.pick (.t 6) (.c (.bool true)) (.t 11))] <|
 .cond (.t 12) (sQ [oq 2 (.mov (.c (.bool false)))] <|
 .ret) (.skip)) <|
 .seq (.block 0 (sQ [oM 14 0,oH 15 14,oF 16 0 15,oL 17 16,oS 18 17,oq 19 (.bin .num .eql (.t 18) (ki 0)),oM 13 19] <|
 .cond (.t 13) (sQ [oM 20 0,oq 21 (.call .shared 98 [(.t 20),(ki 10)])] <|
 sQ [oq 2 (.mov (.c (.bool false)))] <|
 .ret) (sQ [oM 23 0,oH 24 23,oF 25 0 24,oL 26 25,oq 27 (.idxAddrS 1 (.t 26) (ki 0)),oL 28 27,oq 29 (.bin .num .gtr (.t 28) (.c (.int .u8 1))),oM 22 29] <|
 .cond (.t 22) (sQ [oM 30 0,oq 31 (.call .shared 98 [(.t 30),(ki 11)])] <|
 sQ [oq 2 (.mov (.c (.bool false)))] <|
 .ret) (.skip)))) <|
 sQ [oM 32 0,oH 33 32,oF 34 0 33,oL 35 34,oq 36 (.idxAddrS 1 (.t 35) (ki 0)),oL 37 36,oq 38 (.bin .num .eql (.t 37) (.c (.int .u8 1))),oM 3 38] <|
 sQ [oM 39 0,oM 40 0,oH 41 40,oF 42 0 41,oL 43 42,oq 44 (.sliceS 1 (.t 43) (some (ki 1)) none none),oH 45 39,oF 46 0 45,⟨none,none,.store1 (.t 46) (.t 44)⟩] <|
 sQ [oM 47 3,oM 2 47] <|
 .ret
def v112:VFunc:=⟨48,[.tmp 2],c112⟩
def c113:VCode:=
 sQ [oq 2 (.alloc [(.int .i64 0),(.int .i64 0),(.int .i64 0)])] <|
 sQ [oM 3 0,oq 4 (.call .shared 78 [(.t 3),(ki 1099511627776)]),oM 5 0,oq 6 (.call .shared 78 [(.t 5),(ki 1125899906842624)]),oM 7 0,oq 8 (.call .shared 78 [(.t 7),(ki 1125899906842624)]),oq 9 (.build [(.int .i64 0),(.int .i64 0),(.int .i64 0)] [(0,1,(.t 4)),(1,1,(.t 6)),(2,1,(.t 8))]),⟨none,none,.storeN 3 (.t 2) (.t 9)⟩] <|
 .ret
def v113:VFunc:=⟨10,[.cellN 3 2],c113⟩
def c114:VCode:=
 sQ [oB 1 0,oq 2 (.mov (.c (.bool false)))] <|
 sQ [oF 3 0 1,oL 4 3,oq 5 (.bin .num .geq (.t 4) (ki 0)),oM 6 5,zF 7 6 true 0 1,zL 8 6 true 7,og 9 6 true (.bin .num .leq (.t 8) (ki 1099511627776)),oq 10 (.pick (.t 6) (.t 9) (.c (.bool false))),oM 11 10,zF 12 11 true 1 1,zL 13 11 true 12,og 14 11 true (.bin .num .geq (.t 13) (ki 0)),oq 15 (.pick (.t 11) (.t 14) (.c (.bool false))),oM 16 15,zF 17 16 true 1 1,zL 18 16 true 17,og 19 16 true (.bin .num .leq (.t 18) (ki 1125899906842624)),oq 20 (.pick (.t 16) (.t 19) (.c (.bool false))),oM 21 20,zF 22 21 true 2 1,zL 23 21 true 22,og 24 21 true (.bin .num .geq (.t 23) (ki 0)),oq 25 (.pick (.t 21) (.t 24) (.c (.bool false))),oM 26 25,zF 27 26 true 2 1,zL 28 26 true 27,og 29 26 true (.bin .num .leq (.t 28) (ki 1125899906842624)),oq 30 (.pick (.t 26) (.t 29) (.c (.bool false))),oM 31 30,zF 32 31 true 2 1,zL 33 31 true 32,og 34 31 true (.bin .num .rem (.t 33) (ki 2097152)),og 35 31 true (.bin .num .eql (.t 34) (ki 0)),oq 36 (.pick (.t 31) (.t 35) (.c (.bool false))),oM 2 36] <|
 .ret
def v114:VFunc:=⟨37,[.tmp 2],c114⟩
def c115:VCode:=
 sQ [oq 2 (.alloc [(.int .i64 0),(.int .i64 0),(.int .i64 0)]),oq 3 (.mov (.c (.bool false)))] <|
 sQ [oq 8 (.build [(.int .i64 0),(.int .i64 0),(.int .i64 0)] []),oq 4 (.alloc [(.int .i64 0),(.int .i64 0),(.int .i64 0)]),⟨none,none,.storeN 3 (.t 4) (.t 8)⟩,oq 5 (.mov (.c (.bool true)))] <|
 .seq (sQ [oM 9 0,oS 10 9,oq 11 (.mov (ki 0))] <|
 .block 0 (.loop (sQ [oq 12 (bQ .lss 11 10)] <|
 .seq (.cond (.t 12) (.skip) (.exit 0)) <|
 .seq (.block 1 (sQ [oq 13 (.idxAddrS 3 (.t 9) (.t 11)),oK 14 3 13,oq 7 (.alloc [(.int .i64 0),(.int .i64 0),(.int .i64 0)]),⟨none,none,.storeN 3 (.t 7) (.t 14)⟩] <|
 sQ [oM 15 5] <|
 .cond (.t 15) (.ops [oK 17 3 4,oK 18 3 7,oq 19 (.call .pure 125 [(.t 17),(.t 18)]),oM 16 19,oX 20 0 16,oX 21 1 16,⟨none,none,.storeN 3 (.t 4) (.t 20)⟩,oM 5 21]) (.skip))) <|
 .ops [oq 22 (.bin .num .add (.t 11) (ki 1)),oM 11 22]))) <|
 sQ [oK 23 3 4,oM 24 5,⟨none,none,.storeN 3 (.t 2) (.t 23)⟩,oM 3 24] <|
 .ret
def v115:VFunc:=⟨25,[.cellN 3 2,.tmp 3],c115⟩
def c116:VCode:=
 sQ [oB 1 0,oq 2 (.mov (.c (.bool false)))] <|
 sQ [oF 11 3 1,oL 12 11,oS 13 12,oM 3 13] <|
 .seq (sQ [oF 14 0 1,oL 15 14,oq 16 (.call .pure 126 [(.t 15)]),oq 17 (.un .not (.t 16)),oM 18 17,zF 19 18 false 1 1,zL 20 18 false 19,og 21 18 false (.bin .num .lss (.t 20) (.c (.int .i64 (-1000)))),oq 22 (.pick (.t 18) (.c (.bool true)) (.t 21)),oM 23 22,zF 24 23 false 1 1,zL 25 23 false 24,og 26 23 false (.bin .num .gtr (.t 25) (ki 1000)),oq 27 (.pick (.t 23) (.c (.bool true)) (.t 26)),oM 28 27,zF 29 28 false 2 1,zL 30 28 false 29,og 31 28 false (.bin .num .lss (.t 30) (ki 0)),oq 32 (.pick (.t 28) (.c (.bool true)) (.t 31)),oM 33 32,zF 34 33 false 2 1,zL 35 33 false 34,og 36 33 false (.bin .num .gtr (.t 35) (ki 2)),oq 37 (.pick (.t 33) (.c (.bool true)) (.t 36)),oM 38 37,zM 39 38 false 3,og 40 38 false (.bin .num .lss (.t 39) (ki 1)),oq 41 (.pick (.t 38) (.c (.bool true)) (.t 40)),oM 42 41,zM 43 42 false 3,og 44 42 false (.bin .num .gtr (.t 43) (ki 6)),oq 45 (.pick (.t 42) (.c (.bool true)) (.t 44))] <|
 .cond (.t 45) (sQ [oq 2 (.mov (.c (.bool false)))] <|
 .ret) (.skip)) <|
 .seq (sQ [oF 46 3 1,oL 47 46,oS 48 47,oq 49 (.mov (ki 0))] <|
 .block 0 (.loop (sQ [oq 50 (bQ .lss 49 48)] <|
 .seq (.cond (.t 50) (.skip) (.exit 0)) <|
 .seq (.block 1 (sQ [oM 51 49,oq 52 (.idxAddrS 10 (.t 47) (.t 49)),oK 53 10 52,oq 5 (.alloc [(.str ⟨#[]⟩),(.int .i64 0),(.int .i64 0),(.int .i64 0),(.int .i64 0),(.int .i64 0),(.int .i64 0),(.bool false),(.bool false),(.bool false)]),oM 4 51,⟨none,none,.storeN 10 (.t 5) (.t 53)⟩] <|
 sQ [oK 55 4 1,oF 56 0 5,oL 57 56,oq 58 (.call .shared 106 [(.t 55),(.t 57)]),oM 54 58,oX 59 0 54,oX 60 1 54,oM 6 59,oM 7 60] <|
 sQ [oM 61 6,oM 62 4,oq 63 (bQ .neq 61 62),oM 64 63,zK 65 64 false 10 5,og 66 64 false (.call .pure 127 [(.t 65)]),og 67 64 false (.un .not (.t 66)),oq 68 (.pick (.t 64) (.c (.bool true)) (.t 67))] <|
 .cond (.t 68) (sQ [oq 2 (.mov (.c (.bool false)))] <|
 .ret) (.skip))) <|
 .ops [oq 69 (.bin .num .add (.t 49) (ki 1)),oM 49 69]))) <|
 sQ [oK 71 4 1,oq 72 (.call .shared 128 [(.t 71)]),oM 70 72,oX 73 0 70,oX 74 1 70,oX 75 2 70,oq 8 (.alloc [(.int .i64 0),(.int .i64 0),(.int .i64 0)]),oq 9 (.alloc [(.int .i64 0),(.int .i64 0),(.int .i64 0)]),⟨none,none,.storeN 3 (.t 8) (.t 73)⟩,⟨none,none,.storeN 3 (.t 9) (.t 74)⟩,oM 10 75] <|
 sQ [oM 76 10,oM 2 76] <|
 .ret
def v116:VFunc:=⟨77,[.tmp 2],c116⟩
def c117:VCode:=
 sQ [oB 2 0,oB 3 1,oq 4 (.mov (.c (.bool false)))] <|
 sQ [oq 5 (.mov (.f 129))] <|
 sQ [oF 6 0 2,oL 7 6,oF 8 0 3,oL 9 8,oq 10 (bQ .eql 7 9),oM 11 10,zF 12 11 true 1 2,zL 13 11 true 12,zF 14 11 true 1 3,zL 15 11 true 14,og 16 11 true (bQ .eql 13 15),oq 17 (.pick (.t 11) (.t 16) (.c (.bool false))),oM 18 17,zF 19 18 true 2 2,zL 20 18 true 19,zF 21 18 true 2 3,zL 22 18 true 21,og 23 18 true (bQ .eql 20 22),oq 24 (.pick (.t 18) (.t 23) (.c (.bool false))),oM 25 24,zF 26 25 true 3 2,zL 27 25 true 26,zF 28 25 true 3 3,zL 29 25 true 28,zM 30 25 true 5,og 31 25 true (.call .pure 130 [(.t 27),(.t 29),(.t 30)]),oq 32 (.pick (.t 25) (.t 31) (.c (.bool false))),oM 4 32] <|
 .ret
def v117:VFunc:=⟨33,[.tmp 4],c117⟩
def c118:VCode:=
 sQ [oB 1 0,oq 2 (.mov (ki 0))] <|
 sQ [oq 3 (.mov (.c (.bool true))),oq 4 (.mov (.c (.bool true)))] <|
 .seq (sQ [oF 9 3 1,oL 10 9,oS 11 10,oq 12 (.mov (ki 0))] <|
 .block 0 (.loop (sQ [oq 13 (bQ .lss 12 11)] <|
 .seq (.cond (.t 13) (.skip) (.exit 0)) <|
 .seq (.block 1 (sQ [oq 14 (.idxAddrS 10 (.t 10) (.t 12)),oK 15 10 14,oq 6 (.alloc [(.str ⟨#[]⟩),(.int .i64 0),(.int .i64 0),(.int .i64 0),(.int .i64 0),(.int .i64 0),(.int .i64 0),(.bool false),(.bool false),(.bool false)]),⟨none,none,.storeN 10 (.t 6) (.t 15)⟩] <|
 .seq (.draw [(7,.z [(.int .i64 0),(.int .i64 0),(.int .i64 0)]),(8,.z [(.int .i64 0),(.int .i64 0),(.int .i64 0)])] [oF 16 1 6,oK 17 3 16,oF 18 4 6,oK 19 3 18,⟨none,none,.idle⟩,⟨none,none,.idle⟩,⟨none,none,.storeN 3 (.t 7) (.t 17)⟩,⟨none,none,.storeN 3 (.t 8) (.t 19)⟩] [(3,6)]) <|
 sQ [oM 20 3,oM 21 20,zF 22 21 true 0 7,zL 23 21 true 22,zF 24 21 true 0 8,zL 25 21 true 24,og 26 21 true (bQ .eql 23 25),oq 27 (.pick (.t 21) (.t 26) (.c (.bool false))),oM 28 27,zF 29 28 true 1 7,zL 30 28 true 29,zF 31 28 true 1 8,zL 32 28 true 31,og 33 28 true (bQ .eql 30 32),oq 34 (.pick (.t 28) (.t 33) (.c (.bool false))),oM 35 34,zF 36 35 true 0 7,zL 37 35 true 36,og 38 35 true (.bin .num .neq (.t 37) (ki 0)),oq 39 (.pick (.t 35) (.t 38) (.c (.bool false))),oM 40 39,zF 41 40 true 1 7,zL 42 40 true 41,og 43 40 true (.bin .num .neq (.t 42) (ki 0)),oq 44 (.pick (.t 40) (.t 43) (.c (.bool false))),oM 3 44] <|
 .ops [oM 45 4,oM 46 45,zF 47 46 true 0 7,zL 48 46 true 47,og 49 46 true (.bin .num .eql (.t 48) (ki 0)),oq 50 (.pick (.t 46) (.t 49) (.c (.bool false))),oM 51 50,zF 52 51 true 0 8,zL 53 51 true 52,og 54 51 true (.bin .num .eql (.t 53) (ki 0)),oq 55 (.pick (.t 51) (.t 54) (.c (.bool false))),oM 56 55,zF 57 56 true 1 7,zL 58 56 true 57,og 59 56 true (.bin .num .eql (.t 58) (ki 0)),oq 60 (.pick (.t 56) (.t 59) (.c (.bool false))),oM 61 60,zF 62 61 true 1 8,zL 63 61 true 62,og 64 61 true (.bin .num .eql (.t 63) (ki 0)),oq 65 (.pick (.t 61) (.t 64) (.c (.bool false))),oM 4 65])) <|
 .ops [oq 66 (.bin .num .add (.t 12) (ki 1)),oM 12 66]))) <|
 .seq (.block 2 (sQ [oM 68 4,oM 67 68] <|
 .cond (.t 67) (sQ [oq 2 (.mov (ki 2))] <|
 .ret) (sQ [oM 70 3,oM 69 70] <|
 .cond (.t 69) (sQ [oq 2 (.mov (ki 0))] <|
 .ret) (.skip)))) <|
 sQ [oq 2 (.mov (ki 1))] <|
 .ret
def v118:VFunc:=⟨71,[.tmp 2],c118⟩
def c119:VCode:=
 sQ [oq 4 (.mov (ki 0))] <|
 .seq (sQ [oM 6 0,oS 7 6,oq 8 (.mov (ki 0))] <|
 .block 0 (.loop (sQ [oq 9 (bQ .lss 8 7)] <|
 .seq (.cond (.t 9) (.skip) (.exit 0)) <|
 .seq (.block 1 (sQ [oM 10 8,oM 5 10] <|
 sQ [oM 11 1,oM 12 0,oM 13 5,oq 14 (.idxAddrS 10 (.t 12) (.t 13)),oK 15 10 14,oq 16 (.callV (.t 11) [(.t 15)])] <|
 .cond (.t 16) (sQ [oM 17 5,oM 4 17] <|
 .ret) (.skip))) <|
 .ops [oq 18 (.bin .num .add (.t 8) (ki 1)),oM 8 18]))) <|
 sQ [oq 4 (.mov (.c (.int .i64 (-1))))] <|
 .ret
def v119:VFunc:=⟨19,[.tmp 4],c119⟩
def c120:VCode:=
 sQ [oB 2 0,oq 3 (.mov (.c (.bool false)))] <|
 sQ [oF 4 0 2,oF 5 0 4,oL 6 5,oL 7 1,oq 8 (bQ .eql 6 7),oM 3 8] <|
 .ret
def v120:VFunc:=⟨9,[.tmp 3],c120⟩
def c121:VCode:=
 sQ [oq 4 (.mov (ki 0))] <|
 .seq (sQ [oM 6 0,oS 7 6,oq 8 (.mov (ki 0))] <|
 .block 0 (.loop (sQ [oq 9 (bQ .lss 8 7)] <|
 .seq (.cond (.t 9) (.skip) (.exit 0)) <|
 .seq (.block 1 (sQ [oM 10 8,oM 5 10] <|
 sQ [oM 11 1,oM 12 0,oM 13 5,oq 14 (.idxAddrS 10 (.t 12) (.t 13)),oK 15 10 14,oq 16 (.callV (.t 11) [(.t 15)])] <|
 .cond (.t 16) (sQ [oM 17 5,oM 4 17] <|
 .ret) (.skip))) <|
 .ops [oq 18 (.bin .num .add (.t 8) (ki 1)),oM 8 18]))) <|
 sQ [oq 4 (.mov (.c (.int .i64 (-1))))] <|
 .ret
def v121:VFunc:=⟨19,[.tmp 4],c121⟩
def c122:VCode:=
 sQ [oB 2 0,oq 3 (.mov (.c (.bool false)))] <|
 sQ [oF 4 0 2,oL 5 4,oL 6 1,oq 7 (bQ .eql 5 6),oM 3 7] <|
 .ret
def v122:VFunc:=⟨8,[.tmp 3],c122⟩
def c123:VCode:=
 sQ [oq 2 (.mov (.c (.bool false)))] <|
 sQ [oM 3 0,oM 4 0,oq 5 (bQ .neq 3 4),oM 2 5] <|
 .ret
def v123:VFunc:=⟨6,[.tmp 2],c123⟩
def c124:VCode:=
 sQ [oq 2 (.mov (.c (.bool false)))] <|
 sQ [oM 3 0,oM 4 0,oq 5 (bQ .neq 3 4),oM 2 5] <|
 .ret
def v124:VFunc:=⟨6,[.tmp 2],c124⟩
def c125:VCode:=
 sQ [oB 2 0,oB 3 1,oq 4 (.alloc [(.int .i64 0),(.int .i64 0),(.int .i64 0)]),oq 5 (.mov (.c (.bool false)))] <|
 .seq (sQ [oK 7 3 2,oq 8 (.call .pure 114 [(.t 7)]),oq 9 (.un .not (.t 8)),oM 10 9,zK 11 10 false 3 3,og 12 10 false (.call .pure 114 [(.t 11)]),og 13 10 false (.un .not (.t 12)),oq 14 (.pick (.t 10) (.c (.bool true)) (.t 13))] <|
 .cond (.t 14) (sQ [oq 15 (.build [(.int .i64 0),(.int .i64 0),(.int .i64 0)] []),⟨none,none,.storeN 3 (.t 4) (.t 15)⟩,oq 5 (.mov (.c (.bool false)))] <|
 .ret) (.skip)) <|
 sQ [oF 16 0 2,oL 17 16,oF 18 0 3,oL 19 18,oq 20 (bQ .add 17 19),oF 21 1 2,oL 22 21,oF 23 1 3,oL 24 23,oq 25 (bQ .add 22 24),oF 26 2 2,oL 27 26,oF 28 2 3,oL 29 28,oq 30 (bQ .add 27 29),oq 31 (.build [(.int .i64 0),(.int .i64 0),(.int .i64 0)] [(0,1,(.t 20)),(1,1,(.t 25)),(2,1,(.t 30))]),oq 6 (.alloc [(.int .i64 0),(.int .i64 0),(.int .i64 0)]),⟨none,none,.storeN 3 (.t 6) (.t 31)⟩] <|
 .seq (sQ [oK 32 3 6,oq 33 (.call .pure 114 [(.t 32)]),oq 34 (.un .not (.t 33))] <|
 .cond (.t 34) (sQ [oq 35 (.build [(.int .i64 0),(.int .i64 0),(.int .i64 0)] []),⟨none,none,.storeN 3 (.t 4) (.t 35)⟩,oq 5 (.mov (.c (.bool false)))] <|
 .ret) (.skip)) <|
 sQ [oK 36 3 6,⟨none,none,.storeN 3 (.t 4) (.t 36)⟩,oq 5 (.mov (.c (.bool true)))] <|
 .ret
def v125:VFunc:=⟨37,[.cellN 3 4,.tmp 5],c125⟩
def c126:VCode:=
 sQ [oq 2 (.mov (.c (.bool false)))] <|
 .seq (sQ [oM 5 0,oq 6 (.lenStr (.t 5)),oq 7 (.bin .num .lss (.t 6) (ki 1)),oM 8 7,zM 9 8 false 0,og 10 8 false (.lenStr (.t 9)),og 11 8 false (.bin .num .gtr (.t 10) (ki 16)),oq 12 (.pick (.t 8) (.c (.bool true)) (.t 11)),oM 13 12,zM 14 13 false 0,og 15 13 false (.idxStr (.t 14) (ki 0)),og 16 13 false (.bin .num .eql (.t 15) (.c (.int .u8 45))),oq 17 (.pick (.t 13) (.c (.bool true)) (.t 16)),oM 18 17,zM 19 18 false 0,zM 20 18 false 0,og 21 18 false (.lenStr (.t 20)),og 22 18 false (.bin .num .sub (.t 21) (ki 1)),og 23 18 false (.idxStr (.t 19) (.t 22)),og 24 18 false (.bin .num .eql (.t 23) (.c (.int .u8 45))),oq 25 (.pick (.t 18) (.c (.bool true)) (.t 24))] <|
 .cond (.t 25) (sQ [oq 2 (.mov (.c (.bool false)))] <|
 .ret) (.skip)) <|
 .seq (sQ [oM 26 0,oq 27 (.lenStr (.t 26)),oq 28 (.mov (ki 0))] <|
 .block 0 (.loop (sQ [oq 29 (bQ .lss 28 27)] <|
 .seq (.cond (.t 29) (.skip) (.exit 0)) <|
 .seq (.block 1 (sQ [oM 30 28,oM 3 30] <|
 sQ [oM 31 0,oM 32 3,oq 33 (.idxStr (.t 31) (.t 32)),oM 4 33] <|
 sQ [oM 34 4,oq 35 (.bin .num .lss (.t 34) (.c (.int .u8 97))),oM 36 35,zM 37 36 false 4,og 38 36 false (.bin .num .gtr (.t 37) (.c (.int .u8 122))),oq 39 (.pick (.t 36) (.c (.bool true)) (.t 38)),oM 40 39,zM 41 40 true 4,og 42 40 true (.bin .num .lss (.t 41) (.c (.int .u8 48))),zM 43 40 true 42,zM 44 43 false 4,og 45 43 false (.bin .num .gtr (.t 44) (.c (.int .u8 57))),og 46 40 true (.pick (.t 43) (.c (.bool true)) (.t 45)),oq 47 (.pick (.t 40) (.t 46) (.c (.bool false))),oM 48 47,zM 49 48 true 4,og 50 48 true (.bin .num .neq (.t 49) (.c (.int .u8 45))),oq 51 (.pick (.t 48) (.t 50) (.c (.bool false)))] <|
 .cond (.t 51) (sQ [oq 2 (.mov (.c (.bool false)))] <|
 .ret) (.skip))) <|
 .ops [oq 52 (.bin .num .add (.t 28) (ki 1)),oM 28 52]))) <|
 sQ [oq 2 (.mov (.c (.bool true)))] <|
 .ret
def v126:VFunc:=⟨53,[.tmp 2],c126⟩
def c127:VCode:=
 sQ [oB 1 0,oq 2 (.mov (.c (.bool false)))] <|
 .seq (sQ [oF 5 0 1,oL 6 5,oq 7 (.call .pure 126 [(.t 6)]),oq 8 (.un .not (.t 7)),oM 9 8,zF 10 9 false 1 1,zK 11 9 false 3 10,og 12 9 false (.call .pure 131 [(.t 11)]),og 13 9 false (.un .not (.t 12)),oq 14 (.pick (.t 9) (.c (.bool true)) (.t 13)),oM 15 14,zF 16 15 false 4 1,zK 17 15 false 3 16,og 18 15 false (.call .pure 131 [(.t 17)]),og 19 15 false (.un .not (.t 18)),oq 20 (.pick (.t 15) (.c (.bool true)) (.t 19)),oM 21 20,zF 22 21 false 1 1,zF 23 21 false 2 22,zL 24 21 false 23,zF 25 21 false 4 1,zF 26 21 false 2 25,zL 27 21 false 26,og 28 21 false (bQ .neq 24 27),oq 29 (.pick (.t 21) (.c (.bool true)) (.t 28))] <|
 .cond (.t 29) (sQ [oq 2 (.mov (.c (.bool false)))] <|
 .ret) (.skip)) <|
 .seq (sQ [oq 3 (.mov (ki 0))] <|
 .block 0 (.loop (.seq (sQ [oM 30 3,oq 31 (.bin .num .leq (.t 30) (ki 1))] <|
 .cond (.t 31) (.skip) (.exit 0)) <|
 .seq (.block 1 (sQ [oF 34 4 1,oK 35 3 34,oM 36 3,oq 37 (.call .pure 132 [(.t 35),(.t 36)]),oM 4 37] <|
 sQ [oM 38 4,oq 39 (.bin .num .gtr (.t 38) (ki 0)),oM 40 39,zM 41 40 true 4,zF 42 40 true 1 1,zK 43 40 true 3 42,zM 44 40 true 3,og 45 40 true (.call .pure 132 [(.t 43),(.t 44)]),og 46 40 true (bQ .lss 41 45),oq 47 (.pick (.t 40) (.t 46) (.c (.bool false)))] <|
 .cond (.t 47) (sQ [oq 2 (.mov (.c (.bool false)))] <|
 .ret) (.skip))) <|
 .ops [oM 32 3,oq 33 (.bin .num .add (.t 32) (ki 1)),oM 3 33]))) <|
 sQ [oq 2 (.mov (.c (.bool true)))] <|
 .ret
def v127:VFunc:=⟨48,[.tmp 2],c127⟩
def c128:VCode:=
 sQ [oB 1 0,oq 2 (.alloc [(.int .i64 0),(.int .i64 0),(.int .i64 0)]),oq 3 (.alloc [(.int .i64 0),(.int .i64 0),(.int .i64 0)]),oq 4 (.mov (.c (.bool false)))] <|
 sQ [oq 5 (.mov (.c (.sl .nil 0 []))),oq 6 (.mov (.c (.sl .nil 0 [])))] <|
 .seq (sQ [oF 13 3 1,oL 14 13,oS 15 14,oq 16 (.mov (ki 0))] <|
 .block 0 (.loop (sQ [oq 17 (bQ .lss 16 15)] <|
 .seq (.cond (.t 17) (.skip) (.exit 0)) <|
 .seq (.block 1 (sQ [oq 18 (.idxAddrS 10 (.t 14) (.t 16)),oK 19 10 18,oq 8 (.alloc [(.str ⟨#[]⟩),(.int .i64 0),(.int .i64 0),(.int .i64 0),(.int .i64 0),(.int .i64 0),(.int .i64 0),(.bool false),(.bool false),(.bool false)]),⟨none,none,.storeN 10 (.t 8) (.t 19)⟩] <|
 .draw [] [oM 20 5,oF 21 1 8,oK 22 3 21,oq 23 (.buildSlice false 3 1 [(.int .i64 0),(.int .i64 0),(.int .i64 0)] [(0,3,(.t 22))]),oq 24 (.append false false 3 24 (.t 20) (.t 23)),oM 25 6,oF 26 4 8,oK 27 3 26,oq 28 (.buildSlice false 3 1 [(.int .i64 0),(.int .i64 0),(.int .i64 0)] [(0,3,(.t 27))]),oq 29 (.append false false 3 24 (.t 25) (.t 28)),oM 5 24,oM 6 29] [(7,4)])) <|
 .ops [oq 30 (.bin .num .add (.t 16) (ki 1)),oM 16 30]))) <|
 sQ [oM 32 5,oq 33 (.call .pure 133 [(.t 32)]),oM 31 33,oX 34 0 31,oX 35 1 31,oq 9 (.alloc [(.int .i64 0),(.int .i64 0),(.int .i64 0)]),⟨none,none,.storeN 3 (.t 9) (.t 34)⟩,oM 10 35] <|
 sQ [oM 37 6,oq 38 (.call .pure 133 [(.t 37)]),oM 36 38,oX 39 0 36,oX 40 1 36,oq 11 (.alloc [(.int .i64 0),(.int .i64 0),(.int .i64 0)]),⟨none,none,.storeN 3 (.t 11) (.t 39)⟩,oM 12 40] <|
 .seq (.draw [] [oK 41 3 9,oK 42 3 11,oM 43 10,oM 44 43,zM 45 44 true 12,oq 46 (.pick (.t 44) (.t 45) (.c (.bool false))),⟨none,none,.storeN 3 (.t 2) (.t 41)⟩,⟨none,none,.storeN 3 (.t 3) (.t 42)⟩,oM 4 46] [(1,6)]) <|
 .ret
def v128:VFunc:=⟨47,[.cellN 3 2,.cellN 3 3,.tmp 4],c128⟩
def c129:VCode:=
 sQ [oB 2 0,oB 3 1,oq 4 (.mov (.c (.bool false)))] <|
 sQ [oF 5 0 2,oL 6 5,oF 7 0 3,oL 8 7,oq 9 (bQ .eql 6 8),oM 10 9,zF 11 10 true 7 2,zK 12 10 true 3 11,zF 13 10 true 7 3,zK 14 10 true 3 13,og 15 10 true (.bin (.agg [.b,.b,.b]) .eql (.t 12) (.t 14)),oq 16 (.pick (.t 10) (.t 15) (.c (.bool false))),oM 4 16] <|
 .ret
def v129:VFunc:=⟨17,[.tmp 4],c129⟩
def c130:VCode:=
 sQ [oq 6 (.mov (.c (.bool false)))] <|
 .seq (sQ [oM 10 0,oS 11 10,oM 12 1,oS 13 12,oq 14 (bQ .neq 11 13)] <|
 .cond (.t 14) (sQ [oq 6 (.mov (.c (.bool false)))] <|
 .ret) (.skip)) <|
 .seq (sQ [oM 15 0,oS 16 15,oq 17 (.mov (ki 0))] <|
 .block 0 (.loop (sQ [oq 18 (bQ .lss 17 16)] <|
 .seq (.cond (.t 18) (.skip) (.exit 0)) <|
 .seq (.block 1 (sQ [oM 19 17,oq 20 (.idxAddrS 10 (.t 15) (.t 17)),oK 21 10 20,oq 8 (.alloc [(.str ⟨#[]⟩),(.int .i64 0),(.int .i64 0),(.int .i64 0),(.int .i64 0),(.int .i64 0),(.int .i64 0),(.bool false),(.bool false),(.bool false)]),oM 7 19,⟨none,none,.storeN 10 (.t 8) (.t 21)⟩] <|
 sQ [oM 22 1,oM 23 7,oq 24 (.idxAddrS 10 (.t 22) (.t 23)),oK 25 10 24,oq 9 (.alloc [(.str ⟨#[]⟩),(.int .i64 0),(.int .i64 0),(.int .i64 0),(.int .i64 0),(.int .i64 0),(.int .i64 0),(.bool false),(.bool false),(.bool false)]),⟨none,none,.storeN 10 (.t 9) (.t 25)⟩] <|
 sQ [oM 26 2,oK 27 10 8,oK 28 10 9,oq 29 (.callV (.t 26) [(.t 27),(.t 28)]),oq 30 (.un .not (.t 29))] <|
 .cond (.t 30) (sQ [oq 6 (.mov (.c (.bool false)))] <|
 .ret) (.skip))) <|
 .ops [oq 31 (.bin .num .add (.t 17) (ki 1)),oM 17 31]))) <|
 sQ [oq 6 (.mov (.c (.bool true)))] <|
 .ret
def v130:VFunc:=⟨32,[.tmp 6],c130⟩
def c131:VCode:=
 sQ [oB 1 0,oq 2 (.mov (.c (.bool false)))] <|
 .seq (sQ [oK 5 3 1,oq 6 (.call .pure 134 [(.t 5)]),oq 7 (.mov (ki 0))] <|
 .block 0 (.loop (sQ [oq 8 (.bin .num .lss (.t 7) (ki 3))] <|
 .seq (.cond (.t 8) (.skip) (.exit 0)) <|
 .seq (.block 1 (sQ [oM 9 7,oq 10 (.idxA1 3 (.t 6) (.t 7)),oM 3 9,oM 4 10] <|
 sQ [oM 11 3,oM 12 4,oq 13 (.call .pure 135 [(.t 11),(.t 12)]),oq 14 (.un .not (.t 13))] <|
 .cond (.t 14) (sQ [oq 2 (.mov (.c (.bool false)))] <|
 .ret) (.skip))) <|
 .ops [oq 15 (.bin .num .add (.t 7) (ki 1)),oM 7 15]))) <|
 sQ [oF 16 2 1,oL 17 16,oq 18 (.bin .num .and (.t 17) (ki 2097151)),oq 19 (.bin .num .eql (.t 18) (ki 0)),oM 2 19] <|
 .ret
def v131:VFunc:=⟨20,[.tmp 2],c131⟩
def c132:VCode:=
 sQ [oB 2 0,oq 4 (.mov (ki 0))] <|
 .seq (sQ [oM 5 1,oq 6 (.bin .num .lss (.t 5) (ki 0)),oM 7 6,zM 8 7 false 1,og 9 7 false (.bin .num .gtr (.t 8) (ki 2)),oq 10 (.pick (.t 7) (.c (.bool true)) (.t 9))] <|
 .cond (.t 10) (sQ [oq 4 (.mov (ki 0))] <|
 .ret) (.skip)) <|
 sQ [oK 11 3 2,oq 12 (.call .pure 134 [(.t 11)]),oM 13 1,oq 14 (.idxA1 3 (.t 12) (.t 13)),oM 4 14] <|
 .ret
def v132:VFunc:=⟨15,[.tmp 4],c132⟩
def c133:VCode:=
 sQ [oq 2 (.alloc [(.int .i64 0),(.int .i64 0),(.int .i64 0)]),oq 3 (.mov (.c (.bool false)))] <|
 sQ [oq 4 (.alloc [(.int .i64 0),(.int .i64 0),(.int .i64 0)])] <|
 .seq (sQ [oM 9 0,oS 10 9,oq 11 (.mov (ki 0))] <|
 .block 0 (.loop (sQ [oq 12 (bQ .lss 11 10)] <|
 .seq (.cond (.t 12) (.skip) (.exit 0)) <|
 .seq (.block 1 (sQ [oq 13 (.idxAddrS 3 (.t 9) (.t 11)),oK 14 3 13,oq 6 (.alloc [(.int .i64 0),(.int .i64 0),(.int .i64 0)]),⟨none,none,.storeN 3 (.t 6) (.t 14)⟩] <|
 sQ [oK 16 3 4,oK 17 3 6,oq 18 (.call .pure 136 [(.t 16),(.t 17)]),oM 15 18,oX 19 0 15,oX 20 1 15,oq 7 (.alloc [(.int .i64 0),(.int .i64 0),(.int .i64 0)]),⟨none,none,.storeN 3 (.t 7) (.t 19)⟩,oM 8 20] <|
 .seq (sQ [oM 21 8,oq 22 (.un .not (.t 21))] <|
 .cond (.t 22) (sQ [oq 23 (.build [(.int .i64 0),(.int .i64 0),(.int .i64 0)] []),⟨none,none,.storeN 3 (.t 2) (.t 23)⟩,oq 3 (.mov (.c (.bool false)))] <|
 .ret) (.skip)) <|
 .ops [oK 24 3 7,⟨none,none,.storeN 3 (.t 4) (.t 24)⟩])) <|
 .ops [oq 25 (.bin .num .add (.t 11) (ki 1)),oM 11 25]))) <|
 sQ [oK 26 3 4,⟨none,none,.storeN 3 (.t 2) (.t 26)⟩,oq 3 (.mov (.c (.bool true)))] <|
 .ret
def v133:VFunc:=⟨27,[.cellN 3 2,.tmp 3],c133⟩
def c134:VCode:=
 sQ [oB 1 0,oq 2 (.alloc [(.int .i64 0),(.int .i64 0),(.int .i64 0)])] <|
 sQ [oF 3 0 1,oL 4 3,oF 5 1 1,oL 6 5,oF 7 2 1,oL 8 7,oq 9 (.build [(.int .i64 0),(.int .i64 0),(.int .i64 0)] [(0,1,(.t 4)),(1,1,(.t 6)),(2,1,(.t 8))]),⟨none,none,.storeN 3 (.t 2) (.t 9)⟩] <|
 .ret
def v134:VFunc:=⟨10,[.cellN 3 2],c134⟩
def c135:VCode:=
 sQ [oq 4 (.mov (.c (.bool false)))] <|
 .seq (sQ [oM 5 0,oq 6 (.bin .num .eql (.t 5) (ki 0))] <|
 .cond (.t 6) (sQ [oM 7 1,oq 8 (.bin .num .geq (.t 7) (ki 0)),oM 9 8,zM 10 9 true 1,og 11 9 true (.bin .num .leq (.t 10) (ki 1099511627776)),oq 12 (.pick (.t 9) (.t 11) (.c (.bool false))),oM 4 12] <|
 .ret) (.skip)) <|
 sQ [oM 13 1,oq 14 (.bin .num .geq (.t 13) (ki 0)),oM 15 14,zM 16 15 true 1,og 17 15 true (.bin .num .leq (.t 16) (ki 1125899906842624)),oq 18 (.pick (.t 15) (.t 17) (.c (.bool false))),oM 4 18] <|
 .ret
def v135:VFunc:=⟨19,[.tmp 4],c135⟩
def c136:VCode:=
 sQ [oB 2 0,oB 3 1,oq 4 (.alloc [(.int .i64 0),(.int .i64 0),(.int .i64 0)]),oq 5 (.mov (.c (.bool false)))] <|
 sQ [oK 6 3 2,oK 7 3 3,oq 8 (.call .pure 137 [(.t 6),(.t 7),(.f 138)]),oX 9 0 8,oX 10 1 8,⟨none,none,.storeN 3 (.t 4) (.t 9)⟩,oM 5 10] <|
 .ret
def v136:VFunc:=⟨11,[.cellN 3 4,.tmp 5],c136⟩
def c137:VCode:=
 sQ [oB 3 0,oB 4 1,oq 6 (.alloc [(.int .i64 0),(.int .i64 0),(.int .i64 0)]),oq 7 (.mov (.c (.bool false)))] <|
 .seq (sQ [oK 12 3 3,oq 13 (.call .pure 131 [(.t 12)]),oq 14 (.un .not (.t 13)),oM 15 14,zK 16 15 false 3 4,og 17 15 false (.call .pure 131 [(.t 16)]),og 18 15 false (.un .not (.t 17)),oq 19 (.pick (.t 15) (.c (.bool true)) (.t 18))] <|
 .cond (.t 19) (sQ [oq 20 (.build [(.int .i64 0),(.int .i64 0),(.int .i64 0)] []),⟨none,none,.storeN 3 (.t 6) (.t 20)⟩,oq 7 (.mov (.c (.bool false)))] <|
 .ret) (.skip)) <|
 .seq (.draw [(8,.z [(.int .i64 0),(.int .i64 0),(.int .i64 0)]),(9,.z [(.int .i64 0),(.int .i64 0),(.int .i64 0)])] [oK 21 3 3,oq 22 (.call .pure 134 [(.t 21)]),oK 23 3 4,oq 24 (.call .pure 134 [(.t 23)]),⟨none,none,.idle⟩,⟨none,none,.idle⟩,⟨none,none,.storeN 3 (.t 8) (.t 22)⟩,⟨none,none,.storeN 3 (.t 9) (.t 24)⟩] []) <|
 .seq (sQ [oq 25 (.mov (ki 0))] <|
 .block 0 (.loop (sQ [oq 26 (.bin .num .lss (.t 25) (ki 3))] <|
 .seq (.cond (.t 26) (.skip) (.exit 0)) <|
 .seq (.block 1 (sQ [oM 27 25,oM 10 27] <|
 .ops [oM 29 10,oM 30 2,oM 31 10,oq 32 (.idxAddrA 3 1 (.t 8) (.t 31)),oL 33 32,oM 34 10,oq 35 (.idxAddrA 3 1 (.t 9) (.t 34)),oL 36 35,oq 37 (.callV (.t 30) [(.t 33),(.t 36)]),oM 28 37,oX 38 0 28,oX 39 1 28,oq 40 (.idxAddrA 3 1 (.t 8) (.t 29)),⟨none,none,.store1 (.t 40) (.t 38)⟩])) <|
 .ops [oq 41 (.bin .num .add (.t 25) (ki 1)),oM 25 41]))) <|
 .seq (sQ [oK 42 3 8,oq 43 (.call .pure 139 [(.t 42)]),oq 11 (.alloc [(.int .i64 0),(.int .i64 0),(.int .i64 0)]),⟨none,none,.storeN 3 (.t 11) (.t 43)⟩] <|
 sQ [oK 44 3 11,oq 45 (.call .pure 131 [(.t 44)])] <|
 .cond (.t 45) (sQ [oK 46 3 11,⟨none,none,.storeN 3 (.t 6) (.t 46)⟩,oq 7 (.mov (.c (.bool true)))] <|
 .ret) (.skip)) <|
 sQ [oq 47 (.build [(.int .i64 0),(.int .i64 0),(.int .i64 0)] []),⟨none,none,.storeN 3 (.t 6) (.t 47)⟩,oq 7 (.mov (.c (.bool false)))] <|
 .ret
def v137:VFunc:=⟨48,[.cellN 3 6,.tmp 7],c137⟩
def c138:VCode:=
 sQ [oq 4 (.mov (ki 0)),oq 5 (.mov (.c (.bool false)))] <|
 sQ [oM 7 0,oq 8 (.conv .u64 (.t 7)),oM 9 1,oq 10 (.conv .u64 (.t 9)),oq 11 (bQ .add 8 10),oq 12 (.conv .i64 (.t 11)),oM 6 12] <|
 .seq (sQ [oM 13 0,oM 14 6,oq 15 (bQ .xor 13 14),oM 16 1,oM 17 6,oq 18 (bQ .xor 16 17),oq 19 (bQ .and 15 18),oq 20 (.bin .num .lss (.t 19) (ki 0))] <|
 .cond (.t 20) (sQ [oq 4 (.mov (ki 0)),oq 5 (.mov (.c (.bool false)))] <|
 .ret) (.skip)) <|
 sQ [oM 21 6,oM 4 21,oq 5 (.mov (.c (.bool true)))] <|
 .ret
def v138:VFunc:=⟨22,[.tmp 4,.tmp 5],c138⟩
def c139:VCode:=
 sQ [oB 1 0,oq 2 (.alloc [(.int .i64 0),(.int .i64 0),(.int .i64 0)])] <|
 sQ [oq 3 (.idxAddrA 3 1 (.t 1) (ki 0)),oL 4 3,oq 5 (.idxAddrA 3 1 (.t 1) (ki 1)),oL 6 5,oq 7 (.idxAddrA 3 1 (.t 1) (ki 2)),oL 8 7,oq 9 (.build [(.int .i64 0),(.int .i64 0),(.int .i64 0)] [(0,1,(.t 4)),(1,1,(.t 6)),(2,1,(.t 8))]),⟨none,none,.storeN 3 (.t 2) (.t 9)⟩] <|
 .ret
def v139:VFunc:=⟨10,[.cellN 3 2],c139⟩
def ft:FuncId→Option VFunc:=fun f=>bif Nat.beq f 3 then some v3 else bif Nat.beq f 5 then some v5 else bif Nat.beq f 6 then some v6 else bif Nat.beq f 7 then some v7 else bif Nat.beq f 8 then some v8 else bif Nat.beq f 9 then some v9 else bif Nat.beq f 10 then some v10 else bif Nat.beq f 11 then some v11 else bif Nat.beq f 12 then some v12 else bif Nat.beq f 13 then some v13 else bif Nat.beq f 14 then some v14 else bif Nat.beq f 15 then some v15 else bif Nat.beq f 16 then some v16 else bif Nat.beq f 17 then some v17 else bif Nat.beq f 18 then some v18 else bif Nat.beq f 19 then some v19 else bif Nat.beq f 20 then some v20 else bif Nat.beq f 21 then some v21 else bif Nat.beq f 22 then some v22 else bif Nat.beq f 23 then some v23 else bif Nat.beq f 24 then some v24 else bif Nat.beq f 25 then some v25 else bif Nat.beq f 26 then some v26 else bif Nat.beq f 27 then some v27 else bif Nat.beq f 28 then some v28 else bif Nat.beq f 29 then some v29 else bif Nat.beq f 31 then some v31 else bif Nat.beq f 32 then some v32 else bif Nat.beq f 33 then some v33 else bif Nat.beq f 34 then some v34 else bif Nat.beq f 35 then some v35 else bif Nat.beq f 36 then some v36 else bif Nat.beq f 37 then some v37 else bif Nat.beq f 38 then some v38 else bif Nat.beq f 39 then some v39 else bif Nat.beq f 40 then some v40 else bif Nat.beq f 41 then some v41 else bif Nat.beq f 42 then some v42 else bif Nat.beq f 43 then some v43 else bif Nat.beq f 44 then some v44 else bif Nat.beq f 45 then some v45 else bif Nat.beq f 46 then some v46 else bif Nat.beq f 47 then some v47 else bif Nat.beq f 48 then some v48 else bif Nat.beq f 49 then some v49 else bif Nat.beq f 50 then some v50 else bif Nat.beq f 51 then some v51 else bif Nat.beq f 52 then some v52 else bif Nat.beq f 53 then some v53 else bif Nat.beq f 54 then some v54 else bif Nat.beq f 55 then some v55 else bif Nat.beq f 58 then some v58 else bif Nat.beq f 59 then some v59 else bif Nat.beq f 60 then some v60 else bif Nat.beq f 61 then some v61 else bif Nat.beq f 62 then some v62 else bif Nat.beq f 63 then some v63 else bif Nat.beq f 64 then some v64 else bif Nat.beq f 65 then some v65 else bif Nat.beq f 66 then some v66 else bif Nat.beq f 67 then some v67 else bif Nat.beq f 68 then some v68 else bif Nat.beq f 69 then some v69 else bif Nat.beq f 70 then some v70 else bif Nat.beq f 71 then some v71 else bif Nat.beq f 72 then some v72 else bif Nat.beq f 73 then some v73 else bif Nat.beq f 74 then some v74 else bif Nat.beq f 75 then some v75 else bif Nat.beq f 76 then some v76 else bif Nat.beq f 77 then some v77 else bif Nat.beq f 78 then some v78 else bif Nat.beq f 79 then some v79 else bif Nat.beq f 80 then some v80 else bif Nat.beq f 81 then some v81 else bif Nat.beq f 82 then some v82 else bif Nat.beq f 83 then some v83 else bif Nat.beq f 84 then some v84 else bif Nat.beq f 85 then some v85 else bif Nat.beq f 86 then some v86 else bif Nat.beq f 87 then some v87 else bif Nat.beq f 88 then some v88 else bif Nat.beq f 89 then some v89 else bif Nat.beq f 90 then some v90 else bif Nat.beq f 91 then some v91 else bif Nat.beq f 92 then some v92 else bif Nat.beq f 93 then some v93 else bif Nat.beq f 94 then some v94 else bif Nat.beq f 95 then some v95 else bif Nat.beq f 96 then some v96 else bif Nat.beq f 97 then some v97 else bif Nat.beq f 98 then some v98 else bif Nat.beq f 99 then some v99 else bif Nat.beq f 100 then some v100 else bif Nat.beq f 101 then some v101 else bif Nat.beq f 102 then some v102 else bif Nat.beq f 103 then some v103 else bif Nat.beq f 104 then some v104 else bif Nat.beq f 105 then some v105 else bif Nat.beq f 106 then some v106 else bif Nat.beq f 107 then some v107 else bif Nat.beq f 108 then some v108 else bif Nat.beq f 109 then some v109 else bif Nat.beq f 110 then some v110 else bif Nat.beq f 111 then some v111 else bif Nat.beq f 112 then some v112 else bif Nat.beq f 113 then some v113 else bif Nat.beq f 114 then some v114 else bif Nat.beq f 115 then some v115 else bif Nat.beq f 116 then some v116 else bif Nat.beq f 117 then some v117 else bif Nat.beq f 118 then some v118 else bif Nat.beq f 119 then some v119 else bif Nat.beq f 120 then some v120 else bif Nat.beq f 121 then some v121 else bif Nat.beq f 122 then some v122 else bif Nat.beq f 123 then some v123 else bif Nat.beq f 124 then some v124 else bif Nat.beq f 125 then some v125 else bif Nat.beq f 126 then some v126 else bif Nat.beq f 127 then some v127 else bif Nat.beq f 128 then some v128 else bif Nat.beq f 129 then some v129 else bif Nat.beq f 130 then some v130 else bif Nat.beq f 131 then some v131 else bif Nat.beq f 132 then some v132 else bif Nat.beq f 133 then some v133 else bif Nat.beq f 134 then some v134 else bif Nat.beq f 135 then some v135 else bif Nat.beq f 136 then some v136 else bif Nat.beq f 137 then some v137 else bif Nat.beq f 138 then some v138 else bif Nat.beq f 139 then some v139 else none
def pr:FuncId→Option (List PV→Option PV):=fun _=>none
def gi:Imm:=fun _=>none
def gn:Addr→Bool:=fun _=>false
def env:Env:=⟨ft,md,pr⟩
abbrev fcn (i:FuncId) (v:VFunc):Prop:=FnComp ⟨Tryz.prog,md,gi,gn⟩ i v
theorem is3:fcn 3 v3:=⟨Tryz.f3,_,fun t=>⟨false,md⟩,Tryz.func3,rfl,by kernel_rfl,by kernel_rfl,by kernel_rfl⟩
theorem is5:fcn 5 v5:=⟨Tryz.f5,_,fun t=>⟨false,md⟩,Tryz.func5,rfl,by kernel_rfl,by kernel_rfl,by kernel_rfl⟩
theorem is6:fcn 6 v6:=⟨Tryz.f6,_,fun t=>⟨false,md⟩,Tryz.func6,rfl,by kernel_rfl,by kernel_rfl,by kernel_rfl⟩
theorem is7:fcn 7 v7:=⟨Tryz.f7,_,fun t=>⟨Nat.beq t 11||Nat.beq t 13||false,md⟩,Tryz.func7,rfl,by kernel_rfl,by kernel_rfl,by kernel_rfl⟩
theorem is8:fcn 8 v8:=⟨Tryz.f8,_,fun t=>⟨false,md⟩,Tryz.func8,rfl,by kernel_rfl,by kernel_rfl,by kernel_rfl⟩
theorem is9:fcn 9 v9:=⟨Tryz.f9,_,fun t=>⟨false,md⟩,Tryz.func9,rfl,by kernel_rfl,by kernel_rfl,by kernel_rfl⟩
theorem is10:fcn 10 v10:=⟨Tryz.f10,_,fun t=>⟨false,md⟩,Tryz.func10,rfl,by kernel_rfl,by kernel_rfl,by kernel_rfl⟩
theorem is11:fcn 11 v11:=⟨Tryz.f11,_,fun t=>⟨false,md⟩,Tryz.func11,rfl,by kernel_rfl,by kernel_rfl,by kernel_rfl⟩
theorem is12:fcn 12 v12:=⟨Tryz.f12,_,fun t=>⟨false,md⟩,Tryz.func12,rfl,by kernel_rfl,by kernel_rfl,by kernel_rfl⟩
theorem is13:fcn 13 v13:=⟨Tryz.f13,_,fun t=>⟨false,md⟩,Tryz.func13,rfl,by kernel_rfl,by kernel_rfl,by kernel_rfl⟩
theorem is14:fcn 14 v14:=⟨Tryz.f14,_,fun t=>⟨false,md⟩,Tryz.func14,rfl,by kernel_rfl,by kernel_rfl,by kernel_rfl⟩
theorem is15:fcn 15 v15:=⟨Tryz.f15,_,fun t=>⟨false,md⟩,Tryz.func15,rfl,by kernel_rfl,by kernel_rfl,by kernel_rfl⟩
theorem is16:fcn 16 v16:=⟨Tryz.f16,_,fun t=>⟨false,md⟩,Tryz.func16,rfl,by kernel_rfl,by kernel_rfl,by kernel_rfl⟩
theorem is17:fcn 17 v17:=⟨Tryz.f17,_,fun t=>⟨false,md⟩,Tryz.func17,rfl,by kernel_rfl,by kernel_rfl,by kernel_rfl⟩
theorem is18:fcn 18 v18:=⟨Tryz.f18,_,fun t=>⟨false,md⟩,Tryz.func18,rfl,by kernel_rfl,by kernel_rfl,by kernel_rfl⟩
theorem is19:fcn 19 v19:=⟨Tryz.f19,_,fun t=>⟨false,md⟩,Tryz.func19,rfl,by kernel_rfl,by kernel_rfl,by kernel_rfl⟩
theorem is20:fcn 20 v20:=⟨Tryz.f20,_,fun t=>⟨false,md⟩,Tryz.func20,rfl,by kernel_rfl,by kernel_rfl,by kernel_rfl⟩
theorem is21:fcn 21 v21:=⟨Tryz.f21,_,fun t=>⟨false,md⟩,Tryz.func21,rfl,by kernel_rfl,by kernel_rfl,by kernel_rfl⟩
theorem is22:fcn 22 v22:=⟨Tryz.f22,_,fun t=>⟨false,md⟩,Tryz.func22,rfl,by kernel_rfl,by kernel_rfl,by kernel_rfl⟩
theorem is23:fcn 23 v23:=⟨Tryz.f23,_,fun t=>⟨false,bif Nat.beq t 21 then fun _=>.lend false else md⟩,Tryz.func23,rfl,by kernel_rfl,by kernel_rfl,by kernel_rfl⟩
theorem is24:fcn 24 v24:=⟨Tryz.f24,_,fun t=>⟨false,md⟩,Tryz.func24,rfl,by kernel_rfl,by kernel_rfl,by kernel_rfl⟩
theorem is25:fcn 25 v25:=⟨Tryz.f25,_,fun t=>⟨false,md⟩,Tryz.func25,rfl,by kernel_rfl,by kernel_rfl,by kernel_rfl⟩
theorem is26:fcn 26 v26:=⟨Tryz.f26,_,fun t=>⟨false,md⟩,Tryz.func26,rfl,by kernel_rfl,by kernel_rfl,by kernel_rfl⟩
theorem is27:fcn 27 v27:=⟨Tryz.f27,_,fun t=>⟨false,md⟩,Tryz.func27,rfl,by kernel_rfl,by kernel_rfl,by kernel_rfl⟩
theorem is28:fcn 28 v28:=⟨Tryz.f28,_,fun t=>⟨false,md⟩,Tryz.func28,rfl,by kernel_rfl,by kernel_rfl,by kernel_rfl⟩
theorem is29:fcn 29 v29:=⟨Tryz.f29,_,fun t=>⟨false,md⟩,Tryz.func29,rfl,by kernel_rfl,by kernel_rfl,by kernel_rfl⟩
theorem is31:fcn 31 v31:=⟨Tryz.f31,_,fun t=>⟨false,md⟩,Tryz.func31,rfl,by kernel_rfl,by kernel_rfl,by kernel_rfl⟩
theorem is32:fcn 32 v32:=⟨Tryz.f32,_,fun t=>⟨false,md⟩,Tryz.func32,rfl,by kernel_rfl,by kernel_rfl,by kernel_rfl⟩
theorem is33:fcn 33 v33:=⟨Tryz.f33,_,fun t=>⟨false,md⟩,Tryz.func33,rfl,by kernel_rfl,by kernel_rfl,by kernel_rfl⟩
theorem is34:fcn 34 v34:=⟨Tryz.f34,_,fun t=>⟨false,md⟩,Tryz.func34,rfl,by kernel_rfl,by kernel_rfl,by kernel_rfl⟩
theorem is35:fcn 35 v35:=⟨Tryz.f35,_,fun t=>⟨false,md⟩,Tryz.func35,rfl,by kernel_rfl,by kernel_rfl,by kernel_rfl⟩
theorem is36:fcn 36 v36:=⟨Tryz.f36,_,fun t=>⟨false,md⟩,Tryz.func36,rfl,by kernel_rfl,by kernel_rfl,by kernel_rfl⟩
theorem is37:fcn 37 v37:=⟨Tryz.f37,_,fun t=>⟨false,md⟩,Tryz.func37,rfl,by kernel_rfl,by kernel_rfl,by kernel_rfl⟩
theorem is38:fcn 38 v38:=⟨Tryz.f38,_,fun t=>⟨false,md⟩,Tryz.func38,rfl,by kernel_rfl,by kernel_rfl,by kernel_rfl⟩
theorem is39:fcn 39 v39:=⟨Tryz.f39,_,fun t=>⟨Nat.beq t 18||false,md⟩,Tryz.func39,rfl,by kernel_rfl,by kernel_rfl,by kernel_rfl⟩
theorem is40:fcn 40 v40:=⟨Tryz.f40,_,fun t=>⟨false,md⟩,Tryz.func40,rfl,by kernel_rfl,by kernel_rfl,by kernel_rfl⟩
theorem is41:fcn 41 v41:=⟨Tryz.f41,_,fun t=>⟨false,md⟩,Tryz.func41,rfl,by kernel_rfl,by kernel_rfl,by kernel_rfl⟩
theorem is42:fcn 42 v42:=⟨Tryz.f42,_,fun t=>⟨false,md⟩,Tryz.func42,rfl,by kernel_rfl,by kernel_rfl,by kernel_rfl⟩
theorem is43:fcn 43 v43:=⟨Tryz.f43,_,fun t=>⟨false,md⟩,Tryz.func43,rfl,by kernel_rfl,by kernel_rfl,by kernel_rfl⟩
theorem is44:fcn 44 v44:=⟨Tryz.f44,_,fun t=>⟨false,md⟩,Tryz.func44,rfl,by kernel_rfl,by kernel_rfl,by kernel_rfl⟩
theorem is45:fcn 45 v45:=⟨Tryz.f45,_,fun t=>⟨false,md⟩,Tryz.func45,rfl,by kernel_rfl,by kernel_rfl,by kernel_rfl⟩
theorem is46:fcn 46 v46:=⟨Tryz.f46,_,fun t=>⟨false,md⟩,Tryz.func46,rfl,by kernel_rfl,by kernel_rfl,by kernel_rfl⟩
theorem is47:fcn 47 v47:=⟨Tryz.f47,_,fun t=>⟨false,md⟩,Tryz.func47,rfl,by kernel_rfl,by kernel_rfl,by kernel_rfl⟩
theorem is48:fcn 48 v48:=⟨Tryz.f48,_,fun t=>⟨false,md⟩,Tryz.func48,rfl,by kernel_rfl,by kernel_rfl,by kernel_rfl⟩
theorem is49:fcn 49 v49:=⟨Tryz.f49,_,fun t=>⟨false,md⟩,Tryz.func49,rfl,by kernel_rfl,by kernel_rfl,by kernel_rfl⟩
theorem is50:fcn 50 v50:=⟨Tryz.f50,_,fun t=>⟨false,md⟩,Tryz.func50,rfl,by kernel_rfl,by kernel_rfl,by kernel_rfl⟩
theorem is51:fcn 51 v51:=⟨Tryz.f51,_,fun t=>⟨false,md⟩,Tryz.func51,rfl,by kernel_rfl,by kernel_rfl,by kernel_rfl⟩
theorem is52:fcn 52 v52:=⟨Tryz.f52,_,fun t=>⟨false,md⟩,Tryz.func52,rfl,by kernel_rfl,by kernel_rfl,by kernel_rfl⟩
theorem is53:fcn 53 v53:=⟨Tryz.f53,_,fun t=>⟨false,md⟩,Tryz.func53,rfl,by kernel_rfl,by kernel_rfl,by kernel_rfl⟩
theorem is54:fcn 54 v54:=⟨Tryz.f54,_,fun t=>⟨false,md⟩,Tryz.func54,rfl,by kernel_rfl,by kernel_rfl,by kernel_rfl⟩
theorem is55:fcn 55 v55:=⟨Tryz.f55,_,fun t=>⟨false,md⟩,Tryz.func55,rfl,by kernel_rfl,by kernel_rfl,by kernel_rfl⟩
theorem is58:fcn 58 v58:=⟨Tryz.f58,_,fun t=>⟨false,md⟩,Tryz.func58,rfl,by kernel_rfl,by kernel_rfl,by kernel_rfl⟩
theorem is59:fcn 59 v59:=⟨Tryz.f59,_,fun t=>⟨false,md⟩,Tryz.func59,rfl,by kernel_rfl,by kernel_rfl,by kernel_rfl⟩
theorem is60:fcn 60 v60:=⟨Tryz.f60,_,fun t=>⟨false,md⟩,Tryz.func60,rfl,by kernel_rfl,by kernel_rfl,by kernel_rfl⟩
theorem is61:fcn 61 v61:=⟨Tryz.f61,_,fun t=>⟨false,md⟩,Tryz.func61,rfl,by kernel_rfl,by kernel_rfl,by kernel_rfl⟩
theorem is62:fcn 62 v62:=⟨Tryz.f62,_,fun t=>⟨false,md⟩,Tryz.func62,rfl,by kernel_rfl,by kernel_rfl,by kernel_rfl⟩
theorem is63:fcn 63 v63:=⟨Tryz.f63,_,fun t=>⟨false,md⟩,Tryz.func63,rfl,by kernel_rfl,by kernel_rfl,by kernel_rfl⟩
theorem is64:fcn 64 v64:=⟨Tryz.f64,_,fun t=>⟨false,md⟩,Tryz.func64,rfl,by kernel_rfl,by kernel_rfl,by kernel_rfl⟩
theorem is65:fcn 65 v65:=⟨Tryz.f65,_,fun t=>⟨false,md⟩,Tryz.func65,rfl,by kernel_rfl,by kernel_rfl,by kernel_rfl⟩
theorem is66:fcn 66 v66:=⟨Tryz.f66,_,fun t=>⟨false,md⟩,Tryz.func66,rfl,by kernel_rfl,by kernel_rfl,by kernel_rfl⟩
theorem is67:fcn 67 v67:=⟨Tryz.f67,_,fun t=>⟨false,md⟩,Tryz.func67,rfl,by kernel_rfl,by kernel_rfl,by kernel_rfl⟩
theorem is68:fcn 68 v68:=⟨Tryz.f68,_,fun t=>⟨false,md⟩,Tryz.func68,rfl,by kernel_rfl,by kernel_rfl,by kernel_rfl⟩
theorem is69:fcn 69 v69:=⟨Tryz.f69,_,fun t=>⟨false,md⟩,Tryz.func69,rfl,by kernel_rfl,by kernel_rfl,by kernel_rfl⟩
theorem is70:fcn 70 v70:=⟨Tryz.f70,_,fun t=>⟨false,md⟩,Tryz.func70,rfl,by kernel_rfl,by kernel_rfl,by kernel_rfl⟩
theorem is71:fcn 71 v71:=⟨Tryz.f71,_,fun t=>⟨false,md⟩,Tryz.func71,rfl,by kernel_rfl,by kernel_rfl,by kernel_rfl⟩
theorem is72:fcn 72 v72:=⟨Tryz.f72,_,fun t=>⟨false,md⟩,Tryz.func72,rfl,by kernel_rfl,by kernel_rfl,by kernel_rfl⟩
theorem is73:fcn 73 v73:=⟨Tryz.f73,_,fun t=>⟨false,md⟩,Tryz.func73,rfl,by kernel_rfl,by kernel_rfl,by kernel_rfl⟩
theorem is74:fcn 74 v74:=⟨Tryz.f74,_,fun t=>⟨Nat.beq t 8||false,md⟩,Tryz.func74,rfl,by kernel_rfl,by kernel_rfl,by kernel_rfl⟩
theorem is75:fcn 75 v75:=⟨Tryz.f75,_,fun t=>⟨false,md⟩,Tryz.func75,rfl,by kernel_rfl,by kernel_rfl,by kernel_rfl⟩
theorem is76:fcn 76 v76:=⟨Tryz.f76,_,fun t=>⟨false,md⟩,Tryz.func76,rfl,by kernel_rfl,by kernel_rfl,by kernel_rfl⟩
theorem is77:fcn 77 v77:=⟨Tryz.f77,_,fun t=>⟨false,md⟩,Tryz.func77,rfl,by kernel_rfl,by kernel_rfl,by kernel_rfl⟩
theorem is78:fcn 78 v78:=⟨Tryz.f78,_,fun t=>⟨false,md⟩,Tryz.func78,rfl,by kernel_rfl,by kernel_rfl,by kernel_rfl⟩
theorem is79:fcn 79 v79:=⟨Tryz.f79,_,fun t=>⟨false,md⟩,Tryz.func79,rfl,by kernel_rfl,by kernel_rfl,by kernel_rfl⟩
theorem is80:fcn 80 v80:=⟨Tryz.f80,_,fun t=>⟨false,md⟩,Tryz.func80,rfl,by kernel_rfl,by kernel_rfl,by kernel_rfl⟩
theorem is81:fcn 81 v81:=⟨Tryz.f81,_,fun t=>⟨false,md⟩,Tryz.func81,rfl,by kernel_rfl,by kernel_rfl,by kernel_rfl⟩
theorem is82:fcn 82 v82:=⟨Tryz.f82,_,fun t=>⟨false,md⟩,Tryz.func82,rfl,by kernel_rfl,by kernel_rfl,by kernel_rfl⟩
theorem is83:fcn 83 v83:=⟨Tryz.f83,_,fun t=>⟨false,md⟩,Tryz.func83,rfl,by kernel_rfl,by kernel_rfl,by kernel_rfl⟩
theorem is84:fcn 84 v84:=⟨Tryz.f84,_,fun t=>⟨false,md⟩,Tryz.func84,rfl,by kernel_rfl,by kernel_rfl,by kernel_rfl⟩
theorem is85:fcn 85 v85:=⟨Tryz.f85,_,fun t=>⟨false,md⟩,Tryz.func85,rfl,by kernel_rfl,by kernel_rfl,by kernel_rfl⟩
theorem is86:fcn 86 v86:=⟨Tryz.f86,_,fun t=>⟨false,md⟩,Tryz.func86,rfl,by kernel_rfl,by kernel_rfl,by kernel_rfl⟩
theorem is87:fcn 87 v87:=⟨Tryz.f87,_,fun t=>⟨false,md⟩,Tryz.func87,rfl,by kernel_rfl,by kernel_rfl,by kernel_rfl⟩
theorem is88:fcn 88 v88:=⟨Tryz.f88,_,fun t=>⟨false,md⟩,Tryz.func88,rfl,by kernel_rfl,by kernel_rfl,by kernel_rfl⟩
theorem is89:fcn 89 v89:=⟨Tryz.f89,_,fun t=>⟨false,md⟩,Tryz.func89,rfl,by kernel_rfl,by kernel_rfl,by kernel_rfl⟩
theorem is90:fcn 90 v90:=⟨Tryz.f90,_,fun t=>⟨false,md⟩,Tryz.func90,rfl,by kernel_rfl,by kernel_rfl,by kernel_rfl⟩
theorem is91:fcn 91 v91:=⟨Tryz.f91,_,fun t=>⟨Nat.beq t 22||false,md⟩,Tryz.func91,rfl,by kernel_rfl,by kernel_rfl,by kernel_rfl⟩
theorem is92:fcn 92 v92:=⟨Tryz.f92,_,fun t=>⟨false,md⟩,Tryz.func92,rfl,by kernel_rfl,by kernel_rfl,by kernel_rfl⟩
theorem is93:fcn 93 v93:=⟨Tryz.f93,_,fun t=>⟨false,md⟩,Tryz.func93,rfl,by kernel_rfl,by kernel_rfl,by kernel_rfl⟩
theorem is94:fcn 94 v94:=⟨Tryz.f94,_,fun t=>⟨false,md⟩,Tryz.func94,rfl,by kernel_rfl,by kernel_rfl,by kernel_rfl⟩
theorem is95:fcn 95 v95:=⟨Tryz.f95,_,fun t=>⟨false,md⟩,Tryz.func95,rfl,by kernel_rfl,by kernel_rfl,by kernel_rfl⟩
theorem is96:fcn 96 v96:=⟨Tryz.f96,_,fun t=>⟨false,md⟩,Tryz.func96,rfl,by kernel_rfl,by kernel_rfl,by kernel_rfl⟩
theorem is97:fcn 97 v97:=⟨Tryz.f97,_,fun t=>⟨false,md⟩,Tryz.func97,rfl,by kernel_rfl,by kernel_rfl,by kernel_rfl⟩
theorem is98:fcn 98 v98:=⟨Tryz.f98,_,fun t=>⟨false,md⟩,Tryz.func98,rfl,by kernel_rfl,by kernel_rfl,by kernel_rfl⟩
theorem is99:fcn 99 v99:=⟨Tryz.f99,_,fun t=>⟨false,md⟩,Tryz.func99,rfl,by kernel_rfl,by kernel_rfl,by kernel_rfl⟩
theorem is100:fcn 100 v100:=⟨Tryz.f100,_,fun t=>⟨false,md⟩,Tryz.func100,rfl,by kernel_rfl,by kernel_rfl,by kernel_rfl⟩
theorem is101:fcn 101 v101:=⟨Tryz.f101,_,fun t=>⟨false,md⟩,Tryz.func101,rfl,by kernel_rfl,by kernel_rfl,by kernel_rfl⟩
theorem is102:fcn 102 v102:=⟨Tryz.f102,_,fun t=>⟨false,md⟩,Tryz.func102,rfl,by kernel_rfl,by kernel_rfl,by kernel_rfl⟩
theorem is103:fcn 103 v103:=⟨Tryz.f103,_,fun t=>⟨false,md⟩,Tryz.func103,rfl,by kernel_rfl,by kernel_rfl,by kernel_rfl⟩
theorem is104:fcn 104 v104:=⟨Tryz.f104,_,fun t=>⟨false,md⟩,Tryz.func104,rfl,by kernel_rfl,by kernel_rfl,by kernel_rfl⟩
theorem is105:fcn 105 v105:=⟨Tryz.f105,_,fun t=>⟨false,md⟩,Tryz.func105,rfl,by kernel_rfl,by kernel_rfl,by kernel_rfl⟩
theorem is106:fcn 106 v106:=⟨Tryz.f106,_,fun t=>⟨false,md⟩,Tryz.func106,rfl,by kernel_rfl,by kernel_rfl,by kernel_rfl⟩
theorem is107:fcn 107 v107:=⟨Tryz.f107,_,fun t=>⟨false,md⟩,Tryz.func107,rfl,by kernel_rfl,by kernel_rfl,by kernel_rfl⟩
theorem is108:fcn 108 v108:=⟨Tryz.f108,_,fun t=>⟨false,md⟩,Tryz.func108,rfl,by kernel_rfl,by kernel_rfl,by kernel_rfl⟩
theorem is109:fcn 109 v109:=⟨Tryz.f109,_,fun t=>⟨false,md⟩,Tryz.func109,rfl,by kernel_rfl,by kernel_rfl,by kernel_rfl⟩
theorem is110:fcn 110 v110:=⟨Tryz.f110,_,fun t=>⟨false,md⟩,Tryz.func110,rfl,by kernel_rfl,by kernel_rfl,by kernel_rfl⟩
theorem is111:fcn 111 v111:=⟨Tryz.f111,_,fun t=>⟨false,md⟩,Tryz.func111,rfl,by kernel_rfl,by kernel_rfl,by kernel_rfl⟩
theorem is112:fcn 112 v112:=⟨Tryz.f112,_,fun t=>⟨false,md⟩,Tryz.func112,rfl,by kernel_rfl,by kernel_rfl,by kernel_rfl⟩
theorem is113:fcn 113 v113:=⟨Tryz.f113,_,fun t=>⟨false,md⟩,Tryz.func113,rfl,by kernel_rfl,by kernel_rfl,by kernel_rfl⟩
theorem is114:fcn 114 v114:=⟨Tryz.f114,_,fun t=>⟨false,md⟩,Tryz.func114,rfl,by kernel_rfl,by kernel_rfl,by kernel_rfl⟩
theorem is115:fcn 115 v115:=⟨Tryz.f115,_,fun t=>⟨false,md⟩,Tryz.func115,rfl,by kernel_rfl,by kernel_rfl,by kernel_rfl⟩
theorem is116:fcn 116 v116:=⟨Tryz.f116,_,fun t=>⟨false,md⟩,Tryz.func116,rfl,by kernel_rfl,by kernel_rfl,by kernel_rfl⟩
theorem is117:fcn 117 v117:=⟨Tryz.f117,_,fun t=>⟨false,md⟩,Tryz.func117,rfl,by kernel_rfl,by kernel_rfl,by kernel_rfl⟩
theorem is118:fcn 118 v118:=⟨Tryz.f118,_,fun t=>⟨false,md⟩,Tryz.func118,rfl,by kernel_rfl,by kernel_rfl,by kernel_rfl⟩
theorem is119:fcn 119 v119:=⟨Tryz.f119,_,fun t=>⟨false,md⟩,Tryz.func119,rfl,by kernel_rfl,by kernel_rfl,by kernel_rfl⟩
theorem is120:fcn 120 v120:=⟨Tryz.f120,_,fun t=>⟨false,md⟩,Tryz.func120,rfl,by kernel_rfl,by kernel_rfl,by kernel_rfl⟩
theorem is121:fcn 121 v121:=⟨Tryz.f121,_,fun t=>⟨false,md⟩,Tryz.func121,rfl,by kernel_rfl,by kernel_rfl,by kernel_rfl⟩
theorem is122:fcn 122 v122:=⟨Tryz.f122,_,fun t=>⟨false,md⟩,Tryz.func122,rfl,by kernel_rfl,by kernel_rfl,by kernel_rfl⟩
theorem is123:fcn 123 v123:=⟨Tryz.f123,_,fun t=>⟨false,md⟩,Tryz.func123,rfl,by kernel_rfl,by kernel_rfl,by kernel_rfl⟩
theorem is124:fcn 124 v124:=⟨Tryz.f124,_,fun t=>⟨false,md⟩,Tryz.func124,rfl,by kernel_rfl,by kernel_rfl,by kernel_rfl⟩
theorem is125:fcn 125 v125:=⟨Tryz.f125,_,fun t=>⟨false,md⟩,Tryz.func125,rfl,by kernel_rfl,by kernel_rfl,by kernel_rfl⟩
theorem is126:fcn 126 v126:=⟨Tryz.f126,_,fun t=>⟨false,md⟩,Tryz.func126,rfl,by kernel_rfl,by kernel_rfl,by kernel_rfl⟩
theorem is127:fcn 127 v127:=⟨Tryz.f127,_,fun t=>⟨false,md⟩,Tryz.func127,rfl,by kernel_rfl,by kernel_rfl,by kernel_rfl⟩
theorem is128:fcn 128 v128:=⟨Tryz.f128,_,fun t=>⟨false,md⟩,Tryz.func128,rfl,by kernel_rfl,by kernel_rfl,by kernel_rfl⟩
theorem is129:fcn 129 v129:=⟨Tryz.f129,_,fun t=>⟨false,md⟩,Tryz.func129,rfl,by kernel_rfl,by kernel_rfl,by kernel_rfl⟩
theorem is130:fcn 130 v130:=⟨Tryz.f130,_,fun t=>⟨false,md⟩,Tryz.func130,rfl,by kernel_rfl,by kernel_rfl,by kernel_rfl⟩
theorem is131:fcn 131 v131:=⟨Tryz.f131,_,fun t=>⟨false,md⟩,Tryz.func131,rfl,by kernel_rfl,by kernel_rfl,by kernel_rfl⟩
theorem is132:fcn 132 v132:=⟨Tryz.f132,_,fun t=>⟨false,md⟩,Tryz.func132,rfl,by kernel_rfl,by kernel_rfl,by kernel_rfl⟩
theorem is133:fcn 133 v133:=⟨Tryz.f133,_,fun t=>⟨false,md⟩,Tryz.func133,rfl,by kernel_rfl,by kernel_rfl,by kernel_rfl⟩
theorem is134:fcn 134 v134:=⟨Tryz.f134,_,fun t=>⟨false,md⟩,Tryz.func134,rfl,by kernel_rfl,by kernel_rfl,by kernel_rfl⟩
theorem is135:fcn 135 v135:=⟨Tryz.f135,_,fun t=>⟨false,md⟩,Tryz.func135,rfl,by kernel_rfl,by kernel_rfl,by kernel_rfl⟩
theorem is136:fcn 136 v136:=⟨Tryz.f136,_,fun t=>⟨false,md⟩,Tryz.func136,rfl,by kernel_rfl,by kernel_rfl,by kernel_rfl⟩
theorem is137:fcn 137 v137:=⟨Tryz.f137,_,fun t=>⟨false,md⟩,Tryz.func137,rfl,by kernel_rfl,by kernel_rfl,by kernel_rfl⟩
theorem is138:fcn 138 v138:=⟨Tryz.f138,_,fun t=>⟨false,md⟩,Tryz.func138,rfl,by kernel_rfl,by kernel_rfl,by kernel_rfl⟩
theorem is139:fcn 139 v139:=⟨Tryz.f139,_,fun t=>⟨false,md⟩,Tryz.func139,rfl,by kernel_rfl,by kernel_rfl,by kernel_rfl⟩
theorem envOK:EnvOK ⟨Tryz.prog,md,gi,gn⟩ env:=⟨rfl,by kernel_rfl,(fun f vf h=>by
 change ft f=some vf at h
 unfold ft at h
 rcases ar h with ⟨h1,h2⟩ | h
 ·rw [h1,h2]; exact is3
 rcases ar h with ⟨h1,h2⟩ | h
 ·rw [h1,h2]; exact is5
 rcases ar h with ⟨h1,h2⟩ | h
 ·rw [h1,h2]; exact is6
 rcases ar h with ⟨h1,h2⟩ | h
 ·rw [h1,h2]; exact is7
 rcases ar h with ⟨h1,h2⟩ | h
 ·rw [h1,h2]; exact is8
 rcases ar h with ⟨h1,h2⟩ | h
 ·rw [h1,h2]; exact is9
 rcases ar h with ⟨h1,h2⟩ | h
 ·rw [h1,h2]; exact is10
 rcases ar h with ⟨h1,h2⟩ | h
 ·rw [h1,h2]; exact is11
 rcases ar h with ⟨h1,h2⟩ | h
 ·rw [h1,h2]; exact is12
 rcases ar h with ⟨h1,h2⟩ | h
 ·rw [h1,h2]; exact is13
 rcases ar h with ⟨h1,h2⟩ | h
 ·rw [h1,h2]; exact is14
 rcases ar h with ⟨h1,h2⟩ | h
 ·rw [h1,h2]; exact is15
 rcases ar h with ⟨h1,h2⟩ | h
 ·rw [h1,h2]; exact is16
 rcases ar h with ⟨h1,h2⟩ | h
 ·rw [h1,h2]; exact is17
 rcases ar h with ⟨h1,h2⟩ | h
 ·rw [h1,h2]; exact is18
 rcases ar h with ⟨h1,h2⟩ | h
 ·rw [h1,h2]; exact is19
 rcases ar h with ⟨h1,h2⟩ | h
 ·rw [h1,h2]; exact is20
 rcases ar h with ⟨h1,h2⟩ | h
 ·rw [h1,h2]; exact is21
 rcases ar h with ⟨h1,h2⟩ | h
 ·rw [h1,h2]; exact is22
 rcases ar h with ⟨h1,h2⟩ | h
 ·rw [h1,h2]; exact is23
 rcases ar h with ⟨h1,h2⟩ | h
 ·rw [h1,h2]; exact is24
 rcases ar h with ⟨h1,h2⟩ | h
 ·rw [h1,h2]; exact is25
 rcases ar h with ⟨h1,h2⟩ | h
 ·rw [h1,h2]; exact is26
 rcases ar h with ⟨h1,h2⟩ | h
 ·rw [h1,h2]; exact is27
 rcases ar h with ⟨h1,h2⟩ | h
 ·rw [h1,h2]; exact is28
 rcases ar h with ⟨h1,h2⟩ | h
 ·rw [h1,h2]; exact is29
 rcases ar h with ⟨h1,h2⟩ | h
 ·rw [h1,h2]; exact is31
 rcases ar h with ⟨h1,h2⟩ | h
 ·rw [h1,h2]; exact is32
 rcases ar h with ⟨h1,h2⟩ | h
 ·rw [h1,h2]; exact is33
 rcases ar h with ⟨h1,h2⟩ | h
 ·rw [h1,h2]; exact is34
 rcases ar h with ⟨h1,h2⟩ | h
 ·rw [h1,h2]; exact is35
 rcases ar h with ⟨h1,h2⟩ | h
 ·rw [h1,h2]; exact is36
 rcases ar h with ⟨h1,h2⟩ | h
 ·rw [h1,h2]; exact is37
 rcases ar h with ⟨h1,h2⟩ | h
 ·rw [h1,h2]; exact is38
 rcases ar h with ⟨h1,h2⟩ | h
 ·rw [h1,h2]; exact is39
 rcases ar h with ⟨h1,h2⟩ | h
 ·rw [h1,h2]; exact is40
 rcases ar h with ⟨h1,h2⟩ | h
 ·rw [h1,h2]; exact is41
 rcases ar h with ⟨h1,h2⟩ | h
 ·rw [h1,h2]; exact is42
 rcases ar h with ⟨h1,h2⟩ | h
 ·rw [h1,h2]; exact is43
 rcases ar h with ⟨h1,h2⟩ | h
 ·rw [h1,h2]; exact is44
 rcases ar h with ⟨h1,h2⟩ | h
 ·rw [h1,h2]; exact is45
 rcases ar h with ⟨h1,h2⟩ | h
 ·rw [h1,h2]; exact is46
 rcases ar h with ⟨h1,h2⟩ | h
 ·rw [h1,h2]; exact is47
 rcases ar h with ⟨h1,h2⟩ | h
 ·rw [h1,h2]; exact is48
 rcases ar h with ⟨h1,h2⟩ | h
 ·rw [h1,h2]; exact is49
 rcases ar h with ⟨h1,h2⟩ | h
 ·rw [h1,h2]; exact is50
 rcases ar h with ⟨h1,h2⟩ | h
 ·rw [h1,h2]; exact is51
 rcases ar h with ⟨h1,h2⟩ | h
 ·rw [h1,h2]; exact is52
 rcases ar h with ⟨h1,h2⟩ | h
 ·rw [h1,h2]; exact is53
 rcases ar h with ⟨h1,h2⟩ | h
 ·rw [h1,h2]; exact is54
 rcases ar h with ⟨h1,h2⟩ | h
 ·rw [h1,h2]; exact is55
 rcases ar h with ⟨h1,h2⟩ | h
 ·rw [h1,h2]; exact is58
 rcases ar h with ⟨h1,h2⟩ | h
 ·rw [h1,h2]; exact is59
 rcases ar h with ⟨h1,h2⟩ | h
 ·rw [h1,h2]; exact is60
 rcases ar h with ⟨h1,h2⟩ | h
 ·rw [h1,h2]; exact is61
 rcases ar h with ⟨h1,h2⟩ | h
 ·rw [h1,h2]; exact is62
 rcases ar h with ⟨h1,h2⟩ | h
 ·rw [h1,h2]; exact is63
 rcases ar h with ⟨h1,h2⟩ | h
 ·rw [h1,h2]; exact is64
 rcases ar h with ⟨h1,h2⟩ | h
 ·rw [h1,h2]; exact is65
 rcases ar h with ⟨h1,h2⟩ | h
 ·rw [h1,h2]; exact is66
 rcases ar h with ⟨h1,h2⟩ | h
 ·rw [h1,h2]; exact is67
 rcases ar h with ⟨h1,h2⟩ | h
 ·rw [h1,h2]; exact is68
 rcases ar h with ⟨h1,h2⟩ | h
 ·rw [h1,h2]; exact is69
 rcases ar h with ⟨h1,h2⟩ | h
 ·rw [h1,h2]; exact is70
 rcases ar h with ⟨h1,h2⟩ | h
 ·rw [h1,h2]; exact is71
 rcases ar h with ⟨h1,h2⟩ | h
 ·rw [h1,h2]; exact is72
 rcases ar h with ⟨h1,h2⟩ | h
 ·rw [h1,h2]; exact is73
 rcases ar h with ⟨h1,h2⟩ | h
 ·rw [h1,h2]; exact is74
 rcases ar h with ⟨h1,h2⟩ | h
 ·rw [h1,h2]; exact is75
 rcases ar h with ⟨h1,h2⟩ | h
 ·rw [h1,h2]; exact is76
 rcases ar h with ⟨h1,h2⟩ | h
 ·rw [h1,h2]; exact is77
 rcases ar h with ⟨h1,h2⟩ | h
 ·rw [h1,h2]; exact is78
 rcases ar h with ⟨h1,h2⟩ | h
 ·rw [h1,h2]; exact is79
 rcases ar h with ⟨h1,h2⟩ | h
 ·rw [h1,h2]; exact is80
 rcases ar h with ⟨h1,h2⟩ | h
 ·rw [h1,h2]; exact is81
 rcases ar h with ⟨h1,h2⟩ | h
 ·rw [h1,h2]; exact is82
 rcases ar h with ⟨h1,h2⟩ | h
 ·rw [h1,h2]; exact is83
 rcases ar h with ⟨h1,h2⟩ | h
 ·rw [h1,h2]; exact is84
 rcases ar h with ⟨h1,h2⟩ | h
 ·rw [h1,h2]; exact is85
 rcases ar h with ⟨h1,h2⟩ | h
 ·rw [h1,h2]; exact is86
 rcases ar h with ⟨h1,h2⟩ | h
 ·rw [h1,h2]; exact is87
 rcases ar h with ⟨h1,h2⟩ | h
 ·rw [h1,h2]; exact is88
 rcases ar h with ⟨h1,h2⟩ | h
 ·rw [h1,h2]; exact is89
 rcases ar h with ⟨h1,h2⟩ | h
 ·rw [h1,h2]; exact is90
 rcases ar h with ⟨h1,h2⟩ | h
 ·rw [h1,h2]; exact is91
 rcases ar h with ⟨h1,h2⟩ | h
 ·rw [h1,h2]; exact is92
 rcases ar h with ⟨h1,h2⟩ | h
 ·rw [h1,h2]; exact is93
 rcases ar h with ⟨h1,h2⟩ | h
 ·rw [h1,h2]; exact is94
 rcases ar h with ⟨h1,h2⟩ | h
 ·rw [h1,h2]; exact is95
 rcases ar h with ⟨h1,h2⟩ | h
 ·rw [h1,h2]; exact is96
 rcases ar h with ⟨h1,h2⟩ | h
 ·rw [h1,h2]; exact is97
 rcases ar h with ⟨h1,h2⟩ | h
 ·rw [h1,h2]; exact is98
 rcases ar h with ⟨h1,h2⟩ | h
 ·rw [h1,h2]; exact is99
 rcases ar h with ⟨h1,h2⟩ | h
 ·rw [h1,h2]; exact is100
 rcases ar h with ⟨h1,h2⟩ | h
 ·rw [h1,h2]; exact is101
 rcases ar h with ⟨h1,h2⟩ | h
 ·rw [h1,h2]; exact is102
 rcases ar h with ⟨h1,h2⟩ | h
 ·rw [h1,h2]; exact is103
 rcases ar h with ⟨h1,h2⟩ | h
 ·rw [h1,h2]; exact is104
 rcases ar h with ⟨h1,h2⟩ | h
 ·rw [h1,h2]; exact is105
 rcases ar h with ⟨h1,h2⟩ | h
 ·rw [h1,h2]; exact is106
 rcases ar h with ⟨h1,h2⟩ | h
 ·rw [h1,h2]; exact is107
 rcases ar h with ⟨h1,h2⟩ | h
 ·rw [h1,h2]; exact is108
 rcases ar h with ⟨h1,h2⟩ | h
 ·rw [h1,h2]; exact is109
 rcases ar h with ⟨h1,h2⟩ | h
 ·rw [h1,h2]; exact is110
 rcases ar h with ⟨h1,h2⟩ | h
 ·rw [h1,h2]; exact is111
 rcases ar h with ⟨h1,h2⟩ | h
 ·rw [h1,h2]; exact is112
 rcases ar h with ⟨h1,h2⟩ | h
 ·rw [h1,h2]; exact is113
 rcases ar h with ⟨h1,h2⟩ | h
 ·rw [h1,h2]; exact is114
 rcases ar h with ⟨h1,h2⟩ | h
 ·rw [h1,h2]; exact is115
 rcases ar h with ⟨h1,h2⟩ | h
 ·rw [h1,h2]; exact is116
 rcases ar h with ⟨h1,h2⟩ | h
 ·rw [h1,h2]; exact is117
 rcases ar h with ⟨h1,h2⟩ | h
 ·rw [h1,h2]; exact is118
 rcases ar h with ⟨h1,h2⟩ | h
 ·rw [h1,h2]; exact is119
 rcases ar h with ⟨h1,h2⟩ | h
 ·rw [h1,h2]; exact is120
 rcases ar h with ⟨h1,h2⟩ | h
 ·rw [h1,h2]; exact is121
 rcases ar h with ⟨h1,h2⟩ | h
 ·rw [h1,h2]; exact is122
 rcases ar h with ⟨h1,h2⟩ | h
 ·rw [h1,h2]; exact is123
 rcases ar h with ⟨h1,h2⟩ | h
 ·rw [h1,h2]; exact is124
 rcases ar h with ⟨h1,h2⟩ | h
 ·rw [h1,h2]; exact is125
 rcases ar h with ⟨h1,h2⟩ | h
 ·rw [h1,h2]; exact is126
 rcases ar h with ⟨h1,h2⟩ | h
 ·rw [h1,h2]; exact is127
 rcases ar h with ⟨h1,h2⟩ | h
 ·rw [h1,h2]; exact is128
 rcases ar h with ⟨h1,h2⟩ | h
 ·rw [h1,h2]; exact is129
 rcases ar h with ⟨h1,h2⟩ | h
 ·rw [h1,h2]; exact is130
 rcases ar h with ⟨h1,h2⟩ | h
 ·rw [h1,h2]; exact is131
 rcases ar h with ⟨h1,h2⟩ | h
 ·rw [h1,h2]; exact is132
 rcases ar h with ⟨h1,h2⟩ | h
 ·rw [h1,h2]; exact is133
 rcases ar h with ⟨h1,h2⟩ | h
 ·rw [h1,h2]; exact is134
 rcases ar h with ⟨h1,h2⟩ | h
 ·rw [h1,h2]; exact is135
 rcases ar h with ⟨h1,h2⟩ | h
 ·rw [h1,h2]; exact is136
 rcases ar h with ⟨h1,h2⟩ | h
 ·rw [h1,h2]; exact is137
 rcases ar h with ⟨h1,h2⟩ | h
 ·rw [h1,h2]; exact is138
 rcases ar h with ⟨h1,h2⟩ | h
 ·rw [h1,h2]; exact is139
 cases h),fun f g h=>by cases h⟩
end Go.Proofs.YtflfdglnelbbiaaGreat
