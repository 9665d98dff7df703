/-
  The functions of this seat as code of the abstract machine, and that they are so. Printed by a program.
-/
import Derived.Test.YtdbobcbjgacjpaaV7
import Derived.Test.YtdbobcbjgacjpaaChecked
import Derived.KernelRfl
set_option linter.all false
set_option linter.unusedVariables false
set_option linter.unusedSimpArgs false
set_option linter.unusedSectionVars false
namespace Go.Proofs.Ytdbobcbjgacjpaa
open Go Go.VM

def md : FuncId → VM.Mode := fun f => bif Nat.beq f 20 then .shared else bif Nat.beq f 25 then .shared else bif Nat.beq f 26 then .shared else bif Nat.beq f 30 then .shared else bif Nat.beq f 18 then .shared else bif Nat.beq f 24 then .shared else .pure
/-- berthing/berthinglaw09.HintTells -/
def c3 : VCode :=
  .seq (.ops [⟨some 1, none, .box (.t 0)⟩, ⟨some 2, none, .mov (.c (.bool false))⟩]) <|
  .seq (.seq (.ops [⟨some 22, none, .call 6 []⟩, ⟨some 23, none, .un .not (.t 22)⟩]) <|
  .cond (.t 23) (.seq (.ops [⟨some 2, none, .mov (.c (.bool false))⟩]) <|
   .ret) (.skip)) <|
  .seq (.ops [⟨some 25, none, .fieldAddr 0 (.t 1)⟩, ⟨some 26, none, .loadN 16 (.t 25)⟩, ⟨some 27, none, .fieldAddr 16 (.t 1)⟩, ⟨some 28, none, .load1 (.t 27)⟩, ⟨some 29, none, .fieldAddr 19 (.t 1)⟩, ⟨some 30, none, .loadN 2 (.t 29)⟩, ⟨some 31, none, .call 7 [(.t 26), (.t 28), (.t 30)]⟩, ⟨some 24, none, .mov (.t 31)⟩, ⟨some 32, none, .extract 0 (.t 24)⟩, ⟨some 33, none, .extract 1 (.t 24)⟩, ⟨some 3, none, .mov (.t 32)⟩, ⟨some 4, none, .mov (.t 33)⟩]) <|
  .seq (.ops [⟨some 35, none, .fieldAddr 0 (.t 1)⟩, ⟨some 36, none, .loadN 16 (.t 35)⟩, ⟨some 37, none, .fieldAddr 16 (.t 1)⟩, ⟨some 38, none, .load1 (.t 37)⟩, ⟨some 39, none, .fieldAddr 17 (.t 1)⟩, ⟨some 40, none, .load1 (.t 39)⟩, ⟨some 41, none, .fieldAddr 19 (.t 1)⟩, ⟨some 42, none, .loadN 2 (.t 41)⟩, ⟨some 43, none, .call 8 [(.t 36), (.t 38), (.t 40), (.t 42)]⟩, ⟨some 34, none, .mov (.t 43)⟩, ⟨some 44, none, .extract 0 (.t 34)⟩, ⟨some 45, none, .extract 1 (.t 34)⟩, ⟨some 5, none, .mov (.t 44)⟩, ⟨some 6, none, .mov (.t 45)⟩]) <|
  .seq (.ops [⟨some 47, none, .fieldAddr 0 (.t 1)⟩, ⟨some 48, none, .idxAddrA 2 8 (.t 47) (.c (.int .i64 0))⟩, ⟨some 49, none, .loadN 8 (.t 48)⟩, ⟨some 50, none, .fieldAddr 18 (.t 1)⟩, ⟨some 51, none, .load1 (.t 50)⟩, ⟨some 52, none, .fieldAddr 19 (.t 1)⟩, ⟨some 53, none, .idxAddrA 2 1 (.t 52) (.c (.int .i64 0))⟩, ⟨some 54, none, .load1 (.t 53)⟩, ⟨some 55, none, .call 9 [(.t 49), (.t 51), (.t 54)]⟩, ⟨some 46, none, .mov (.t 55)⟩, ⟨some 56, none, .extract 0 (.t 46)⟩, ⟨some 57, none, .extract 1 (.t 46)⟩, ⟨some 7, none, .alloc [(.int .i64 0), (.int .i64 0), (.int .i64 0), (.int .i64 0), (.int .i64 0), (.int .i64 0), (.int .i64 0), (.int .i64 0)]⟩, ⟨none, none, .storeN 8 (.t 7) (.t 56)⟩, ⟨some 8, none, .mov (.t 57)⟩]) <|
  .seq (.ops [⟨some 58, none, .fieldAddr 21 (.t 1)⟩, ⟨some 59, none, .load1 (.t 58)⟩, ⟨some 60, none, .minmax false [(.t 59), (.c (.int .i64 300))]⟩, ⟨some 61, none, .minmax true [(.c (.int .i64 0)), (.t 60)]⟩, ⟨some 9, none, .mov (.t 61)⟩]) <|
  .seq (.ops [⟨some 62, none, .fieldAddr 0 (.t 1)⟩, ⟨some 63, none, .loadN 16 (.t 62)⟩, ⟨some 64, none, .fieldAddr 16 (.t 1)⟩, ⟨some 65, none, .load1 (.t 64)⟩, ⟨some 66, none, .fieldAddr 19 (.t 1)⟩, ⟨some 67, none, .loadN 2 (.t 66)⟩, ⟨some 68, none, .mov (.t 9)⟩, ⟨some 69, none, .call 10 [(.t 63), (.t 65), (.t 67), (.t 68)]⟩, ⟨some 10, none, .mov (.t 69)⟩]) <|
  .seq (.ops [⟨some 70, none, .fieldAddr 0 (.t 1)⟩, ⟨some 71, none, .loadN 16 (.t 70)⟩, ⟨some 72, none, .fieldAddr 19 (.t 1)⟩, ⟨some 73, none, .loadN 2 (.t 72)⟩, ⟨some 74, none, .call 11 [(.t 71), (.t 73)]⟩, ⟨some 11, none, .mov (.t 74)⟩]) <|
  .seq (.seq (.ops [⟨some 75, none, .fieldAddr 0 (.t 1)⟩, ⟨some 76, none, .idxAddrA 2 8 (.t 75) (.c (.int .i64 0))⟩, ⟨some 77, none, .loadN 8 (.t 76)⟩, ⟨some 78, none, .build [(.int .i64 0), (.int .i64 0), (.int .i64 0), (.int .i64 0), (.int .i64 0), (.int .i64 0), (.int .i64 0), (.int .i64 0), (.int .i64 0), (.int .i64 0), (.int .i64 0), (.int .i64 0), (.int .i64 0), (.int .i64 0), (.int .i64 0), (.int .i64 0)] [(0, 8, (.t 77))]⟩, ⟨some 79, none, .fieldAddr 19 (.t 1)⟩, ⟨some 80, none, .idxAddrA 2 1 (.t 79) (.c (.int .i64 0))⟩, ⟨some 81, none, .load1 (.t 80)⟩, ⟨some 82, none, .build [(.int .i64 0), (.int .i64 0)] [(0, 1, (.t 81))]⟩, ⟨some 83, none, .call 11 [(.t 78), (.t 82)]⟩, ⟨some 12, none, .mov (.t 83)⟩]) <|
  .seq (.ops [⟨some 84, none, .mov (.t 12)⟩, ⟨some 85, none, .un .not (.t 84)⟩, ⟨some 86, none, .mov (.t 85)⟩, ⟨some 87, some (86, false), .fieldAddr 18 (.t 1)⟩, ⟨some 88, some (86, false), .load1 (.t 87)⟩, ⟨some 89, some (86, false), .bin .num .lss (.t 88) (.c (.int .i64 0))⟩, ⟨some 90, none, .pick (.t 86) (.c (.bool true)) (.t 89)⟩, ⟨some 91, none, .mov (.t 90)⟩, ⟨some 92, some (91, false), .fieldAddr 18 (.t 1)⟩, ⟨some 93, some (91, false), .load1 (.t 92)⟩, ⟨some 94, some (91, false), .bin .num .gtr (.t 93) (.c (.int .i64 255))⟩, ⟨some 95, none, .pick (.t 91) (.c (.bool true)) (.t 94)⟩, ⟨some 96, none, .mov (.t 95)⟩, ⟨some 97, some (96, false), .fieldAddr 0 (.t 1)⟩, ⟨some 98, some (96, false), .idxAddrA 2 8 (.t 97) (.c (.int .i64 0))⟩, ⟨some 99, some (96, false), .loadN 8 (.t 98)⟩, ⟨some 100, some (96, false), .build [(.int .i64 0), (.int .i64 0), (.int .i64 0), (.int .i64 0), (.int .i64 0), (.int .i64 0), (.int .i64 0), (.int .i64 0), (.int .i64 0), (.int .i64 0), (.int .i64 0), (.int .i64 0), (.int .i64 0), (.int .i64 0), (.int .i64 0), (.int .i64 0)] [(0, 8, (.t 99))]⟩, ⟨some 101, some (96, false), .fieldAddr 18 (.t 1)⟩, ⟨some 102, some (96, false), .load1 (.t 101)⟩, ⟨some 103, some (96, false), .call 13 [(.t 102)]⟩, ⟨some 104, some (96, false), .fieldAddr 19 (.t 1)⟩, ⟨some 105, some (96, false), .idxAddrA 2 1 (.t 104) (.c (.int .i64 0))⟩, ⟨some 106, some (96, false), .load1 (.t 105)⟩, ⟨some 107, some (96, false), .build [(.int .i64 0), (.int .i64 0)] [(0, 1, (.t 106))]⟩, ⟨some 108, some (96, false), .call 12 [(.t 100), (.t 103), (.t 107)]⟩, ⟨some 109, some (96, false), .un .not (.t 108)⟩, ⟨some 110, none, .pick (.t 96) (.c (.bool true)) (.t 109)⟩]) <|
  .cond (.t 110) (.seq (.ops [⟨some 111, none, .mov (.t 8)⟩, ⟨some 112, none, .mov (.t 111)⟩, ⟨some 113, some (112, false), .loadN 8 (.t 7)⟩, ⟨some 114, some (112, false), .build [(.int .i64 0), (.int .i64 0), (.int .i64 0), (.int .i64 0), (.int .i64 0), (.int .i64 0), (.int .i64 0), (.int .i64 0)] []⟩, ⟨some 115, some (112, false), .bin (.agg [.i, .i, .i, .i, .i, .i, .i, .i]) .neq (.t 113) (.t 114)⟩, ⟨some 116, none, .pick (.t 112) (.c (.bool true)) (.t 115)⟩]) <|
   .cond (.t 116) (.seq (.ops [⟨some 2, none, .mov (.c (.bool false))⟩]) <|
    .ret) (.skip)) (.seq (.ops [⟨some 117, none, .mov (.t 8)⟩, ⟨some 118, none, .un .not (.t 117)⟩, ⟨some 119, none, .mov (.t 118)⟩, ⟨some 120, some (119, false), .loadN 8 (.t 7)⟩, ⟨some 121, some (119, false), .fieldAddr 0 (.t 1)⟩, ⟨some 122, some (119, false), .idxAddrA 2 8 (.t 121) (.c (.int .i64 0))⟩, ⟨some 123, some (119, false), .loadN 8 (.t 122)⟩, ⟨some 124, some (119, false), .fieldAddr 18 (.t 1)⟩, ⟨some 125, some (119, false), .load1 (.t 124)⟩, ⟨some 126, some (119, false), .call 13 [(.t 125)]⟩, ⟨some 127, some (119, false), .fieldAddr 19 (.t 1)⟩, ⟨some 128, some (119, false), .idxAddrA 2 1 (.t 127) (.c (.int .i64 0))⟩, ⟨some 129, some (119, false), .load1 (.t 128)⟩, ⟨some 130, some (119, false), .call 14 [(.t 123), (.t 126), (.t 129)]⟩, ⟨some 131, some (119, false), .bin (.agg [.i, .i, .i, .i, .i, .i, .i, .i]) .neq (.t 120) (.t 130)⟩, ⟨some 132, none, .pick (.t 119) (.c (.bool true)) (.t 131)⟩]) <|
   .cond (.t 132) (.seq (.ops [⟨some 2, none, .mov (.c (.bool false))⟩]) <|
    .ret) (.skip))) <|
  .seq (.seq (.ops [⟨some 133, none, .fieldAddr 0 (.t 1)⟩, ⟨some 134, none, .loadN 16 (.t 133)⟩, ⟨some 135, none, .fieldAddr 18 (.t 1)⟩, ⟨some 136, none, .load1 (.t 135)⟩, ⟨some 137, none, .fieldAddr 19 (.t 1)⟩, ⟨some 138, none, .loadN 2 (.t 137)⟩, ⟨some 139, none, .call 15 [(.t 134), (.t 136), (.t 138)]⟩, ⟨some 140, none, .mov (.t 11)⟩, ⟨some 141, none, .mov (.t 140)⟩, ⟨some 142, some (141, true), .fieldAddr 18 (.t 1)⟩, ⟨some 143, some (141, true), .load1 (.t 142)⟩, ⟨some 144, some (141, true), .bin .num .geq (.t 143) (.c (.int .i64 0))⟩, ⟨some 145, none, .pick (.t 141) (.t 144) (.c (.bool false))⟩, ⟨some 146, none, .mov (.t 145)⟩, ⟨some 147, some (146, true), .fieldAddr 18 (.t 1)⟩, ⟨some 148, some (146, true), .load1 (.t 147)⟩, ⟨some 149, some (146, true), .bin .num .leq (.t 148) (.c (.int .i64 255))⟩, ⟨some 150, none, .pick (.t 146) (.t 149) (.c (.bool false))⟩, ⟨some 151, none, .mov (.t 150)⟩, ⟨some 152, some (151, true), .fieldAddr 0 (.t 1)⟩, ⟨some 153, some (151, true), .loadN 16 (.t 152)⟩, ⟨some 154, some (151, true), .fieldAddr 18 (.t 1)⟩, ⟨some 155, some (151, true), .load1 (.t 154)⟩, ⟨some 156, some (151, true), .call 13 [(.t 155)]⟩, ⟨some 157, some (151, true), .fieldAddr 19 (.t 1)⟩, ⟨some 158, some (151, true), .loadN 2 (.t 157)⟩, ⟨some 159, some (151, true), .call 12 [(.t 153), (.t 156), (.t 158)]⟩, ⟨some 160, none, .pick (.t 151) (.t 159) (.c (.bool false))⟩, ⟨some 161, none, .bin .bool .neq (.t 139) (.t 160)⟩]) <|
  .cond (.t 161) (.seq (.ops [⟨some 2, none, .mov (.c (.bool false))⟩]) <|
   .ret) (.skip)) <|
  .seq (.seq (.ops [⟨some 162, none, .mov (.t 11)⟩, ⟨some 163, none, .un .not (.t 162)⟩, ⟨some 164, none, .mov (.t 163)⟩, ⟨some 165, some (164, false), .fieldAddr 16 (.t 1)⟩, ⟨some 166, some (164, false), .load1 (.t 165)⟩, ⟨some 167, some (164, false), .bin .num .lss (.t 166) (.c (.int .i64 0))⟩, ⟨some 168, none, .pick (.t 164) (.c (.bool true)) (.t 167)⟩, ⟨some 169, none, .mov (.t 168)⟩, ⟨some 170, some (169, false), .fieldAddr 16 (.t 1)⟩, ⟨some 171, some (169, false), .load1 (.t 170)⟩, ⟨some 172, some (169, false), .bin .num .gtr (.t 171) (.c (.int .i64 8))⟩, ⟨some 173, none, .pick (.t 169) (.c (.bool true)) (.t 172)⟩]) <|
  .cond (.t 173) (.seq (.ops [⟨some 174, none, .mov (.t 3)⟩, ⟨some 175, none, .mov (.t 5)⟩, ⟨some 176, none, .bin .num .add (.t 174) (.t 175)⟩, ⟨some 177, none, .mov (.t 10)⟩, ⟨some 178, none, .lenS (.t 177)⟩, ⟨some 179, none, .bin .num .add (.t 176) (.t 178)⟩, ⟨some 180, none, .bin .num .eql (.t 179) (.c (.int .i64 0))⟩, ⟨some 181, none, .mov (.t 180)⟩, ⟨some 182, some (181, true), .mov (.t 4)⟩, ⟨some 183, some (181, true), .un .not (.t 182)⟩, ⟨some 184, none, .pick (.t 181) (.t 183) (.c (.bool false))⟩, ⟨some 185, none, .mov (.t 184)⟩, ⟨some 186, some (185, true), .mov (.t 6)⟩, ⟨some 187, some (185, true), .un .not (.t 186)⟩, ⟨some 188, none, .pick (.t 185) (.t 187) (.c (.bool false))⟩, ⟨some 2, none, .mov (.t 188)⟩]) <|
   .ret) (.skip)) <|
  .seq (.ops [⟨some 189, none, .fieldAddr 0 (.t 1)⟩, ⟨some 190, none, .loadN 16 (.t 189)⟩, ⟨some 191, none, .fieldAddr 16 (.t 1)⟩, ⟨some 192, none, .load1 (.t 191)⟩, ⟨some 193, none, .fieldAddr 19 (.t 1)⟩, ⟨some 194, none, .loadN 2 (.t 193)⟩, ⟨some 195, none, .call 16 [(.t 190), (.t 192), (.t 194)]⟩, ⟨some 13, none, .mov (.t 195)⟩]) <|
  .seq (.seq (.ops [⟨some 196, none, .mov (.t 10)⟩, ⟨some 197, none, .lenS (.t 196)⟩, ⟨some 198, none, .mov (.t 9)⟩, ⟨some 199, none, .mov (.t 13)⟩, ⟨some 200, none, .lenS (.t 199)⟩, ⟨some 201, none, .minmax false [(.t 198), (.t 200)]⟩, ⟨some 202, none, .bin .num .neq (.t 197) (.t 201)⟩, ⟨some 203, none, .mov (.t 202)⟩, ⟨some 204, some (203, false), .mov (.t 4)⟩, ⟨some 205, some (203, false), .mov (.t 13)⟩, ⟨some 206, some (203, false), .lenS (.t 205)⟩, ⟨some 207, some (203, false), .bin .num .gtr (.t 206) (.c (.int .i64 0))⟩, ⟨some 208, some (203, false), .bin .bool .neq (.t 204) (.t 207)⟩, ⟨some 209, none, .pick (.t 203) (.c (.bool true)) (.t 208)⟩, ⟨some 210, none, .mov (.t 209)⟩, ⟨some 211, some (210, false), .mov (.t 4)⟩, ⟨some 212, some (210, false), .mov (.t 211)⟩, ⟨some 213, some (212, true), .mov (.t 3)⟩, ⟨some 214, some (212, true), .mov (.t 13)⟩, ⟨some 215, some (212, true), .idxAddrS 1 (.t 214) (.c (.int .i64 0))⟩, ⟨some 216, some (212, true), .load1 (.t 215)⟩, ⟨some 217, some (212, true), .bin .num .neq (.t 213) (.t 216)⟩, ⟨some 218, some (210, false), .pick (.t 212) (.t 217) (.c (.bool false))⟩, ⟨some 219, none, .pick (.t 210) (.c (.bool true)) (.t 218)⟩, ⟨some 220, none, .mov (.t 219)⟩, ⟨some 221, some (220, false), .mov (.t 4)⟩, ⟨some 222, some (220, false), .un .not (.t 221)⟩, ⟨some 223, some (220, false), .mov (.t 222)⟩, ⟨some 224, some (223, true), .mov (.t 3)⟩, ⟨some 225, some (223, true), .bin .num .neq (.t 224) (.c (.int .i64 0))⟩, ⟨some 226, some (220, false), .pick (.t 223) (.t 225) (.c (.bool false))⟩, ⟨some 227, none, .pick (.t 220) (.c (.bool true)) (.t 226)⟩]) <|
  .cond (.t 227) (.seq (.ops [⟨some 2, none, .mov (.c (.bool false))⟩]) <|
   .ret) (.skip)) <|
  .seq (.seq (.ops [⟨some 228, none, .mov (.t 10)⟩, ⟨some 229, none, .lenS (.t 228)⟩, ⟨some 230, none, .mov (.c (.int .i64 0))⟩]) <|
  .block 0 (.loop (.seq (.ops [⟨some 231, none, .bin .num .lss (.t 230) (.t 229)⟩]) <|
    .seq (.cond (.t 231) (.skip) (.exit 0)) <|
    .seq (.block 1 (.seq (.ops [⟨some 232, none, .mov (.t 230)⟩, ⟨some 14, none, .mov (.t 232)⟩]) <|
     .seq (.ops [⟨some 233, none, .mov (.t 10)⟩, ⟨some 234, none, .mov (.t 14)⟩, ⟨some 235, none, .idxAddrS 1 (.t 233) (.t 234)⟩, ⟨some 236, none, .load1 (.t 235)⟩, ⟨some 237, none, .mov (.t 13)⟩, ⟨some 238, none, .mov (.t 14)⟩, ⟨some 239, none, .idxAddrS 1 (.t 237) (.t 238)⟩, ⟨some 240, none, .load1 (.t 239)⟩, ⟨some 241, none, .bin .num .neq (.t 236) (.t 240)⟩]) <|
     .cond (.t 241) (.seq (.ops [⟨some 2, none, .mov (.c (.bool false))⟩]) <|
      .ret) (.skip))) <|
    .ops [⟨some 242, none, .bin .num .add (.t 230) (.c (.int .i64 1))⟩, ⟨some 230, none, .mov (.t 242)⟩]))) <|
  .seq (.ops [⟨some 15, none, .mov (.c (.int .i64 0))⟩, ⟨some 16, none, .mov (.c (.bool false))⟩]) <|
  .seq (.seq (.ops [⟨some 243, none, .mov (.t 13)⟩, ⟨some 244, none, .lenS (.t 243)⟩, ⟨some 245, none, .mov (.c (.int .i64 0))⟩]) <|
  .block 2 (.loop (.seq (.ops [⟨some 246, none, .bin .num .lss (.t 245) (.t 244)⟩]) <|
    .seq (.cond (.t 246) (.skip) (.exit 2)) <|
    .seq (.block 3 (.seq (.ops [⟨some 247, none, .idxAddrS 1 (.t 243) (.t 245)⟩, ⟨some 248, none, .load1 (.t 247)⟩, ⟨some 18, none, .mov (.t 248)⟩]) <|
     .seq (.ops [⟨some 249, none, .fieldAddr 17 (.t 1)⟩, ⟨some 250, none, .load1 (.t 249)⟩, ⟨some 251, none, .bin .num .geq (.t 250) (.c (.int .i64 0))⟩, ⟨some 252, none, .mov (.t 251)⟩, ⟨some 253, some (252, true), .fieldAddr 17 (.t 1)⟩, ⟨some 254, some (252, true), .load1 (.t 253)⟩, ⟨some 255, some (252, true), .bin .num .lss (.t 254) (.c (.int .i64 256))⟩, ⟨some 256, none, .pick (.t 252) (.t 255) (.c (.bool false))⟩, ⟨some 19, none, .mov (.t 256)⟩]) <|
     .seq (.seq (.ops [⟨some 257, none, .fieldAddr 17 (.t 1)⟩, ⟨some 258, none, .load1 (.t 257)⟩, ⟨some 259, none, .call 13 [(.t 258)]⟩, ⟨some 260, none, .mov (.c (.int .i64 0))⟩]) <|
     .block 4 (.loop (.seq (.ops [⟨some 261, none, .bin .num .lss (.t 260) (.c (.int .i64 8))⟩]) <|
       .seq (.cond (.t 261) (.skip) (.exit 4)) <|
       .seq (.block 5 (.seq (.ops [⟨some 262, none, .mov (.t 260)⟩, ⟨some 263, none, .idxA1 8 (.t 259) (.t 260)⟩, ⟨some 20, none, .mov (.t 262)⟩, ⟨some 21, none, .mov (.t 263)⟩]) <|
        .ops [⟨some 264, none, .mov (.t 19)⟩, ⟨some 265, none, .mov (.t 264)⟩, ⟨some 266, some (265, true), .mov (.t 21)⟩, ⟨some 267, some (265, true), .un .not (.t 266)⟩, ⟨some 268, some (265, true), .mov (.t 267)⟩, ⟨some 269, some (268, false), .mov (.t 18)⟩, ⟨some 270, some (268, false), .call 13 [(.t 269)]⟩, ⟨some 271, some (268, false), .mov (.t 20)⟩, ⟨some 272, some (268, false), .idxA1 8 (.t 270) (.t 271)⟩, ⟨some 273, some (265, true), .pick (.t 268) (.c (.bool true)) (.t 272)⟩, ⟨some 274, none, .pick (.t 265) (.t 273) (.c (.bool false))⟩, ⟨some 19, none, .mov (.t 274)⟩])) <|
       .ops [⟨some 275, none, .bin .num .add (.t 260) (.c (.int .i64 1))⟩, ⟨some 260, none, .mov (.t 275)⟩]))) <|
     .seq (.ops [⟨some 276, none, .mov (.t 19)⟩, ⟨some 277, none, .mov (.t 276)⟩, ⟨some 278, some (277, true), .mov (.t 16)⟩, ⟨some 279, some (277, true), .un .not (.t 278)⟩, ⟨some 280, none, .pick (.t 277) (.t 279) (.c (.bool false))⟩]) <|
     .cond (.t 280) (.ops [⟨some 281, none, .mov (.t 18)⟩, ⟨some 15, none, .mov (.t 281)⟩, ⟨some 16, none, .mov (.c (.bool true))⟩]) (.skip))) <|
    .ops [⟨some 282, none, .bin .num .add (.t 245) (.c (.int .i64 1))⟩, ⟨some 245, none, .mov (.t 282)⟩]))) <|
  .seq (.ops [⟨some 283, none, .mov (.t 6)⟩, ⟨some 284, none, .mov (.t 16)⟩, ⟨some 285, none, .bin .bool .eql (.t 283) (.t 284)⟩, ⟨some 286, none, .mov (.t 285)⟩, ⟨some 287, some (286, true), .mov (.t 5)⟩, ⟨some 288, some (286, true), .mov (.t 15)⟩, ⟨some 289, some (286, true), .bin .num .eql (.t 287) (.t 288)⟩, ⟨some 290, none, .pick (.t 286) (.t 289) (.c (.bool false))⟩, ⟨some 2, none, .mov (.t 290)⟩]) <|
  .ret
def v3 : VFunc := ⟨291, [.tmp 2], c3⟩
/-- berthing/berthinglaw09.HintLeast -/
def c4 : VCode :=
  .seq (.ops [⟨some 1, none, .box (.t 0)⟩, ⟨some 2, none, .mov (.c (.bool false))⟩]) <|
  .seq (.seq (.ops [⟨some 12, none, .call 6 []⟩, ⟨some 13, none, .un .not (.t 12)⟩]) <|
  .cond (.t 13) (.seq (.ops [⟨some 2, none, .mov (.c (.bool false))⟩]) <|
   .ret) (.skip)) <|
  .seq (.ops [⟨some 15, none, .fieldAddr 0 (.t 1)⟩, ⟨some 16, none, .loadN 16 (.t 15)⟩, ⟨some 17, none, .fieldAddr 16 (.t 1)⟩, ⟨some 18, none, .load1 (.t 17)⟩, ⟨some 19, none, .fieldAddr 19 (.t 1)⟩, ⟨some 20, none, .loadN 2 (.t 19)⟩, ⟨some 21, none, .call 7 [(.t 16), (.t 18), (.t 20)]⟩, ⟨some 14, none, .mov (.t 21)⟩, ⟨some 22, none, .extract 0 (.t 14)⟩, ⟨some 23, none, .extract 1 (.t 14)⟩, ⟨some 3, none, .mov (.t 22)⟩, ⟨some 4, none, .mov (.t 23)⟩]) <|
  .seq (.seq (.ops [⟨some 24, none, .mov (.t 4)⟩, ⟨some 25, none, .un .not (.t 24)⟩]) <|
  .cond (.t 25) (.seq (.ops [⟨some 26, none, .mov (.t 3)⟩, ⟨some 27, none, .bin .num .eql (.t 26) (.c (.int .i64 0))⟩, ⟨some 2, none, .mov (.t 27)⟩]) <|
   .ret) (.skip)) <|
  .seq (.seq (.ops [⟨some 28, none, .fieldAddr 0 (.t 1)⟩, ⟨some 29, none, .loadN 16 (.t 28)⟩, ⟨some 30, none, .mov (.t 3)⟩, ⟨some 31, none, .fieldAddr 19 (.t 1)⟩, ⟨some 32, none, .loadN 2 (.t 31)⟩, ⟨some 33, none, .call 15 [(.t 29), (.t 30), (.t 32)]⟩, ⟨some 34, none, .un .not (.t 33)⟩]) <|
  .cond (.t 34) (.seq (.ops [⟨some 2, none, .mov (.c (.bool false))⟩]) <|
   .ret) (.skip)) <|
  .seq (.seq (.ops [⟨some 35, none, .mov (.c (.int .i64 0))⟩]) <|
  .block 0 (.loop (.seq (.ops [⟨some 36, none, .bin .num .lss (.t 35) (.c (.int .i64 8))⟩]) <|
    .seq (.cond (.t 36) (.skip) (.exit 0)) <|
    .seq (.block 1 (.seq (.ops [⟨some 37, none, .mov (.t 35)⟩, ⟨some 5, none, .mov (.t 37)⟩]) <|
     .seq (.ops [⟨some 38, none, .mov (.t 3)⟩, ⟨some 39, none, .mov (.t 5)⟩, ⟨some 40, none, .bin .num .shr (.t 38) (.t 39)⟩, ⟨some 41, none, .bin .num .and (.t 40) (.c (.int .i64 1))⟩, ⟨some 42, none, .bin .num .eql (.t 41) (.c (.int .i64 1))⟩, ⟨some 43, none, .mov (.t 42)⟩, ⟨some 44, some (43, true), .fieldAddr 0 (.t 1)⟩, ⟨some 45, some (43, true), .loadN 16 (.t 44)⟩, ⟨some 46, some (43, true), .mov (.t 3)⟩, ⟨some 47, some (43, true), .mov (.t 5)⟩, ⟨some 48, some (43, true), .bin .num .shl (.c (.int .i64 1)) (.t 47)⟩, ⟨some 49, some (43, true), .bin .num .andNot (.t 46) (.t 48)⟩, ⟨some 50, some (43, true), .fieldAddr 19 (.t 1)⟩, ⟨some 51, some (43, true), .loadN 2 (.t 50)⟩, ⟨some 52, some (43, true), .call 15 [(.t 45), (.t 49), (.t 51)]⟩, ⟨some 53, none, .pick (.t 43) (.t 52) (.c (.bool false))⟩]) <|
     .cond (.t 53) (.seq (.ops [⟨some 2, none, .mov (.c (.bool false))⟩]) <|
      .ret) (.skip))) <|
    .ops [⟨some 54, none, .bin .num .add (.t 35) (.c (.int .i64 1))⟩, ⟨some 35, none, .mov (.t 54)⟩]))) <|
  .seq (.seq (.ops [⟨some 55, none, .mov (.c (.int .i64 0))⟩]) <|
  .block 2 (.loop (.seq (.ops [⟨some 56, none, .bin .num .lss (.t 55) (.c (.int .i64 2))⟩]) <|
    .seq (.cond (.t 56) (.skip) (.exit 2)) <|
    .seq (.block 3 (.seq (.ops [⟨some 57, none, .mov (.t 55)⟩, ⟨some 6, none, .mov (.t 57)⟩]) <|
     .seq (.draw [(7, [(.int .i64 0), (.int .i64 0), (.int .i64 0), (.int .i64 0), (.int .i64 0), (.int .i64 0), (.int .i64 0), (.int .i64 0)])] [⟨some 59, none, .mov (.t 6)⟩, ⟨some 60, none, .fieldAddr 0 (.t 1)⟩, ⟨some 61, none, .idxAddrA 2 8 (.t 60) (.t 59)⟩, ⟨some 62, none, .loadN 8 (.t 61)⟩, ⟨some 63, none, .mov (.t 3)⟩, ⟨some 64, none, .mov (.t 6)⟩, ⟨some 65, none, .fieldAddr 19 (.t 1)⟩, ⟨some 66, none, .idxAddrA 2 1 (.t 65) (.t 64)⟩, ⟨some 67, none, .load1 (.t 66)⟩, ⟨some 68, none, .call 9 [(.t 62), (.t 63), (.t 67)]⟩, ⟨some 58, none, .mov (.t 68)⟩, ⟨some 69, none, .extract 0 (.t 58)⟩, ⟨some 70, none, .extract 1 (.t 58)⟩, ⟨none, none, .idle⟩, ⟨none, none, .storeN 8 (.t 7) (.t 69)⟩, ⟨some 8, none, .mov (.t 70)⟩] []) <|
     .seq (.ops [⟨some 9, none, .mov (.c (.int .i64 0))⟩]) <|
     .seq (.seq (.ops [⟨some 71, none, .loadN 8 (.t 7)⟩, ⟨some 72, none, .mov (.c (.int .i64 0))⟩]) <|
     .block 4 (.loop (.seq (.ops [⟨some 73, none, .bin .num .lss (.t 72) (.c (.int .i64 8))⟩]) <|
       .seq (.cond (.t 73) (.skip) (.exit 4)) <|
       .seq (.block 5 (.seq (.ops [⟨some 74, none, .mov (.t 72)⟩, ⟨some 75, none, .idxA1 8 (.t 71) (.t 72)⟩, ⟨some 10, none, .mov (.t 74)⟩, ⟨some 11, none, .mov (.t 75)⟩]) <|
        .seq (.seq (.ops [⟨some 76, none, .mov (.t 11)⟩, ⟨some 77, none, .bin .num .lss (.t 76) (.c (.int .i64 0))⟩, ⟨some 78, none, .mov (.t 77)⟩, ⟨some 79, some (78, false), .mov (.t 11)⟩, ⟨some 80, some (78, false), .mov (.t 6)⟩, ⟨some 81, some (78, false), .mov (.t 10)⟩, ⟨some 82, some (78, false), .fieldAddr 0 (.t 1)⟩, ⟨some 83, some (78, false), .idxAddrA 2 8 (.t 82) (.t 80)⟩, ⟨some 84, some (78, false), .idxAddrA 8 1 (.t 83) (.t 81)⟩, ⟨some 85, some (78, false), .load1 (.t 84)⟩, ⟨some 86, some (78, false), .bin .num .gtr (.t 79) (.t 85)⟩, ⟨some 87, none, .pick (.t 78) (.c (.bool true)) (.t 86)⟩, ⟨some 88, none, .mov (.t 87)⟩, ⟨some 89, some (88, false), .mov (.t 11)⟩, ⟨some 90, some (88, false), .bin .num .gtr (.t 89) (.c (.int .i64 0))⟩, ⟨some 91, some (88, false), .mov (.t 90)⟩, ⟨some 92, some (91, true), .mov (.t 3)⟩, ⟨some 93, some (91, true), .mov (.t 10)⟩, ⟨some 94, some (91, true), .bin .num .shr (.t 92) (.t 93)⟩, ⟨some 95, some (91, true), .bin .num .and (.t 94) (.c (.int .i64 1))⟩, ⟨some 96, some (91, true), .bin .num .eql (.t 95) (.c (.int .i64 0))⟩, ⟨some 97, some (88, false), .pick (.t 91) (.t 96) (.c (.bool false))⟩, ⟨some 98, none, .pick (.t 88) (.c (.bool true)) (.t 97)⟩]) <|
        .cond (.t 98) (.seq (.ops [⟨some 2, none, .mov (.c (.bool false))⟩]) <|
         .ret) (.skip)) <|
        .ops [⟨some 99, none, .mov (.t 9)⟩, ⟨some 100, none, .mov (.t 11)⟩, ⟨some 101, none, .bin .num .add (.t 99) (.t 100)⟩, ⟨some 9, none, .mov (.t 101)⟩])) <|
       .ops [⟨some 102, none, .bin .num .add (.t 72) (.c (.int .i64 1))⟩, ⟨some 72, none, .mov (.t 102)⟩]))) <|
     .seq (.ops [⟨some 103, none, .mov (.t 8)⟩, ⟨some 104, none, .un .not (.t 103)⟩, ⟨some 105, none, .mov (.t 104)⟩, ⟨some 106, some (105, false), .mov (.t 9)⟩, ⟨some 107, some (105, false), .mov (.t 6)⟩, ⟨some 108, some (105, false), .fieldAddr 19 (.t 1)⟩, ⟨some 109, some (105, false), .idxAddrA 2 1 (.t 108) (.t 107)⟩, ⟨some 110, some (105, false), .load1 (.t 109)⟩, ⟨some 111, some (105, false), .bin .num .neq (.t 106) (.t 110)⟩, ⟨some 112, none, .pick (.t 105) (.c (.bool true)) (.t 111)⟩]) <|
     .cond (.t 112) (.seq (.ops [⟨some 2, none, .mov (.c (.bool false))⟩]) <|
      .ret) (.skip))) <|
    .ops [⟨some 113, none, .bin .num .add (.t 55) (.c (.int .i64 1))⟩, ⟨some 55, none, .mov (.t 113)⟩]))) <|
  .seq (.ops [⟨some 2, none, .mov (.c (.bool true))⟩]) <|
  .ret
def v4 : VFunc := ⟨114, [.tmp 2], c4⟩
/-- berthing/berthinglaw09.HintMore -/
def c5 : VCode :=
  .seq (.ops [⟨some 1, none, .box (.t 0)⟩, ⟨some 2, none, .mov (.c (.bool false))⟩]) <|
  .seq (.seq (.ops [⟨some 9, none, .call 6 []⟩, ⟨some 10, none, .un .not (.t 9)⟩]) <|
  .cond (.t 10) (.seq (.ops [⟨some 2, none, .mov (.c (.bool false))⟩]) <|
   .ret) (.skip)) <|
  .seq (.ops [⟨some 12, none, .fieldAddr 0 (.t 1)⟩, ⟨some 13, none, .loadN 16 (.t 12)⟩, ⟨some 14, none, .fieldAddr 16 (.t 1)⟩, ⟨some 15, none, .load1 (.t 14)⟩, ⟨some 16, none, .fieldAddr 19 (.t 1)⟩, ⟨some 17, none, .loadN 2 (.t 16)⟩, ⟨some 18, none, .call 7 [(.t 13), (.t 15), (.t 17)]⟩, ⟨some 11, none, .mov (.t 18)⟩, ⟨some 19, none, .extract 0 (.t 11)⟩, ⟨some 20, none, .extract 1 (.t 11)⟩, ⟨some 3, none, .mov (.t 19)⟩, ⟨some 4, none, .mov (.t 20)⟩]) <|
  .seq (.seq (.ops [⟨some 21, none, .mov (.t 4)⟩, ⟨some 22, none, .un .not (.t 21)⟩]) <|
  .cond (.t 22) (.seq (.ops [⟨some 23, none, .mov (.t 3)⟩, ⟨some 24, none, .bin .num .eql (.t 23) (.c (.int .i64 0))⟩, ⟨some 2, none, .mov (.t 24)⟩]) <|
   .ret) (.skip)) <|
  .seq (.seq (.ops [⟨some 25, none, .mov (.c (.int .i64 0))⟩]) <|
  .block 0 (.loop (.seq (.ops [⟨some 26, none, .bin .num .lss (.t 25) (.c (.int .i64 2))⟩]) <|
    .seq (.cond (.t 26) (.skip) (.exit 0)) <|
    .seq (.block 1 (.seq (.ops [⟨some 27, none, .mov (.t 25)⟩, ⟨some 5, none, .mov (.t 27)⟩]) <|
     .seq (.ops [⟨some 28, none, .mov (.c (.int .i64 0))⟩]) <|
     .block 2 (.loop (.seq (.ops [⟨some 29, none, .bin .num .lss (.t 28) (.c (.int .i64 8))⟩]) <|
       .seq (.cond (.t 29) (.skip) (.exit 2)) <|
       .seq (.block 3 (.seq (.ops [⟨some 30, none, .mov (.t 28)⟩, ⟨some 6, none, .mov (.t 30)⟩]) <|
        .seq (.ops [⟨some 31, none, .mov (.t 5)⟩, ⟨some 32, none, .mov (.t 6)⟩, ⟨some 33, none, .fieldAddr 0 (.t 1)⟩, ⟨some 34, none, .idxAddrA 2 8 (.t 33) (.t 31)⟩, ⟨some 35, none, .idxAddrA 8 1 (.t 34) (.t 32)⟩, ⟨some 36, none, .load1 (.t 35)⟩, ⟨some 37, none, .bin .num .lss (.t 36) (.c (.int .i64 1073741824))⟩]) <|
        .cond (.t 37) (.ops [⟨some 38, none, .mov (.t 5)⟩, ⟨some 39, none, .mov (.t 6)⟩, ⟨some 40, none, .fieldAddr 0 (.t 1)⟩, ⟨some 41, none, .idxAddrA 2 8 (.t 40) (.t 38)⟩, ⟨some 42, none, .idxAddrA 8 1 (.t 41) (.t 39)⟩, ⟨some 43, none, .load1 (.t 42)⟩, ⟨some 44, none, .bin .num .add (.t 43) (.c (.int .i64 1))⟩, ⟨some 45, none, .fieldAddr 0 (.t 1)⟩, ⟨some 46, none, .idxAddrA 2 8 (.t 45) (.t 38)⟩, ⟨some 47, none, .idxAddrA 8 1 (.t 46) (.t 39)⟩, ⟨none, none, .store1 (.t 47) (.t 44)⟩]) (.skip))) <|
       .ops [⟨some 48, none, .bin .num .add (.t 28) (.c (.int .i64 1))⟩, ⟨some 28, none, .mov (.t 48)⟩])))) <|
    .ops [⟨some 49, none, .bin .num .add (.t 25) (.c (.int .i64 1))⟩, ⟨some 25, none, .mov (.t 49)⟩]))) <|
  .seq (.ops [⟨some 51, none, .fieldAddr 0 (.t 1)⟩, ⟨some 52, none, .loadN 16 (.t 51)⟩, ⟨some 53, none, .fieldAddr 16 (.t 1)⟩, ⟨some 54, none, .load1 (.t 53)⟩, ⟨some 55, none, .fieldAddr 19 (.t 1)⟩, ⟨some 56, none, .loadN 2 (.t 55)⟩, ⟨some 57, none, .call 7 [(.t 52), (.t 54), (.t 56)]⟩, ⟨some 50, none, .mov (.t 57)⟩, ⟨some 58, none, .extract 0 (.t 50)⟩, ⟨some 59, none, .extract 1 (.t 50)⟩, ⟨some 7, none, .mov (.t 58)⟩, ⟨some 8, none, .mov (.t 59)⟩]) <|
  .seq (.ops [⟨some 60, none, .mov (.t 8)⟩, ⟨some 61, none, .mov (.t 60)⟩, ⟨some 62, some (61, true), .mov (.t 7)⟩, ⟨some 63, some (61, true), .call 13 [(.t 62)]⟩, ⟨some 64, some (61, true), .call 17 [(.t 63)]⟩, ⟨some 65, some (61, true), .lenS (.t 64)⟩, ⟨some 66, some (61, true), .mov (.t 3)⟩, ⟨some 67, some (61, true), .call 13 [(.t 66)]⟩, ⟨some 68, some (61, true), .call 17 [(.t 67)]⟩, ⟨some 69, some (61, true), .lenS (.t 68)⟩, ⟨some 70, some (61, true), .bin .num .leq (.t 65) (.t 69)⟩, ⟨some 71, none, .pick (.t 61) (.t 70) (.c (.bool false))⟩, ⟨some 2, none, .mov (.t 71)⟩]) <|
  .ret
def v5 : VFunc := ⟨72, [.tmp 2], c5⟩
/-- berthing/berthinglaw09.first -/
def c6 : VCode :=
  .seq (.ops [⟨some 0, none, .mov (.c (.bool false))⟩]) <|
  .seq (.ops [⟨some 12, none, .build [(.int .i64 0), (.int .i64 0), (.int .i64 0), (.int .i64 0), (.int .i64 0), (.int .i64 0), (.int .i64 0), (.int .i64 0)] [(0, 1, (.c (.int .i64 4))), (1, 1, (.c (.int .i64 2))), (2, 1, (.c (.int .i64 9)))]⟩, ⟨some 13, none, .build [(.int .i64 0), (.int .i64 0), (.int .i64 0), (.int .i64 0), (.int .i64 0), (.int .i64 0), (.int .i64 0), (.int .i64 0)] [(0, 1, (.c (.int .i64 1))), (1, 1, (.c (.int .i64 1))), (2, 1, (.c (.int .i64 0)))]⟩, ⟨some 14, none, .build [(.int .i64 0), (.int .i64 0), (.int .i64 0), (.int .i64 0), (.int .i64 0), (.int .i64 0), (.int .i64 0), (.int .i64 0), (.int .i64 0), (.int .i64 0), (.int .i64 0), (.int .i64 0), (.int .i64 0), (.int .i64 0), (.int .i64 0), (.int .i64 0)] [(0, 8, (.t 12)), (8, 8, (.t 13))]⟩, ⟨some 1, none, .alloc [(.int .i64 0), (.int .i64 0), (.int .i64 0), (.int .i64 0), (.int .i64 0), (.int .i64 0), (.int .i64 0), (.int .i64 0), (.int .i64 0), (.int .i64 0), (.int .i64 0), (.int .i64 0), (.int .i64 0), (.int .i64 0), (.int .i64 0), (.int .i64 0)]⟩, ⟨none, none, .storeN 16 (.t 1) (.t 14)⟩]) <|
  .seq (.ops [⟨some 16, none, .loadN 16 (.t 1)⟩, ⟨some 17, none, .build [(.int .i64 0), (.int .i64 0)] [(0, 1, (.c (.int .i64 6))), (1, 1, (.c (.int .i64 0)))]⟩, ⟨some 18, none, .call 7 [(.t 16), (.c (.int .i64 3)), (.t 17)]⟩, ⟨some 15, none, .mov (.t 18)⟩, ⟨some 19, none, .extract 0 (.t 15)⟩, ⟨some 20, none, .extract 1 (.t 15)⟩, ⟨some 2, none, .mov (.t 19)⟩, ⟨some 3, none, .mov (.t 20)⟩]) <|
  .seq (.ops [⟨some 22, none, .loadN 16 (.t 1)⟩, ⟨some 23, none, .build [(.int .i64 0), (.int .i64 0)] [(0, 1, (.c (.int .i64 6))), (1, 1, (.c (.int .i64 2)))]⟩, ⟨some 24, none, .call 7 [(.t 22), (.c (.int .i64 3)), (.t 23)]⟩, ⟨some 21, none, .mov (.t 24)⟩, ⟨some 25, none, .extract 0 (.t 21)⟩, ⟨some 26, none, .extract 1 (.t 21)⟩, ⟨some 4, none, .mov (.t 25)⟩, ⟨some 5, none, .mov (.t 26)⟩]) <|
  .seq (.ops [⟨some 28, none, .loadN 16 (.t 1)⟩, ⟨some 29, none, .build [(.int .i64 0), (.int .i64 0)] [(0, 1, (.c (.int .i64 6))), (1, 1, (.c (.int .i64 0)))]⟩, ⟨some 30, none, .call 8 [(.t 28), (.c (.int .i64 3)), (.c (.int .i64 1)), (.t 29)]⟩, ⟨some 27, none, .mov (.t 30)⟩, ⟨some 31, none, .extract 0 (.t 27)⟩, ⟨some 32, none, .extract 1 (.t 27)⟩, ⟨some 6, none, .mov (.t 31)⟩, ⟨some 7, none, .mov (.t 32)⟩]) <|
  .seq (.ops [⟨some 34, none, .idxAddrA 2 8 (.t 1) (.c (.int .i64 0))⟩, ⟨some 35, none, .loadN 8 (.t 34)⟩, ⟨some 36, none, .call 9 [(.t 35), (.c (.int .i64 5)), (.c (.int .i64 6))]⟩, ⟨some 33, none, .mov (.t 36)⟩, ⟨some 37, none, .extract 0 (.t 33)⟩, ⟨some 38, none, .extract 1 (.t 33)⟩, ⟨some 8, none, .alloc [(.int .i64 0), (.int .i64 0), (.int .i64 0), (.int .i64 0), (.int .i64 0), (.int .i64 0), (.int .i64 0), (.int .i64 0)]⟩, ⟨none, none, .storeN 8 (.t 8) (.t 37)⟩, ⟨some 9, none, .mov (.t 38)⟩]) <|
  .seq (.ops [⟨some 40, none, .loadN 16 (.t 1)⟩, ⟨some 41, none, .build [(.int .i64 0), (.int .i64 0)] [(0, 1, (.c (.int .i64 16))), (1, 1, (.c (.int .i64 0)))]⟩, ⟨some 42, none, .call 7 [(.t 40), (.c (.int .i64 3)), (.t 41)]⟩, ⟨some 39, none, .mov (.t 42)⟩, ⟨some 43, none, .extract 0 (.t 39)⟩, ⟨some 44, none, .extract 1 (.t 39)⟩, ⟨some 10, none, .mov (.t 43)⟩, ⟨some 11, none, .mov (.t 44)⟩]) <|
  .seq (.ops [⟨some 45, none, .mov (.t 2)⟩, ⟨some 46, none, .bin .num .eql (.t 45) (.c (.int .i64 4))⟩, ⟨some 47, none, .mov (.t 46)⟩, ⟨some 48, some (47, true), .mov (.t 3)⟩, ⟨some 49, none, .pick (.t 47) (.t 48) (.c (.bool false))⟩, ⟨some 50, none, .mov (.t 49)⟩, ⟨some 51, some (50, true), .mov (.t 4)⟩, ⟨some 52, some (50, true), .bin .num .eql (.t 51) (.c (.int .i64 3))⟩, ⟨some 53, none, .pick (.t 50) (.t 52) (.c (.bool false))⟩, ⟨some 54, none, .mov (.t 53)⟩, ⟨some 55, some (54, true), .mov (.t 5)⟩, ⟨some 56, none, .pick (.t 54) (.t 55) (.c (.bool false))⟩, ⟨some 57, none, .mov (.t 56)⟩, ⟨some 58, some (57, true), .mov (.t 6)⟩, ⟨some 59, some (57, true), .bin .num .eql (.t 58) (.c (.int .i64 3))⟩, ⟨some 60, none, .pick (.t 57) (.t 59) (.c (.bool false))⟩, ⟨some 61, none, .mov (.t 60)⟩, ⟨some 62, some (61, true), .mov (.t 7)⟩, ⟨some 63, none, .pick (.t 61) (.t 62) (.c (.bool false))⟩, ⟨some 64, none, .mov (.t 63)⟩, ⟨some 65, some (64, true), .mov (.t 9)⟩, ⟨some 66, none, .pick (.t 64) (.t 65) (.c (.bool false))⟩, ⟨some 67, none, .mov (.t 66)⟩, ⟨some 68, some (67, true), .loadN 8 (.t 8)⟩, ⟨some 69, some (67, true), .build [(.int .i64 0), (.int .i64 0), (.int .i64 0), (.int .i64 0), (.int .i64 0), (.int .i64 0), (.int .i64 0), (.int .i64 0)] [(0, 1, (.c (.int .i64 4))), (1, 1, (.c (.int .i64 0))), (2, 1, (.c (.int .i64 2)))]⟩, ⟨some 70, some (67, true), .bin (.agg [.i, .i, .i, .i, .i, .i, .i, .i]) .eql (.t 68) (.t 69)⟩, ⟨some 71, none, .pick (.t 67) (.t 70) (.c (.bool false))⟩, ⟨some 72, none, .mov (.t 71)⟩, ⟨some 73, some (72, true), .mov (.t 11)⟩, ⟨some 74, some (72, true), .un .not (.t 73)⟩, ⟨some 75, none, .pick (.t 72) (.t 74) (.c (.bool false))⟩, ⟨some 76, none, .mov (.t 75)⟩, ⟨some 77, some (76, true), .loadN 16 (.t 1)⟩, ⟨some 78, some (76, true), .build [(.int .i64 0), (.int .i64 0)] [(0, 1, (.c (.int .i64 6))), (1, 1, (.c (.int .i64 0)))]⟩, ⟨some 79, some (76, true), .call 10 [(.t 77), (.c (.int .i64 3)), (.t 78), (.c (.int .i64 99))]⟩, ⟨some 80, some (76, true), .lenS (.t 79)⟩, ⟨some 81, some (76, true), .bin .num .eql (.t 80) (.c (.int .i64 5))⟩, ⟨some 82, none, .pick (.t 76) (.t 81) (.c (.bool false))⟩, ⟨some 83, none, .mov (.t 82)⟩, ⟨some 84, some (83, true), .loadN 16 (.t 1)⟩, ⟨some 85, some (83, true), .build [(.int .i64 0), (.int .i64 0)] [(0, 1, (.c (.int .i64 15))), (1, 1, (.c (.int .i64 2)))]⟩, ⟨some 86, some (83, true), .call 15 [(.t 84), (.c (.int .i64 7)), (.t 85)]⟩, ⟨some 87, none, .pick (.t 83) (.t 86) (.c (.bool false))⟩, ⟨some 0, none, .mov (.t 87)⟩]) <|
  .ret
def v6 : VFunc := ⟨88, [.tmp 0], c6⟩
/-- berthing/hint.Hint -/
def c7 : VCode :=
  .seq (.ops [⟨some 3, none, .box (.t 0)⟩, ⟨some 5, none, .box (.t 2)⟩, ⟨some 6, none, .mov (.c (.int .i64 0))⟩, ⟨some 7, none, .mov (.c (.bool false))⟩]) <|
  .seq (.ops [⟨some 8, none, .loadN 16 (.t 3)⟩, ⟨some 9, none, .mov (.t 1)⟩, ⟨some 10, none, .loadN 2 (.t 5)⟩, ⟨some 11, none, .call 8 [(.t 8), (.t 9), (.c (.int .i64 0)), (.t 10)]⟩, ⟨some 12, none, .extract 0 (.t 11)⟩, ⟨some 13, none, .extract 1 (.t 11)⟩, ⟨some 6, none, .mov (.t 12)⟩, ⟨some 7, none, .mov (.t 13)⟩]) <|
  .ret
def v7 : VFunc := ⟨14, [.tmp 6, .tmp 7], c7⟩
/-- berthing/hint.With -/
def c8 : VCode :=
  .seq (.ops [⟨some 4, none, .box (.t 0)⟩, ⟨some 6, none, .box (.t 2)⟩, ⟨some 7, none, .box (.t 3)⟩, ⟨some 8, none, .alloc [(.int .i64 0)]⟩, ⟨some 9, none, .alloc [(.bool false)]⟩]) <|
  .seq (.seq (.ops [⟨some 11, none, .mov (.t 1)⟩, ⟨some 12, none, .bin .num .lss (.t 11) (.c (.int .i64 0))⟩, ⟨some 13, none, .mov (.t 12)⟩, ⟨some 14, some (13, false), .mov (.t 1)⟩, ⟨some 15, some (13, false), .bin .num .gtr (.t 14) (.c (.int .i64 8))⟩, ⟨some 16, none, .pick (.t 13) (.c (.bool true)) (.t 15)⟩, ⟨some 17, none, .mov (.t 16)⟩, ⟨some 18, some (17, false), .load1 (.t 6)⟩, ⟨some 19, some (17, false), .bin .num .lss (.t 18) (.c (.int .i64 0))⟩, ⟨some 20, none, .pick (.t 17) (.c (.bool true)) (.t 19)⟩, ⟨some 21, none, .mov (.t 20)⟩, ⟨some 22, some (21, false), .load1 (.t 6)⟩, ⟨some 23, some (21, false), .mov (.t 1)⟩, ⟨some 24, some (21, false), .bin .num .shl (.c (.int .i64 1)) (.t 23)⟩, ⟨some 25, some (21, false), .bin .num .geq (.t 22) (.t 24)⟩, ⟨some 26, none, .pick (.t 21) (.c (.bool true)) (.t 25)⟩]) <|
  .cond (.t 26) (.seq (.ops [⟨none, none, .store1 (.t 8) (.c (.int .i64 0))⟩, ⟨none, none, .store1 (.t 9) (.c (.bool false))⟩]) <|
   .ret) (.skip)) <|
  .seq (.seq (.ops [⟨some 27, none, .loadN 16 (.t 4)⟩, ⟨some 28, none, .mov (.t 1)⟩, ⟨some 29, none, .loadN 2 (.t 7)⟩, ⟨some 30, none, .call 18 [(.t 27), (.t 28), (.t 29)]⟩]) <|
  .block 0 (.rangeFunc (.t 30) [31] (.ops [⟨some 10, none, .mov (.t 31)⟩]) (.block 1 (.seq (.ops [⟨some 32, none, .load1 (.t 6)⟩, ⟨some 33, none, .mov (.t 10)⟩, ⟨some 34, none, .call 19 [(.t 32), (.t 33)]⟩]) <|
     .cond (.t 34) (.seq (.ops [⟨some 35, none, .mov (.t 10)⟩, ⟨none, none, .store1 (.t 8) (.t 35)⟩, ⟨none, none, .store1 (.t 9) (.c (.bool true))⟩]) <|
      .ret) (.skip))))) <|
  .seq (.ops [⟨none, none, .store1 (.t 8) (.c (.int .i64 0))⟩, ⟨none, none, .store1 (.t 9) (.c (.bool false))⟩]) <|
  .ret
def v8 : VFunc := ⟨36, [.cell1 8, .cell1 9], c8⟩
/-- berthing/hint.Over -/
def c9 : VCode :=
  .seq (.ops [⟨some 3, none, .box (.t 0)⟩, ⟨some 5, none, .box (.t 2)⟩, ⟨some 6, none, .alloc [(.int .i64 0), (.int .i64 0), (.int .i64 0), (.int .i64 0), (.int .i64 0), (.int .i64 0), (.int .i64 0), (.int .i64 0)]⟩, ⟨some 7, none, .mov (.c (.bool false))⟩]) <|
  .seq (.seq (.ops [⟨some 10, none, .loadN 8 (.t 3)⟩, ⟨some 11, none, .build [(.int .i64 0), (.int .i64 0), (.int .i64 0), (.int .i64 0), (.int .i64 0), (.int .i64 0), (.int .i64 0), (.int .i64 0), (.int .i64 0), (.int .i64 0), (.int .i64 0), (.int .i64 0), (.int .i64 0), (.int .i64 0), (.int .i64 0), (.int .i64 0)] [(0, 8, (.t 10))]⟩, ⟨some 12, none, .mov (.t 1)⟩, ⟨some 13, none, .load1 (.t 5)⟩, ⟨some 14, none, .build [(.int .i64 0), (.int .i64 0)] [(0, 1, (.t 13))]⟩, ⟨some 15, none, .call 15 [(.t 11), (.t 12), (.t 14)]⟩, ⟨some 16, none, .un .not (.t 15)⟩]) <|
  .cond (.t 16) (.seq (.ops [⟨some 17, none, .build [(.int .i64 0), (.int .i64 0), (.int .i64 0), (.int .i64 0), (.int .i64 0), (.int .i64 0), (.int .i64 0), (.int .i64 0)] []⟩, ⟨none, none, .storeN 8 (.t 6) (.t 17)⟩, ⟨some 7, none, .mov (.c (.bool false))⟩]) <|
   .ret) (.skip)) <|
  .seq (.ops [⟨some 8, none, .alloc [(.int .i64 0), (.int .i64 0), (.int .i64 0), (.int .i64 0), (.int .i64 0), (.int .i64 0), (.int .i64 0), (.int .i64 0)]⟩]) <|
  .seq (.seq (.ops [⟨some 18, none, .mov (.t 1)⟩, ⟨some 19, none, .call 20 [(.t 18)]⟩]) <|
  .block 0 (.rangeFunc (.t 19) [20] (.ops [⟨some 9, none, .mov (.t 20)⟩]) (.block 1 (.seq (.ops [⟨some 21, none, .mov (.t 9)⟩, ⟨some 22, none, .load1 (.t 5)⟩, ⟨some 23, none, .mov (.t 9)⟩, ⟨some 24, none, .idxAddrA 8 1 (.t 3) (.t 23)⟩, ⟨some 25, none, .load1 (.t 24)⟩, ⟨some 26, none, .minmax false [(.t 22), (.t 25)]⟩, ⟨some 27, none, .idxAddrA 8 1 (.t 8) (.t 21)⟩, ⟨none, none, .store1 (.t 27) (.t 26)⟩]) <|
     .ops [⟨some 28, none, .load1 (.t 5)⟩, ⟨some 29, none, .mov (.t 9)⟩, ⟨some 30, none, .idxAddrA 8 1 (.t 8) (.t 29)⟩, ⟨some 31, none, .load1 (.t 30)⟩, ⟨some 32, none, .bin .num .sub (.t 28) (.t 31)⟩, ⟨none, none, .store1 (.t 5) (.t 32)⟩])))) <|
  .seq (.ops [⟨some 33, none, .loadN 8 (.t 8)⟩, ⟨none, none, .storeN 8 (.t 6) (.t 33)⟩, ⟨some 7, none, .mov (.c (.bool true))⟩]) <|
  .ret
def v9 : VFunc := ⟨34, [.cellN 8 6, .tmp 7], c9⟩
/-- berthing/berthinglaw09.hints -/
def c10 : VCode :=
  .seq (.ops [⟨some 4, none, .box (.t 0)⟩, ⟨some 6, none, .box (.t 2)⟩, ⟨some 7, none, .box (.t 3)⟩, ⟨some 8, none, .mov (.c (.sl .nil 0 []))⟩]) <|
  .seq (.ops [⟨some 9, none, .alloc [(.sl .nil 0 [])]⟩]) <|
  .seq (.ops [⟨some 12, none, .loadN 16 (.t 4)⟩, ⟨some 13, none, .mov (.t 1)⟩, ⟨some 14, none, .loadN 2 (.t 6)⟩, ⟨some 15, none, .call 18 [(.t 12), (.t 13), (.t 14)]⟩, ⟨some 10, none, .mov (.t 15)⟩]) <|
  .seq (.seq (.ops [⟨some 16, none, .mov (.t 10)⟩, ⟨some 17, none, .bin .fn .eql (.t 16) (.c .nilf)⟩]) <|
  .cond (.t 17) (.seq (.ops [⟨some 8, none, .mov (.c (.sl .nil 0 []))⟩]) <|
   .ret) (.skip)) <|
  .seq (.seq (.ops [⟨some 18, none, .mov (.t 10)⟩]) <|
  .block 0 (.rangeFunc (.t 18) [19] (.ops [⟨some 11, none, .mov (.t 19)⟩]) (.block 1 (.seq (.seq (.ops [⟨some 20, none, .load1 (.t 9)⟩, ⟨some 21, none, .lenS (.t 20)⟩, ⟨some 22, none, .load1 (.t 7)⟩, ⟨some 23, none, .bin .num .geq (.t 21) (.t 22)⟩]) <|
     .cond (.t 23) (.exit 0) (.skip)) <|
     .ops [⟨some 24, none, .load1 (.t 9)⟩, ⟨some 25, none, .mov (.t 11)⟩, ⟨some 26, none, .buildSlice false 1 1 [(.int .i64 0)] [(0, 1, (.t 25))]⟩, ⟨some 27, none, .append false false 1 8 (.t 24) (.t 26)⟩, ⟨none, none, .store1 (.t 9) (.t 27)⟩])))) <|
  .seq (.ops [⟨some 28, none, .load1 (.t 9)⟩, ⟨some 8, none, .mov (.t 28)⟩]) <|
  .ret
def v10 : VFunc := ⟨29, [.tmp 8], c10⟩
/-- berthing/berthingref09.Fits -/
def c11 : VCode :=
  .seq (.ops [⟨some 2, none, .box (.t 0)⟩, ⟨some 3, none, .box (.t 1)⟩, ⟨some 4, none, .mov (.c (.bool false))⟩]) <|
  .seq (.seq (.ops [⟨some 5, none, .mov (.c (.int .i64 0))⟩]) <|
  .block 0 (.loop (.seq (.seq (.ops [⟨some 7, none, .mov (.t 5)⟩, ⟨some 8, none, .bin .num .lss (.t 7) (.c (.int .i64 2))⟩]) <|
    .cond (.t 8) (.skip) (.exit 0)) <|
    .seq (.block 1 (.seq (.seq (.ops [⟨some 6, none, .mov (.c (.int .i64 0))⟩]) <|
     .block 2 (.loop (.seq (.seq (.ops [⟨some 11, none, .mov (.t 6)⟩, ⟨some 12, none, .bin .num .lss (.t 11) (.c (.int .i64 8))⟩]) <|
       .cond (.t 12) (.skip) (.exit 2)) <|
       .seq (.block 3 (.seq (.ops [⟨some 15, none, .mov (.t 5)⟩, ⟨some 16, none, .mov (.t 6)⟩, ⟨some 17, none, .idxAddrA 2 8 (.t 2) (.t 15)⟩, ⟨some 18, none, .idxAddrA 8 1 (.t 17) (.t 16)⟩, ⟨some 19, none, .load1 (.t 18)⟩, ⟨some 20, none, .bin .num .lss (.t 19) (.c (.int .i64 0))⟩, ⟨some 21, none, .mov (.t 20)⟩, ⟨some 22, some (21, false), .mov (.t 5)⟩, ⟨some 23, some (21, false), .mov (.t 6)⟩, ⟨some 24, some (21, false), .idxAddrA 2 8 (.t 2) (.t 22)⟩, ⟨some 25, some (21, false), .idxAddrA 8 1 (.t 24) (.t 23)⟩, ⟨some 26, some (21, false), .load1 (.t 25)⟩, ⟨some 27, some (21, false), .bin .num .gtr (.t 26) (.c (.int .i64 1073741824))⟩, ⟨some 28, none, .pick (.t 21) (.c (.bool true)) (.t 27)⟩]) <|
        .cond (.t 28) (.seq (.ops [⟨some 4, none, .mov (.c (.bool false))⟩]) <|
         .ret) (.skip))) <|
       .ops [⟨some 13, none, .mov (.t 6)⟩, ⟨some 14, none, .bin .num .add (.t 13) (.c (.int .i64 1))⟩, ⟨some 6, none, .mov (.t 14)⟩]))) <|
     .seq (.ops [⟨some 29, none, .mov (.t 5)⟩, ⟨some 30, none, .idxAddrA 2 1 (.t 3) (.t 29)⟩, ⟨some 31, none, .load1 (.t 30)⟩, ⟨some 32, none, .bin .num .lss (.t 31) (.c (.int .i64 0))⟩, ⟨some 33, none, .mov (.t 32)⟩, ⟨some 34, some (33, false), .mov (.t 5)⟩, ⟨some 35, some (33, false), .idxAddrA 2 1 (.t 3) (.t 34)⟩, ⟨some 36, some (33, false), .load1 (.t 35)⟩, ⟨some 37, some (33, false), .bin .num .gtr (.t 36) (.c (.int .i64 1073741824))⟩, ⟨some 38, none, .pick (.t 33) (.c (.bool true)) (.t 37)⟩]) <|
     .cond (.t 38) (.seq (.ops [⟨some 4, none, .mov (.c (.bool false))⟩]) <|
      .ret) (.skip))) <|
    .ops [⟨some 9, none, .mov (.t 5)⟩, ⟨some 10, none, .bin .num .add (.t 9) (.c (.int .i64 1))⟩, ⟨some 5, none, .mov (.t 10)⟩]))) <|
  .seq (.ops [⟨some 4, none, .mov (.c (.bool true))⟩]) <|
  .ret
def v11 : VFunc := ⟨39, [.tmp 4], c11⟩
/-- berthing/berthingref09.Enough -/
def c12 : VCode :=
  .seq (.ops [⟨some 3, none, .box (.t 0)⟩, ⟨some 4, none, .box (.t 1)⟩, ⟨some 5, none, .box (.t 2)⟩, ⟨some 6, none, .mov (.c (.bool false))⟩]) <|
  .seq (.seq (.ops [⟨some 7, none, .mov (.c (.int .i64 0))⟩]) <|
  .block 0 (.loop (.seq (.seq (.ops [⟨some 10, none, .mov (.t 7)⟩, ⟨some 11, none, .bin .num .lss (.t 10) (.c (.int .i64 2))⟩]) <|
    .cond (.t 11) (.skip) (.exit 0)) <|
    .seq (.block 1 (.seq (.ops [⟨some 14, none, .mov (.t 7)⟩, ⟨some 15, none, .idxAddrA 2 1 (.t 5) (.t 14)⟩, ⟨some 16, none, .load1 (.t 15)⟩, ⟨some 8, none, .mov (.t 16)⟩]) <|
     .seq (.seq (.ops [⟨some 9, none, .mov (.c (.int .i64 0))⟩]) <|
     .block 2 (.loop (.seq (.seq (.ops [⟨some 17, none, .mov (.t 9)⟩, ⟨some 18, none, .bin .num .lss (.t 17) (.c (.int .i64 8))⟩]) <|
       .cond (.t 18) (.skip) (.exit 2)) <|
       .seq (.block 3 (.seq (.ops [⟨some 21, none, .mov (.t 9)⟩, ⟨some 22, none, .idxAddrA 8 1 (.t 4) (.t 21)⟩, ⟨some 23, none, .load1 (.t 22)⟩]) <|
        .cond (.t 23) (.ops [⟨some 24, none, .mov (.t 8)⟩, ⟨some 25, none, .mov (.t 7)⟩, ⟨some 26, none, .mov (.t 9)⟩, ⟨some 27, none, .idxAddrA 2 8 (.t 3) (.t 25)⟩, ⟨some 28, none, .idxAddrA 8 1 (.t 27) (.t 26)⟩, ⟨some 29, none, .load1 (.t 28)⟩, ⟨some 30, none, .bin .num .sub (.t 24) (.t 29)⟩, ⟨some 8, none, .mov (.t 30)⟩]) (.skip))) <|
       .ops [⟨some 19, none, .mov (.t 9)⟩, ⟨some 20, none, .bin .num .add (.t 19) (.c (.int .i64 1))⟩, ⟨some 9, none, .mov (.t 20)⟩]))) <|
     .seq (.ops [⟨some 31, none, .mov (.t 8)⟩, ⟨some 32, none, .bin .num .gtr (.t 31) (.c (.int .i64 0))⟩]) <|
     .cond (.t 32) (.seq (.ops [⟨some 6, none, .mov (.c (.bool false))⟩]) <|
      .ret) (.skip))) <|
    .ops [⟨some 12, none, .mov (.t 7)⟩, ⟨some 13, none, .bin .num .add (.t 12) (.c (.int .i64 1))⟩, ⟨some 7, none, .mov (.t 13)⟩]))) <|
  .seq (.ops [⟨some 6, none, .mov (.c (.bool true))⟩]) <|
  .ret
def v12 : VFunc := ⟨33, [.tmp 6], c12⟩
/-- berthing/berthingref07.Of -/
def c13 : VCode :=
  .seq (.ops [⟨some 2, none, .alloc [(.bool false), (.bool false), (.bool false), (.bool false), (.bool false), (.bool false), (.bool false), (.bool false)]⟩]) <|
  .seq (.ops [⟨some 3, none, .alloc [(.bool false), (.bool false), (.bool false), (.bool false), (.bool false), (.bool false), (.bool false), (.bool false)]⟩]) <|
  .seq (.ops [⟨some 5, none, .mov (.t 0)⟩, ⟨some 6, none, .bin .num .rem (.t 5) (.c (.int .i64 256))⟩, ⟨some 0, none, .mov (.t 6)⟩]) <|
  .seq (.seq (.ops [⟨some 7, none, .mov (.t 0)⟩, ⟨some 8, none, .bin .num .lss (.t 7) (.c (.int .i64 0))⟩]) <|
  .cond (.t 8) (.ops [⟨some 9, none, .mov (.t 0)⟩, ⟨some 10, none, .bin .num .add (.t 9) (.c (.int .i64 256))⟩, ⟨some 0, none, .mov (.t 10)⟩]) (.skip)) <|
  .seq (.seq (.ops [⟨some 4, none, .mov (.c (.int .i64 0))⟩]) <|
  .block 0 (.loop (.seq (.seq (.ops [⟨some 11, none, .mov (.t 4)⟩, ⟨some 12, none, .bin .num .lss (.t 11) (.c (.int .i64 8))⟩]) <|
    .cond (.t 12) (.skip) (.exit 0)) <|
    .seq (.block 1 (.seq (.ops [⟨some 15, none, .mov (.t 4)⟩, ⟨some 16, none, .mov (.t 0)⟩, ⟨some 17, none, .bin .num .rem (.t 16) (.c (.int .i64 2))⟩, ⟨some 18, none, .bin .num .eql (.t 17) (.c (.int .i64 1))⟩, ⟨some 19, none, .idxAddrA 8 1 (.t 3) (.t 15)⟩, ⟨none, none, .store1 (.t 19) (.t 18)⟩]) <|
     .ops [⟨some 20, none, .mov (.t 0)⟩, ⟨some 21, none, .bin .num .quo (.t 20) (.c (.int .i64 2))⟩, ⟨some 0, none, .mov (.t 21)⟩])) <|
    .ops [⟨some 13, none, .mov (.t 4)⟩, ⟨some 14, none, .bin .num .add (.t 13) (.c (.int .i64 1))⟩, ⟨some 4, none, .mov (.t 14)⟩]))) <|
  .seq (.ops [⟨some 22, none, .loadN 8 (.t 3)⟩, ⟨none, none, .storeN 8 (.t 2) (.t 22)⟩]) <|
  .ret
def v13 : VFunc := ⟨23, [.cellN 8 2], c13⟩
/-- berthing/berthingref09.Over -/
def c14 : VCode :=
  .seq (.ops [⟨some 3, none, .box (.t 0)⟩, ⟨some 4, none, .box (.t 1)⟩, ⟨some 6, none, .alloc [(.int .i64 0), (.int .i64 0), (.int .i64 0), (.int .i64 0), (.int .i64 0), (.int .i64 0), (.int .i64 0), (.int .i64 0)]⟩]) <|
  .seq (.ops [⟨some 7, none, .alloc [(.int .i64 0), (.int .i64 0), (.int .i64 0), (.int .i64 0), (.int .i64 0), (.int .i64 0), (.int .i64 0), (.int .i64 0)]⟩]) <|
  .seq (.seq (.ops [⟨some 8, none, .mov (.c (.int .i64 0))⟩]) <|
  .block 0 (.loop (.seq (.seq (.ops [⟨some 9, none, .mov (.t 8)⟩, ⟨some 10, none, .bin .num .lss (.t 9) (.c (.int .i64 8))⟩]) <|
    .cond (.t 10) (.skip) (.exit 0)) <|
    .seq (.block 1 (.seq (.ops [⟨some 13, none, .mov (.t 8)⟩, ⟨some 14, none, .idxAddrA 8 1 (.t 4) (.t 13)⟩, ⟨some 15, none, .load1 (.t 14)⟩, ⟨some 16, none, .mov (.t 15)⟩, ⟨some 17, some (16, true), .mov (.t 2)⟩, ⟨some 18, some (16, true), .bin .num .gtr (.t 17) (.c (.int .i64 0))⟩, ⟨some 19, none, .pick (.t 16) (.t 18) (.c (.bool false))⟩]) <|
     .cond (.t 19) (.seq (.ops [⟨some 20, none, .mov (.t 8)⟩, ⟨some 21, none, .mov (.t 8)⟩, ⟨some 22, none, .idxAddrA 8 1 (.t 3) (.t 21)⟩, ⟨some 23, none, .load1 (.t 22)⟩, ⟨some 24, none, .idxAddrA 8 1 (.t 7) (.t 20)⟩, ⟨none, none, .store1 (.t 24) (.t 23)⟩]) <|
      .seq (.seq (.ops [⟨some 25, none, .mov (.t 2)⟩, ⟨some 26, none, .mov (.t 8)⟩, ⟨some 27, none, .idxAddrA 8 1 (.t 3) (.t 26)⟩, ⟨some 28, none, .load1 (.t 27)⟩, ⟨some 29, none, .bin .num .lss (.t 25) (.t 28)⟩]) <|
      .cond (.t 29) (.ops [⟨some 30, none, .mov (.t 8)⟩, ⟨some 31, none, .mov (.t 2)⟩, ⟨some 32, none, .idxAddrA 8 1 (.t 7) (.t 30)⟩, ⟨none, none, .store1 (.t 32) (.t 31)⟩]) (.skip)) <|
      .ops [⟨some 33, none, .mov (.t 2)⟩, ⟨some 34, none, .mov (.t 8)⟩, ⟨some 35, none, .idxAddrA 8 1 (.t 7) (.t 34)⟩, ⟨some 36, none, .load1 (.t 35)⟩, ⟨some 37, none, .bin .num .sub (.t 33) (.t 36)⟩, ⟨some 2, none, .mov (.t 37)⟩]) (.skip))) <|
    .ops [⟨some 11, none, .mov (.t 8)⟩, ⟨some 12, none, .bin .num .add (.t 11) (.c (.int .i64 1))⟩, ⟨some 8, none, .mov (.t 12)⟩]))) <|
  .seq (.ops [⟨some 38, none, .loadN 8 (.t 7)⟩, ⟨none, none, .storeN 8 (.t 6) (.t 38)⟩]) <|
  .ret
def v14 : VFunc := ⟨39, [.cellN 8 6], c14⟩
/-- berthing/hint.Enough -/
def c15 : VCode :=
  .seq (.ops [⟨some 3, none, .box (.t 0)⟩, ⟨some 5, none, .box (.t 2)⟩, ⟨some 6, none, .mov (.c (.bool false))⟩]) <|
  .seq (.ops [⟨some 7, none, .loadN 16 (.t 3)⟩, ⟨some 8, none, .loadN 2 (.t 5)⟩, ⟨some 9, none, .call 21 [(.t 7), (.t 8)]⟩, ⟨some 10, none, .mov (.t 9)⟩, ⟨some 11, some (10, true), .mov (.t 1)⟩, ⟨some 12, some (10, true), .bin .num .geq (.t 11) (.c (.int .i64 0))⟩, ⟨some 13, none, .pick (.t 10) (.t 12) (.c (.bool false))⟩, ⟨some 14, none, .mov (.t 13)⟩, ⟨some 15, some (14, true), .mov (.t 1)⟩, ⟨some 16, some (14, true), .bin .num .leq (.t 15) (.c (.int .i64 255))⟩, ⟨some 17, none, .pick (.t 14) (.t 16) (.c (.bool false))⟩, ⟨some 18, none, .mov (.t 17)⟩, ⟨some 19, some (18, true), .loadN 16 (.t 3)⟩, ⟨some 20, some (18, true), .mov (.t 1)⟩, ⟨some 21, some (18, true), .loadN 2 (.t 5)⟩, ⟨some 22, some (18, true), .call 22 [(.t 19), (.t 20), (.t 21)]⟩, ⟨some 23, none, .pick (.t 18) (.t 22) (.c (.bool false))⟩, ⟨some 6, none, .mov (.t 23)⟩]) <|
  .ret
def v15 : VFunc := ⟨24, [.tmp 6], c15⟩
/-- berthing/berthingref09.Hints -/
def c16 : VCode :=
  .seq (.ops [⟨some 3, none, .box (.t 0)⟩, ⟨some 5, none, .box (.t 2)⟩, ⟨some 6, none, .mov (.c (.sl .nil 0 []))⟩]) <|
  .seq (.ops [⟨some 7, none, .mov (.c (.sl .nil 0 []))⟩]) <|
  .seq (.seq (.ops [⟨some 10, none, .buildSlice false 1 1 [(.int .i64 0)] [(0, 1, (.c (.int .i64 0)))]⟩, ⟨some 11, none, .mov (.t 1)⟩, ⟨some 12, none, .call 23 [(.t 11)]⟩, ⟨some 13, none, .append false false 1 8 (.t 10) (.t 12)⟩, ⟨some 14, none, .lenS (.t 13)⟩, ⟨some 15, none, .mov (.c (.int .i64 0))⟩]) <|
  .block 0 (.loop (.seq (.ops [⟨some 16, none, .bin .num .lss (.t 15) (.t 14)⟩]) <|
    .seq (.cond (.t 16) (.skip) (.exit 0)) <|
    .seq (.block 1 (.seq (.ops [⟨some 17, none, .idxAddrS 1 (.t 13) (.t 15)⟩, ⟨some 18, none, .load1 (.t 17)⟩, ⟨some 9, none, .mov (.t 18)⟩]) <|
     .seq (.ops [⟨some 19, none, .loadN 16 (.t 3)⟩, ⟨some 20, none, .mov (.t 9)⟩, ⟨some 21, none, .call 13 [(.t 20)]⟩, ⟨some 22, none, .loadN 2 (.t 5)⟩, ⟨some 23, none, .call 12 [(.t 19), (.t 21), (.t 22)]⟩]) <|
     .cond (.t 23) (.ops [⟨some 24, none, .mov (.t 7)⟩, ⟨some 25, none, .mov (.t 9)⟩, ⟨some 26, none, .buildSlice false 1 1 [(.int .i64 0)] [(0, 1, (.t 25))]⟩, ⟨some 27, none, .append false false 1 8 (.t 24) (.t 26)⟩, ⟨some 7, none, .mov (.t 27)⟩]) (.skip))) <|
    .ops [⟨some 28, none, .bin .num .add (.t 15) (.c (.int .i64 1))⟩, ⟨some 15, none, .mov (.t 28)⟩]))) <|
  .seq (.ops [⟨some 29, none, .mov (.t 7)⟩, ⟨some 6, none, .mov (.t 29)⟩]) <|
  .ret
def v16 : VFunc := ⟨30, [.tmp 6], c16⟩
/-- (berthing/berthingref07.Set).Nodes -/
def c17 : VCode :=
  .seq (.ops [⟨some 1, none, .box (.t 0)⟩, ⟨some 2, none, .mov (.c (.sl .nil 0 []))⟩]) <|
  .seq (.ops [⟨some 3, none, .mov (.c (.sl .nil 0 []))⟩]) <|
  .seq (.seq (.ops [⟨some 4, none, .mov (.c (.int .i64 0))⟩]) <|
  .block 0 (.loop (.seq (.seq (.ops [⟨some 5, none, .mov (.t 4)⟩, ⟨some 6, none, .bin .num .lss (.t 5) (.c (.int .i64 8))⟩]) <|
    .cond (.t 6) (.skip) (.exit 0)) <|
    .seq (.block 1 (.seq (.ops [⟨some 9, none, .mov (.t 4)⟩, ⟨some 10, none, .idxAddrA 8 1 (.t 1) (.t 9)⟩, ⟨some 11, none, .load1 (.t 10)⟩]) <|
     .cond (.t 11) (.ops [⟨some 12, none, .mov (.t 3)⟩, ⟨some 13, none, .mov (.t 4)⟩, ⟨some 14, none, .buildSlice false 1 1 [(.int .i64 0)] [(0, 1, (.t 13))]⟩, ⟨some 15, none, .append false false 1 8 (.t 12) (.t 14)⟩, ⟨some 3, none, .mov (.t 15)⟩]) (.skip))) <|
    .ops [⟨some 7, none, .mov (.t 4)⟩, ⟨some 8, none, .bin .num .add (.t 7) (.c (.int .i64 1))⟩, ⟨some 4, none, .mov (.t 8)⟩]))) <|
  .seq (.ops [⟨some 16, none, .mov (.t 3)⟩, ⟨some 2, none, .mov (.t 16)⟩]) <|
  .ret
def v17 : VFunc := ⟨17, [.tmp 2], c17⟩
/-- berthing/hint.Hints -/
def c18 : VCode :=
  .seq (.ops [⟨some 3, none, .box (.t 0)⟩, ⟨some 4, none, .box (.t 1)⟩, ⟨some 5, none, .box (.t 2)⟩, ⟨some 6, none, .mov (.c .nilf)⟩]) <|
  .seq (.ops [⟨some 8, none, .loadN 16 (.t 3)⟩, ⟨some 9, none, .loadN 2 (.t 5)⟩, ⟨some 10, none, .call 21 [(.t 8), (.t 9)]⟩, ⟨some 11, none, .mov (.t 10)⟩, ⟨some 12, some (11, true), .load1 (.t 4)⟩, ⟨some 13, some (11, true), .bin .num .geq (.t 12) (.c (.int .i64 0))⟩, ⟨some 14, none, .pick (.t 11) (.t 13) (.c (.bool false))⟩, ⟨some 15, none, .mov (.t 14)⟩, ⟨some 16, some (15, true), .load1 (.t 4)⟩, ⟨some 17, some (15, true), .bin .num .leq (.t 16) (.c (.int .i64 8))⟩, ⟨some 18, none, .pick (.t 15) (.t 17) (.c (.bool false))⟩, ⟨some 7, none, .alloc [(.bool false)]⟩, ⟨none, none, .store1 (.t 7) (.t 18)⟩]) <|
  .seq (.ops [⟨some 19, none, .mkFn 24 [] [(.t 7), (.t 3), (.t 5), (.t 4)]⟩, ⟨some 6, none, .mov (.t 19)⟩]) <|
  .ret
def v18 : VFunc := ⟨20, [.tmp 6], c18⟩
/-- berthing/mask.Under -/
def c19 : VCode :=
  .seq (.ops [⟨some 4, none, .mov (.c (.bool false))⟩]) <|
  .seq (.ops [⟨some 5, none, .mov (.t 0)⟩, ⟨some 6, none, .conv .u8 (.t 5)⟩, ⟨some 7, none, .mov (.t 1)⟩, ⟨some 8, none, .conv .u8 (.t 7)⟩, ⟨some 9, none, .bin .num .andNot (.t 6) (.t 8)⟩, ⟨some 10, none, .bin .num .eql (.t 9) (.c (.int .u8 0))⟩, ⟨some 4, none, .mov (.t 10)⟩]) <|
  .ret
def v19 : VFunc := ⟨11, [.tmp 4], c19⟩
/-- berthing/mask.Nodes -/
def c20 : VCode :=
  .seq (.ops [⟨some 1, none, .box (.t 0)⟩, ⟨some 2, none, .mov (.c .nilf)⟩]) <|
  .seq (.ops [⟨some 3, none, .mkFn 26 [] [(.t 1)]⟩, ⟨some 2, none, .mov (.t 3)⟩]) <|
  .ret
def v20 : VFunc := ⟨4, [.tmp 2], c20⟩
/-- berthing/hint.right -/
def c21 : VCode :=
  .seq (.ops [⟨some 2, none, .box (.t 0)⟩, ⟨some 3, none, .box (.t 1)⟩, ⟨some 4, none, .mov (.c (.bool false))⟩]) <|
  .seq (.seq (.ops [⟨some 9, none, .loadN 16 (.t 2)⟩, ⟨some 10, none, .mov (.c (.int .i64 0))⟩]) <|
  .block 0 (.loop (.seq (.ops [⟨some 11, none, .bin .num .lss (.t 10) (.c (.int .i64 2))⟩]) <|
    .seq (.cond (.t 11) (.skip) (.exit 0)) <|
    .seq (.block 1 (.seq (.ops [⟨some 12, none, .mov (.t 10)⟩, ⟨some 13, none, .idxAN 2 8 (.t 9) (.t 10)⟩, ⟨some 6, none, .alloc [(.int .i64 0), (.int .i64 0), (.int .i64 0), (.int .i64 0), (.int .i64 0), (.int .i64 0), (.int .i64 0), (.int .i64 0)]⟩, ⟨some 5, none, .mov (.t 12)⟩, ⟨none, none, .storeN 8 (.t 6) (.t 13)⟩]) <|
     .seq (.seq (.ops [⟨some 14, none, .loadN 8 (.t 6)⟩, ⟨some 15, none, .mov (.c (.int .i64 0))⟩]) <|
     .block 2 (.loop (.seq (.ops [⟨some 16, none, .bin .num .lss (.t 15) (.c (.int .i64 8))⟩]) <|
       .seq (.cond (.t 16) (.skip) (.exit 2)) <|
       .seq (.block 3 (.seq (.ops [⟨some 17, none, .idxA1 8 (.t 14) (.t 15)⟩, ⟨some 8, none, .mov (.t 17)⟩]) <|
        .seq (.ops [⟨some 18, none, .mov (.t 8)⟩, ⟨some 19, none, .call 28 [(.t 18)]⟩, ⟨some 20, none, .un .not (.t 19)⟩]) <|
        .cond (.t 20) (.seq (.ops [⟨some 4, none, .mov (.c (.bool false))⟩]) <|
         .ret) (.skip))) <|
       .ops [⟨some 21, none, .bin .num .add (.t 15) (.c (.int .i64 1))⟩, ⟨some 15, none, .mov (.t 21)⟩]))) <|
     .seq (.ops [⟨some 22, none, .mov (.t 5)⟩, ⟨some 23, none, .idxAddrA 2 1 (.t 3) (.t 22)⟩, ⟨some 24, none, .load1 (.t 23)⟩, ⟨some 25, none, .call 28 [(.t 24)]⟩, ⟨some 26, none, .un .not (.t 25)⟩]) <|
     .cond (.t 26) (.seq (.ops [⟨some 4, none, .mov (.c (.bool false))⟩]) <|
      .ret) (.skip))) <|
    .ops [⟨some 27, none, .bin .num .add (.t 10) (.c (.int .i64 1))⟩, ⟨some 10, none, .mov (.t 27)⟩]))) <|
  .seq (.ops [⟨some 4, none, .mov (.c (.bool true))⟩]) <|
  .ret
def v21 : VFunc := ⟨28, [.tmp 4], c21⟩
/-- berthing/hint.enough -/
def c22 : VCode :=
  .seq (.ops [⟨some 3, none, .box (.t 0)⟩, ⟨some 5, none, .box (.t 2)⟩, ⟨some 6, none, .mov (.c (.bool false))⟩]) <|
  .seq (.seq (.ops [⟨some 11, none, .loadN 16 (.t 3)⟩, ⟨some 12, none, .mov (.c (.int .i64 0))⟩]) <|
  .block 0 (.loop (.seq (.ops [⟨some 13, none, .bin .num .lss (.t 12) (.c (.int .i64 2))⟩]) <|
    .seq (.cond (.t 13) (.skip) (.exit 0)) <|
    .seq (.block 1 (.seq (.ops [⟨some 14, none, .mov (.t 12)⟩, ⟨some 15, none, .idxAN 2 8 (.t 11) (.t 12)⟩, ⟨some 8, none, .alloc [(.int .i64 0), (.int .i64 0), (.int .i64 0), (.int .i64 0), (.int .i64 0), (.int .i64 0), (.int .i64 0), (.int .i64 0)]⟩, ⟨some 7, none, .mov (.t 14)⟩, ⟨none, none, .storeN 8 (.t 8) (.t 15)⟩]) <|
     .seq (.ops [⟨some 9, none, .alloc [(.int .i64 0)]⟩, ⟨none, none, .store1 (.t 9) (.c (.int .i64 0))⟩]) <|
     .seq (.seq (.ops [⟨some 16, none, .mov (.t 1)⟩, ⟨some 17, none, .call 20 [(.t 16)]⟩]) <|
     .block 2 (.rangeFunc (.t 17) [18] (.ops [⟨some 10, none, .mov (.t 18)⟩]) (.block 3 (.ops [⟨some 19, none, .load1 (.t 9)⟩, ⟨some 20, none, .mov (.t 10)⟩, ⟨some 21, none, .idxAddrA 8 1 (.t 8) (.t 20)⟩, ⟨some 22, none, .load1 (.t 21)⟩, ⟨some 23, none, .bin .num .add (.t 19) (.t 22)⟩, ⟨none, none, .store1 (.t 9) (.t 23)⟩])))) <|
     .seq (.ops [⟨some 24, none, .load1 (.t 9)⟩, ⟨some 25, none, .mov (.t 7)⟩, ⟨some 26, none, .idxAddrA 2 1 (.t 5) (.t 25)⟩, ⟨some 27, none, .load1 (.t 26)⟩, ⟨some 28, none, .bin .num .lss (.t 24) (.t 27)⟩]) <|
     .cond (.t 28) (.seq (.ops [⟨some 6, none, .mov (.c (.bool false))⟩]) <|
      .ret) (.skip))) <|
    .ops [⟨some 29, none, .bin .num .add (.t 12) (.c (.int .i64 1))⟩, ⟨some 12, none, .mov (.t 29)⟩]))) <|
  .seq (.ops [⟨some 6, none, .mov (.c (.bool true))⟩]) <|
  .ret
def v22 : VFunc := ⟨30, [.tmp 6], c22⟩
/-- berthing/berthingref07.Masks -/
def c23 : VCode :=
  .seq (.ops [⟨some 2, none, .mov (.c (.sl .nil 0 []))⟩]) <|
  .seq (.ops [⟨some 3, none, .mov (.c (.int .i64 1))⟩]) <|
  .seq (.seq (.ops [⟨some 4, none, .mov (.c (.int .i64 0))⟩]) <|
  .block 0 (.loop (.seq (.seq (.ops [⟨some 9, none, .mov (.t 4)⟩, ⟨some 10, none, .mov (.t 0)⟩, ⟨some 11, none, .bin .num .lss (.t 9) (.t 10)⟩]) <|
    .cond (.t 11) (.skip) (.exit 0)) <|
    .seq (.block 1 (.ops [⟨some 14, none, .mov (.t 3)⟩, ⟨some 15, none, .bin .num .mul (.t 14) (.c (.int .i64 2))⟩, ⟨some 3, none, .mov (.t 15)⟩])) <|
    .ops [⟨some 12, none, .mov (.t 4)⟩, ⟨some 13, none, .bin .num .add (.t 12) (.c (.int .i64 1))⟩, ⟨some 4, none, .mov (.t 13)⟩]))) <|
  .seq (.ops [⟨some 5, none, .mov (.c (.sl .nil 0 []))⟩]) <|
  .seq (.seq (.ops [⟨some 6, none, .mov (.c (.int .i64 1))⟩]) <|
  .block 2 (.loop (.seq (.seq (.ops [⟨some 16, none, .mov (.t 6)⟩, ⟨some 17, none, .mov (.t 3)⟩, ⟨some 18, none, .bin .num .lss (.t 16) (.t 17)⟩]) <|
    .cond (.t 18) (.skip) (.exit 2)) <|
    .seq (.block 3 (.seq (.ops [⟨some 21, none, .mov (.t 5)⟩, ⟨some 22, none, .lenS (.t 21)⟩, ⟨some 7, none, .mov (.t 22)⟩]) <|
     .seq (.block 4 (.loop (.seq (.seq (.ops [⟨some 23, none, .mov (.t 7)⟩, ⟨some 24, none, .bin .num .gtr (.t 23) (.c (.int .i64 0))⟩, ⟨some 25, none, .mov (.t 24)⟩, ⟨some 26, some (25, true), .mov (.t 6)⟩, ⟨some 27, some (25, true), .mov (.t 5)⟩, ⟨some 28, some (25, true), .mov (.t 7)⟩, ⟨some 29, some (25, true), .bin .num .sub (.t 28) (.c (.int .i64 1))⟩, ⟨some 30, some (25, true), .idxAddrS 1 (.t 27) (.t 29)⟩, ⟨some 31, some (25, true), .load1 (.t 30)⟩, ⟨some 32, some (25, true), .call 29 [(.t 26), (.t 31)]⟩, ⟨some 33, none, .pick (.t 25) (.t 32) (.c (.bool false))⟩]) <|
       .cond (.t 33) (.skip) (.exit 4)) <|
       .block 5 (.ops [⟨some 34, none, .mov (.t 7)⟩, ⟨some 35, none, .bin .num .sub (.t 34) (.c (.int .i64 1))⟩, ⟨some 7, none, .mov (.t 35)⟩])))) <|
     .seq (.ops [⟨some 36, none, .mov (.t 6)⟩, ⟨some 37, none, .buildSlice false 1 1 [(.int .i64 0)] [(0, 1, (.t 36))]⟩, ⟨some 38, none, .mov (.t 5)⟩, ⟨some 39, none, .mov (.t 7)⟩, ⟨some 40, none, .sliceS 1 (.t 38) (some (.t 39)) none none⟩, ⟨some 41, none, .append false false 1 8 (.t 37) (.t 40)⟩, ⟨some 8, none, .mov (.t 41)⟩]) <|
     .ops [⟨some 42, none, .buildSlice false 1 0 [] []⟩, ⟨some 43, none, .mov (.t 5)⟩, ⟨some 44, none, .mov (.t 7)⟩, ⟨some 45, none, .sliceS 1 (.t 43) none (some (.t 44)) none⟩, ⟨some 46, none, .append false false 1 8 (.t 42) (.t 45)⟩, ⟨some 47, none, .mov (.t 8)⟩, ⟨some 48, none, .append false false 1 8 (.t 46) (.t 47)⟩, ⟨some 5, none, .mov (.t 48)⟩])) <|
    .ops [⟨some 19, none, .mov (.t 6)⟩, ⟨some 20, none, .bin .num .add (.t 19) (.c (.int .i64 1))⟩, ⟨some 6, none, .mov (.t 20)⟩]))) <|
  .seq (.ops [⟨some 49, none, .mov (.t 5)⟩, ⟨some 2, none, .mov (.t 49)⟩]) <|
  .ret
def v23 : VFunc := ⟨50, [.tmp 2], c23⟩
/-- berthing/hint.Hints$1 -/
def c24 : VCode :=
  .seq (.ops [⟨some 5, none, .box (.t 0)⟩]) <|
  .seq (.seq (.ops [⟨some 7, none, .load1 (.t 1)⟩, ⟨some 8, none, .un .not (.t 7)⟩, ⟨some 9, none, .mov (.t 8)⟩, ⟨some 10, some (9, false), .loadN 16 (.t 2)⟩, ⟨some 11, some (9, false), .loadN 2 (.t 3)⟩, ⟨some 12, some (9, false), .call 22 [(.t 10), (.c (.int .i64 0)), (.t 11)]⟩, ⟨some 13, some (9, false), .mov (.t 12)⟩, ⟨some 14, some (13, true), .load1 (.t 5)⟩, ⟨some 15, some (13, true), .callV (.t 14) [(.c (.int .i64 0))]⟩, ⟨some 16, some (13, true), .un .not (.t 15)⟩, ⟨some 17, some (9, false), .pick (.t 13) (.t 16) (.c (.bool false))⟩, ⟨some 18, none, .pick (.t 9) (.c (.bool true)) (.t 17)⟩]) <|
  .cond (.t 18) (.ret) (.skip)) <|
  .seq (.skip) <|
  .seq (.ops [⟨some 19, none, .load1 (.t 4)⟩, ⟨some 20, none, .call 25 [(.t 19)]⟩]) <|
  .block 0 (.rangeFunc (.t 20) [21] (.ops [⟨some 6, none, .mov (.t 21)⟩]) (.block 1 (.seq (.seq (.ops [⟨some 22, none, .loadN 16 (.t 2)⟩, ⟨some 23, none, .mov (.t 6)⟩, ⟨some 24, none, .loadN 2 (.t 3)⟩, ⟨some 25, none, .call 22 [(.t 22), (.t 23), (.t 24)]⟩, ⟨some 26, none, .un .not (.t 25)⟩]) <|
     .cond (.t 26) (.exit 1) (.skip)) <|
     .seq (.ops [⟨some 27, none, .load1 (.t 5)⟩, ⟨some 28, none, .mov (.t 6)⟩, ⟨some 29, none, .callV (.t 27) [(.t 28)]⟩, ⟨some 30, none, .un .not (.t 29)⟩]) <|
     .cond (.t 30) (.ret) (.skip))))
def v24 : VFunc := ⟨31, [], c24⟩
/-- berthing/mask.Masks -/
def c25 : VCode :=
  .seq (.ops [⟨some 2, none, .mov (.c .nilf)⟩]) <|
  .seq (.ops [⟨some 4, none, .mov (.t 0)⟩, ⟨some 5, none, .minmax true [(.t 4), (.c (.int .i64 0))]⟩, ⟨some 6, none, .minmax false [(.t 5), (.c (.int .i64 8))]⟩, ⟨some 3, none, .alloc [(.int .i64 0)]⟩, ⟨none, none, .store1 (.t 3) (.t 6)⟩]) <|
  .seq (.ops [⟨some 7, none, .mkFn 30 [] [(.t 3)]⟩, ⟨some 2, none, .mov (.t 7)⟩]) <|
  .ret
def v25 : VFunc := ⟨8, [.tmp 2], c25⟩
/-- berthing/mask.Nodes$1 -/
def c26 : VCode :=
  .seq (.ops [⟨some 6, none, .load1 (.t 1)⟩, ⟨some 7, none, .conv .u8 (.t 6)⟩, ⟨some 3, none, .mov (.t 7)⟩]) <|
  .block 0 (.loop (.seq (.seq (.ops [⟨some 8, none, .mov (.t 3)⟩, ⟨some 9, none, .bin .num .neq (.t 8) (.c (.int .u8 0))⟩]) <|
    .cond (.t 9) (.skip) (.exit 0)) <|
    .seq (.block 1 (.seq (.ops [⟨some 15, none, .mov (.t 3)⟩, ⟨some 16, none, .conv .i64 (.t 15)⟩, ⟨some 17, none, .call 27 [(.t 16)]⟩, ⟨some 14, none, .mov (.t 17)⟩, ⟨some 18, none, .extract 0 (.t 14)⟩, ⟨some 19, none, .extract 1 (.t 14)⟩, ⟨some 4, none, .mov (.t 18)⟩, ⟨some 5, none, .mov (.t 19)⟩]) <|
     .seq (.ops [⟨some 20, none, .mov (.t 0)⟩, ⟨some 21, none, .mov (.t 4)⟩, ⟨some 22, none, .callV (.t 20) [(.t 21)]⟩, ⟨some 23, none, .un .not (.t 22)⟩]) <|
     .cond (.t 23) (.ret) (.skip))) <|
    .ops [⟨some 10, none, .mov (.t 3)⟩, ⟨some 11, none, .mov (.t 3)⟩, ⟨some 12, none, .bin .num .sub (.t 11) (.c (.int .u8 1))⟩, ⟨some 13, none, .bin .num .and (.t 10) (.t 12)⟩, ⟨some 3, none, .mov (.t 13)⟩]))
def v26 : VFunc := ⟨24, [], c26⟩
/-- berthing/mask.Least -/
def c27 : VCode :=
  .seq (.ops [⟨some 2, none, .mov (.c (.int .i64 0))⟩, ⟨some 3, none, .mov (.c (.bool false))⟩]) <|
  .seq (.ops [⟨some 6, none, .mov (.t 0)⟩, ⟨some 7, none, .conv .u8 (.t 6)⟩, ⟨some 4, none, .mov (.t 7)⟩]) <|
  .seq (.seq (.ops [⟨some 8, none, .mov (.t 4)⟩, ⟨some 9, none, .bin .num .eql (.t 8) (.c (.int .u8 0))⟩]) <|
  .cond (.t 9) (.seq (.ops [⟨some 2, none, .mov (.c (.int .i64 0))⟩, ⟨some 3, none, .mov (.c (.bool false))⟩]) <|
   .ret) (.skip)) <|
  .seq (.ops [⟨some 5, none, .mov (.c (.int .i64 0))⟩]) <|
  .seq (.block 0 (.loop (.seq (.seq (.ops [⟨some 10, none, .mov (.t 4)⟩, ⟨some 11, none, .bin .num .and (.t 10) (.c (.int .u8 1))⟩, ⟨some 12, none, .bin .num .eql (.t 11) (.c (.int .u8 0))⟩]) <|
    .cond (.t 12) (.skip) (.exit 0)) <|
    .block 1 (.seq (.ops [⟨some 13, none, .mov (.t 4)⟩, ⟨some 14, none, .bin .num .shr (.t 13) (.c (.int .u64 1))⟩, ⟨some 4, none, .mov (.t 14)⟩]) <|
     .ops [⟨some 15, none, .mov (.t 5)⟩, ⟨some 16, none, .bin .num .add (.t 15) (.c (.int .i64 1))⟩, ⟨some 5, none, .mov (.t 16)⟩])))) <|
  .seq (.ops [⟨some 17, none, .mov (.t 5)⟩, ⟨some 2, none, .mov (.t 17)⟩, ⟨some 3, none, .mov (.c (.bool true))⟩]) <|
  .ret
def v27 : VFunc := ⟨18, [.tmp 2, .tmp 3], c27⟩
/-- berthing/hint.count -/
def c28 : VCode :=
  .seq (.ops [⟨some 2, none, .mov (.c (.bool false))⟩]) <|
  .seq (.ops [⟨some 3, none, .mov (.t 0)⟩, ⟨some 4, none, .bin .num .geq (.t 3) (.c (.int .i64 0))⟩, ⟨some 5, none, .mov (.t 4)⟩, ⟨some 6, some (5, true), .mov (.t 0)⟩, ⟨some 7, some (5, true), .bin .num .leq (.t 6) (.c (.int .i64 1073741824))⟩, ⟨some 8, none, .pick (.t 5) (.t 7) (.c (.bool false))⟩, ⟨some 2, none, .mov (.t 8)⟩]) <|
  .ret
def v28 : VFunc := ⟨9, [.tmp 2], c28⟩
/-- berthing/berthingref07.Ahead -/
def c29 : VCode :=
  .seq (.ops [⟨some 4, none, .mov (.c (.bool false))⟩]) <|
  .seq (.ops [⟨some 9, none, .mov (.t 0)⟩, ⟨some 10, none, .call 13 [(.t 9)]⟩, ⟨some 11, none, .mov (.t 1)⟩, ⟨some 12, none, .call 13 [(.t 11)]⟩, ⟨some 5, none, .alloc [(.bool false), (.bool false), (.bool false), (.bool false), (.bool false), (.bool false), (.bool false), (.bool false)]⟩, ⟨some 6, none, .alloc [(.bool false), (.bool false), (.bool false), (.bool false), (.bool false), (.bool false), (.bool false), (.bool false)]⟩, ⟨none, none, .storeN 8 (.t 5) (.t 10)⟩, ⟨none, none, .storeN 8 (.t 6) (.t 12)⟩]) <|
  .seq (.ops [⟨some 13, none, .loadN 8 (.t 5)⟩, ⟨some 14, none, .call 17 [(.t 13)]⟩, ⟨some 15, none, .lenS (.t 14)⟩, ⟨some 16, none, .loadN 8 (.t 6)⟩, ⟨some 17, none, .call 17 [(.t 16)]⟩, ⟨some 18, none, .lenS (.t 17)⟩, ⟨some 7, none, .mov (.t 15)⟩, ⟨some 8, none, .mov (.t 18)⟩]) <|
  .seq (.ops [⟨some 19, none, .mov (.t 7)⟩, ⟨some 20, none, .mov (.t 8)⟩, ⟨some 21, none, .bin .num .lss (.t 19) (.t 20)⟩, ⟨some 22, none, .mov (.t 21)⟩, ⟨some 23, some (22, false), .mov (.t 7)⟩, ⟨some 24, some (22, false), .mov (.t 8)⟩, ⟨some 25, some (22, false), .bin .num .eql (.t 23) (.t 24)⟩, ⟨some 26, some (22, false), .mov (.t 25)⟩, ⟨some 27, some (26, true), .loadN 8 (.t 5)⟩, ⟨some 28, some (26, true), .call 32 [(.t 27)]⟩, ⟨some 29, some (26, true), .loadN 8 (.t 6)⟩, ⟨some 30, some (26, true), .call 32 [(.t 29)]⟩, ⟨some 31, some (26, true), .bin .num .lss (.t 28) (.t 30)⟩, ⟨some 32, some (22, false), .pick (.t 26) (.t 31) (.c (.bool false))⟩, ⟨some 33, none, .pick (.t 22) (.c (.bool true)) (.t 32)⟩, ⟨some 4, none, .mov (.t 33)⟩]) <|
  .ret
def v29 : VFunc := ⟨34, [.tmp 4], c29⟩
/-- berthing/mask.Masks$1 -/
def c30 : VCode :=
  .seq (.ops [⟨some 3, none, .mov (.c (.int .i64 1))⟩]) <|
  .block 0 (.loop (.seq (.seq (.ops [⟨some 5, none, .mov (.t 3)⟩, ⟨some 6, none, .load1 (.t 1)⟩, ⟨some 7, none, .bin .num .leq (.t 5) (.t 6)⟩]) <|
    .cond (.t 7) (.skip) (.exit 0)) <|
    .seq (.block 1 (.seq (.ops [⟨some 10, none, .mov (.t 3)⟩, ⟨some 11, none, .bin .num .shl (.c (.int .u32 1)) (.t 10)⟩, ⟨some 12, none, .bin .num .sub (.t 11) (.c (.int .u32 1))⟩, ⟨some 4, none, .mov (.t 12)⟩]) <|
     .block 2 (.loop (.seq (.seq (.ops [⟨some 13, none, .mov (.t 4)⟩, ⟨some 14, none, .load1 (.t 1)⟩, ⟨some 15, none, .bin .num .shl (.c (.int .u32 1)) (.t 14)⟩, ⟨some 16, none, .bin .num .lss (.t 13) (.t 15)⟩]) <|
       .cond (.t 16) (.skip) (.exit 2)) <|
       .seq (.block 3 (.seq (.ops [⟨some 19, none, .mov (.t 0)⟩, ⟨some 20, none, .mov (.t 4)⟩, ⟨some 21, none, .conv .i64 (.t 20)⟩, ⟨some 22, none, .callV (.t 19) [(.t 21)]⟩, ⟨some 23, none, .un .not (.t 22)⟩]) <|
        .cond (.t 23) (.ret) (.skip))) <|
       .ops [⟨some 17, none, .mov (.t 4)⟩, ⟨some 18, none, .call 31 [(.t 17)]⟩, ⟨some 4, none, .mov (.t 18)⟩])))) <|
    .ops [⟨some 8, none, .mov (.t 3)⟩, ⟨some 9, none, .bin .num .add (.t 8) (.c (.int .i64 1))⟩, ⟨some 3, none, .mov (.t 9)⟩]))
def v30 : VFunc := ⟨24, [], c30⟩
/-- berthing/mask.next -/
def c31 : VCode :=
  .seq (.ops [⟨some 2, none, .mov (.c (.int .u32 0))⟩]) <|
  .seq (.ops [⟨some 5, none, .mov (.t 0)⟩, ⟨some 6, none, .mov (.t 0)⟩, ⟨some 7, none, .un .neg (.t 6)⟩, ⟨some 8, none, .bin .num .and (.t 5) (.t 7)⟩, ⟨some 3, none, .mov (.t 8)⟩]) <|
  .seq (.ops [⟨some 9, none, .mov (.t 0)⟩, ⟨some 10, none, .mov (.t 3)⟩, ⟨some 11, none, .bin .num .add (.t 9) (.t 10)⟩, ⟨some 4, none, .mov (.t 11)⟩]) <|
  .seq (.ops [⟨some 12, none, .mov (.t 4)⟩, ⟨some 13, none, .mov (.t 0)⟩, ⟨some 14, none, .mov (.t 4)⟩, ⟨some 15, none, .bin .num .xor (.t 13) (.t 14)⟩, ⟨some 16, none, .mov (.t 3)⟩, ⟨some 17, none, .bin .num .quo (.t 15) (.t 16)⟩, ⟨some 18, none, .bin .num .shr (.t 17) (.c (.int .u64 2))⟩, ⟨some 19, none, .bin .num .or (.t 12) (.t 18)⟩, ⟨some 2, none, .mov (.t 19)⟩]) <|
  .ret
def v31 : VFunc := ⟨20, [.tmp 2], c31⟩
/-- (berthing/berthingref07.Set).Mask -/
def c32 : VCode :=
  .seq (.ops [⟨some 1, none, .box (.t 0)⟩, ⟨some 2, none, .mov (.c (.int .i64 0))⟩]) <|
  .seq (.ops [⟨some 3, none, .mov (.c (.int .i64 0))⟩]) <|
  .seq (.seq (.ops [⟨some 4, none, .mov (.c (.int .i64 7))⟩]) <|
  .block 0 (.loop (.seq (.seq (.ops [⟨some 5, none, .mov (.t 4)⟩, ⟨some 6, none, .bin .num .geq (.t 5) (.c (.int .i64 0))⟩]) <|
    .cond (.t 6) (.skip) (.exit 0)) <|
    .seq (.block 1 (.seq (.ops [⟨some 9, none, .mov (.t 3)⟩, ⟨some 10, none, .bin .num .mul (.t 9) (.c (.int .i64 2))⟩, ⟨some 3, none, .mov (.t 10)⟩]) <|
     .seq (.ops [⟨some 11, none, .mov (.t 4)⟩, ⟨some 12, none, .idxAddrA 8 1 (.t 1) (.t 11)⟩, ⟨some 13, none, .load1 (.t 12)⟩]) <|
     .cond (.t 13) (.ops [⟨some 14, none, .mov (.t 3)⟩, ⟨some 15, none, .bin .num .add (.t 14) (.c (.int .i64 1))⟩, ⟨some 3, none, .mov (.t 15)⟩]) (.skip))) <|
    .ops [⟨some 7, none, .mov (.t 4)⟩, ⟨some 8, none, .bin .num .sub (.t 7) (.c (.int .i64 1))⟩, ⟨some 4, none, .mov (.t 8)⟩]))) <|
  .seq (.ops [⟨some 16, none, .mov (.t 3)⟩, ⟨some 2, none, .mov (.t 16)⟩]) <|
  .ret
def v32 : VFunc := ⟨17, [.tmp 2], c32⟩
def ft : FuncId → Option VFunc := fun f => bif Nat.beq f 3 then some v3 else bif Nat.beq f 4 then some v4 else bif Nat.beq f 5 then some v5 else bif Nat.beq f 6 then some v6 else bif Nat.beq f 7 then some v7 else bif Nat.beq f 8 then some v8 else bif Nat.beq f 9 then some v9 else bif Nat.beq f 10 then some v10 else bif Nat.beq f 11 then some v11 else bif Nat.beq f 12 then some v12 else bif Nat.beq f 13 then some v13 else bif Nat.beq f 14 then some v14 else bif Nat.beq f 15 then some v15 else bif Nat.beq f 16 then some v16 else bif Nat.beq f 17 then some v17 else bif Nat.beq f 18 then some v18 else bif Nat.beq f 19 then some v19 else bif Nat.beq f 20 then some v20 else bif Nat.beq f 21 then some v21 else bif Nat.beq f 22 then some v22 else bif Nat.beq f 23 then some v23 else bif Nat.beq f 24 then some v24 else bif Nat.beq f 25 then some v25 else bif Nat.beq f 26 then some v26 else bif Nat.beq f 27 then some v27 else bif Nat.beq f 28 then some v28 else bif Nat.beq f 29 then some v29 else bif Nat.beq f 30 then some v30 else bif Nat.beq f 31 then some v31 else bif Nat.beq f 32 then some v32 else none
def env : Env := ⟨ft, md⟩
theorem is3 : FnComp ⟨Try.prog, md⟩ 3 v3 := ⟨Try.f3, _, fun t => false, Try.func3, rfl, by kernel_rfl, by kernel_rfl, by kernel_rfl⟩
theorem is4 : FnComp ⟨Try.prog, md⟩ 4 v4 := ⟨Try.f4, _, fun t => false, Try.func4, rfl, by kernel_rfl, by kernel_rfl, by kernel_rfl⟩
theorem is5 : FnComp ⟨Try.prog, md⟩ 5 v5 := ⟨Try.f5, _, fun t => false, Try.func5, rfl, by kernel_rfl, by kernel_rfl, by kernel_rfl⟩
theorem is6 : FnComp ⟨Try.prog, md⟩ 6 v6 := ⟨Try.f6, _, fun t => false, Try.func6, rfl, by kernel_rfl, by kernel_rfl, by kernel_rfl⟩
theorem is7 : FnComp ⟨Try.prog, md⟩ 7 v7 := ⟨Try.f7, _, fun t => false, Try.func7, rfl, by kernel_rfl, by kernel_rfl, by kernel_rfl⟩
theorem is8 : FnComp ⟨Try.prog, md⟩ 8 v8 := ⟨Try.f8, _, fun t => false, Try.func8, rfl, by kernel_rfl, by kernel_rfl, by kernel_rfl⟩
theorem is9 : FnComp ⟨Try.prog, md⟩ 9 v9 := ⟨Try.f9, _, fun t => false, Try.func9, rfl, by kernel_rfl, by kernel_rfl, by kernel_rfl⟩
theorem is10 : FnComp ⟨Try.prog, md⟩ 10 v10 := ⟨Try.f10, _, fun t => false, Try.func10, rfl, by kernel_rfl, by kernel_rfl, by kernel_rfl⟩
theorem is11 : FnComp ⟨Try.prog, md⟩ 11 v11 := ⟨Try.f11, _, fun t => false, Try.func11, rfl, by kernel_rfl, by kernel_rfl, by kernel_rfl⟩
theorem is12 : FnComp ⟨Try.prog, md⟩ 12 v12 := ⟨Try.f12, _, fun t => false, Try.func12, rfl, by kernel_rfl, by kernel_rfl, by kernel_rfl⟩
theorem is13 : FnComp ⟨Try.prog, md⟩ 13 v13 := ⟨Try.f13, _, fun t => false, Try.func13, rfl, by kernel_rfl, by kernel_rfl, by kernel_rfl⟩
theorem is14 : FnComp ⟨Try.prog, md⟩ 14 v14 := ⟨Try.f14, _, fun t => false, Try.func14, rfl, by kernel_rfl, by kernel_rfl, by kernel_rfl⟩
theorem is15 : FnComp ⟨Try.prog, md⟩ 15 v15 := ⟨Try.f15, _, fun t => false, Try.func15, rfl, by kernel_rfl, by kernel_rfl, by kernel_rfl⟩
theorem is16 : FnComp ⟨Try.prog, md⟩ 16 v16 := ⟨Try.f16, _, fun t => false, Try.func16, rfl, by kernel_rfl, by kernel_rfl, by kernel_rfl⟩
theorem is17 : FnComp ⟨Try.prog, md⟩ 17 v17 := ⟨Try.f17, _, fun t => false, Try.func17, rfl, by kernel_rfl, by kernel_rfl, by kernel_rfl⟩
theorem is18 : FnComp ⟨Try.prog, md⟩ 18 v18 := ⟨Try.f18, _, fun t => false, Try.func18, rfl, by kernel_rfl, by kernel_rfl, by kernel_rfl⟩
theorem is19 : FnComp ⟨Try.prog, md⟩ 19 v19 := ⟨Try.f19, _, fun t => false, Try.func19, rfl, by kernel_rfl, by kernel_rfl, by kernel_rfl⟩
theorem is20 : FnComp ⟨Try.prog, md⟩ 20 v20 := ⟨Try.f20, _, fun t => false, Try.func20, rfl, by kernel_rfl, by kernel_rfl, by kernel_rfl⟩
theorem is21 : FnComp ⟨Try.prog, md⟩ 21 v21 := ⟨Try.f21, _, fun t => false, Try.func21, rfl, by kernel_rfl, by kernel_rfl, by kernel_rfl⟩
theorem is22 : FnComp ⟨Try.prog, md⟩ 22 v22 := ⟨Try.f22, _, fun t => false, Try.func22, rfl, by kernel_rfl, by kernel_rfl, by kernel_rfl⟩
theorem is23 : FnComp ⟨Try.prog, md⟩ 23 v23 := ⟨Try.f23, _, fun t => false, Try.func23, rfl, by kernel_rfl, by kernel_rfl, by kernel_rfl⟩
theorem is24 : FnComp ⟨Try.prog, md⟩ 24 v24 := ⟨Try.f24, _, fun t => false, Try.func24, rfl, by kernel_rfl, by kernel_rfl, by kernel_rfl⟩
theorem is25 : FnComp ⟨Try.prog, md⟩ 25 v25 := ⟨Try.f25, _, fun t => false, Try.func25, rfl, by kernel_rfl, by kernel_rfl, by kernel_rfl⟩
theorem is26 : FnComp ⟨Try.prog, md⟩ 26 v26 := ⟨Try.f26, _, fun t => false, Try.func26, rfl, by kernel_rfl, by kernel_rfl, by kernel_rfl⟩
theorem is27 : FnComp ⟨Try.prog, md⟩ 27 v27 := ⟨Try.f27, _, fun t => false, Try.func27, rfl, by kernel_rfl, by kernel_rfl, by kernel_rfl⟩
theorem is28 : FnComp ⟨Try.prog, md⟩ 28 v28 := ⟨Try.f28, _, fun t => false, Try.func28, rfl, by kernel_rfl, by kernel_rfl, by kernel_rfl⟩
theorem is29 : FnComp ⟨Try.prog, md⟩ 29 v29 := ⟨Try.f29, _, fun t => false, Try.func29, rfl, by kernel_rfl, by kernel_rfl, by kernel_rfl⟩
theorem is30 : FnComp ⟨Try.prog, md⟩ 30 v30 := ⟨Try.f30, _, fun t => false, Try.func30, rfl, by kernel_rfl, by kernel_rfl, by kernel_rfl⟩
theorem is31 : FnComp ⟨Try.prog, md⟩ 31 v31 := ⟨Try.f31, _, fun t => false, Try.func31, rfl, by kernel_rfl, by kernel_rfl, by kernel_rfl⟩
theorem is32 : FnComp ⟨Try.prog, md⟩ 32 v32 := ⟨Try.f32, _, fun t => false, Try.func32, rfl, by kernel_rfl, by kernel_rfl, by kernel_rfl⟩

theorem envOK : EnvOK ⟨Try.prog, md⟩ env := ⟨rfl, by kernel_rfl, fun f vf h => by
  change ft f = some vf at h
  unfold ft at h
  rcases ft_cons h with ⟨h1, h2⟩ | h
  · rw [h1, h2]; exact is3
  rcases ft_cons h with ⟨h1, h2⟩ | h
  · rw [h1, h2]; exact is4
  rcases ft_cons h with ⟨h1, h2⟩ | h
  · rw [h1, h2]; exact is5
  rcases ft_cons h with ⟨h1, h2⟩ | h
  · rw [h1, h2]; exact is6
  rcases ft_cons h with ⟨h1, h2⟩ | h
  · rw [h1, h2]; exact is7
  rcases ft_cons h with ⟨h1, h2⟩ | h
  · rw [h1, h2]; exact is8
  rcases ft_cons h with ⟨h1, h2⟩ | h
  · rw [h1, h2]; exact is9
  rcases ft_cons h with ⟨h1, h2⟩ | h
  · rw [h1, h2]; exact is10
  rcases ft_cons h with ⟨h1, h2⟩ | h
  · rw [h1, h2]; exact is11
  rcases ft_cons h with ⟨h1, h2⟩ | h
  · rw [h1, h2]; exact is12
  rcases ft_cons h with ⟨h1, h2⟩ | h
  · rw [h1, h2]; exact is13
  rcases ft_cons h with ⟨h1, h2⟩ | h
  · rw [h1, h2]; exact is14
  rcases ft_cons h with ⟨h1, h2⟩ | h
  · rw [h1, h2]; exact is15
  rcases ft_cons h with ⟨h1, h2⟩ | h
  · rw [h1, h2]; exact is16
  rcases ft_cons h with ⟨h1, h2⟩ | h
  · rw [h1, h2]; exact is17
  rcases ft_cons h with ⟨h1, h2⟩ | h
  · rw [h1, h2]; exact is18
  rcases ft_cons h with ⟨h1, h2⟩ | h
  · rw [h1, h2]; exact is19
  rcases ft_cons h with ⟨h1, h2⟩ | h
  · rw [h1, h2]; exact is20
  rcases ft_cons h with ⟨h1, h2⟩ | h
  · rw [h1, h2]; exact is21
  rcases ft_cons h with ⟨h1, h2⟩ | h
  · rw [h1, h2]; exact is22
  rcases ft_cons h with ⟨h1, h2⟩ | h
  · rw [h1, h2]; exact is23
  rcases ft_cons h with ⟨h1, h2⟩ | h
  · rw [h1, h2]; exact is24
  rcases ft_cons h with ⟨h1, h2⟩ | h
  · rw [h1, h2]; exact is25
  rcases ft_cons h with ⟨h1, h2⟩ | h
  · rw [h1, h2]; exact is26
  rcases ft_cons h with ⟨h1, h2⟩ | h
  · rw [h1, h2]; exact is27
  rcases ft_cons h with ⟨h1, h2⟩ | h
  · rw [h1, h2]; exact is28
  rcases ft_cons h with ⟨h1, h2⟩ | h
  · rw [h1, h2]; exact is29
  rcases ft_cons h with ⟨h1, h2⟩ | h
  · rw [h1, h2]; exact is30
  rcases ft_cons h with ⟨h1, h2⟩ | h
  · rw [h1, h2]; exact is31
  rcases ft_cons h with ⟨h1, h2⟩ | h
  · rw [h1, h2]; exact is32
  cases h⟩
end Go.Proofs.Ytdbobcbjgacjpaa
