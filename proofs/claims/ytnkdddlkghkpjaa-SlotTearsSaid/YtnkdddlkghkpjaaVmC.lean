/-
  The functions of this seat as code of the abstract machine, and that they are so. Printed by a program.
-/
import Derived.Test.YtnkdddlkghkpjaaV8
import Derived.Test.YtnkdddlkghkpjaaChecked
import Derived.KernelRfl
set_option linter.all false
set_option linter.unusedVariables false
set_option linter.unusedSimpArgs false
set_option linter.unusedSectionVars false
namespace Go.Proofs.Ytnkdddlkghkpjaa
open Go Go.VM

def md : FuncId → VM.Mode := fun f => bif Nat.beq f 29 then .shared else bif Nat.beq f 30 then .shared else bif Nat.beq f 31 then .shared else bif Nat.beq f 25 then .own else bif Nat.beq f 32 then .own else .pure
/-- berthing/berthinglaw14.SlotReads -/
def c3 : VCode :=
  .seq (.ops [⟨some 4, none, .mov (.c (.bool false))⟩]) <|
  .seq (.seq (.ops [⟨some 18, none, .call .pure 7 []⟩, ⟨some 19, none, .un .not (.t 18)⟩]) <|
  .cond (.t 19) (.seq (.ops [⟨some 4, none, .mov (.c (.bool false))⟩]) <|
   .ret) (.skip)) <|
  .seq (.seq (.ops [⟨some 20, none, .mov (.t 0)⟩, ⟨some 21, none, .lenS (.t 20)⟩, ⟨some 22, none, .bin .num .gtr (.t 21) (.c (.int .i64 2000))⟩, ⟨some 23, none, .mov (.t 22)⟩, ⟨some 24, some (23, false), .mov (.t 1)⟩, ⟨some 25, some (23, false), .lenS (.t 24)⟩, ⟨some 26, some (23, false), .bin .num .gtr (.t 25) (.c (.int .i64 2000))⟩, ⟨some 27, none, .pick (.t 23) (.c (.bool true)) (.t 26)⟩]) <|
  .cond (.t 27) (.seq (.ops [⟨some 4, none, .mov (.c (.bool true))⟩]) <|
   .ret) (.skip)) <|
  .seq (.ops [⟨some 29, none, .mov (.t 0)⟩, ⟨some 30, none, .call .pure 8 [(.t 29)]⟩, ⟨some 28, none, .mov (.t 30)⟩, ⟨some 31, none, .extract 0 (.t 28)⟩, ⟨some 32, none, .extract 1 (.t 28)⟩, ⟨some 33, none, .extract 2 (.t 28)⟩, ⟨some 5, none, .mov (.t 31)⟩, ⟨some 6, none, .mov (.t 32)⟩, ⟨some 7, none, .mov (.t 33)⟩]) <|
  .seq (.ops [⟨some 35, none, .mov (.t 0)⟩, ⟨some 36, none, .strOfP (.t 35)⟩, ⟨some 37, none, .call .pure 9 [(.t 36)]⟩, ⟨some 34, none, .mov (.t 37)⟩, ⟨some 38, none, .extract 0 (.t 34)⟩, ⟨some 39, none, .extract 1 (.t 34)⟩, ⟨some 40, none, .extract 2 (.t 34)⟩, ⟨some 8, none, .mov (.t 38)⟩, ⟨some 9, none, .mov (.t 39)⟩, ⟨some 10, none, .mov (.t 40)⟩]) <|
  .seq (.ops [⟨some 42, none, .mov (.t 1)⟩, ⟨some 43, none, .strOfP (.t 42)⟩, ⟨some 44, none, .call .pure 9 [(.t 43)]⟩, ⟨some 41, none, .mov (.t 44)⟩, ⟨some 45, none, .extract 0 (.t 41)⟩, ⟨some 46, none, .extract 1 (.t 41)⟩, ⟨some 47, none, .extract 2 (.t 41)⟩, ⟨some 11, none, .mov (.t 45)⟩, ⟨some 12, none, .mov (.t 46)⟩, ⟨some 13, none, .mov (.t 47)⟩]) <|
  .seq (.seq (.ops [⟨some 48, none, .mov (.t 5)⟩, ⟨some 49, none, .mov (.t 8)⟩, ⟨some 50, none, .bin .num .neq (.t 48) (.t 49)⟩, ⟨some 51, none, .mov (.t 50)⟩, ⟨some 52, some (51, false), .mov (.t 6)⟩, ⟨some 53, some (51, false), .strOfP (.t 52)⟩, ⟨some 54, some (51, false), .mov (.t 9)⟩, ⟨some 55, some (51, false), .bin .num .neq (.t 53) (.t 54)⟩, ⟨some 56, none, .pick (.t 51) (.c (.bool true)) (.t 55)⟩, ⟨some 57, none, .mov (.t 56)⟩, ⟨some 58, some (57, false), .mov (.t 7)⟩, ⟨some 59, some (57, false), .mov (.t 10)⟩, ⟨some 60, some (57, false), .bin .num .neq (.t 58) (.t 59)⟩, ⟨some 61, none, .pick (.t 57) (.c (.bool true)) (.t 60)⟩]) <|
  .cond (.t 61) (.seq (.ops [⟨some 4, none, .mov (.c (.bool false))⟩]) <|
   .ret) (.skip)) <|
  .seq (.ops [⟨some 63, none, .mov (.t 0)⟩, ⟨some 64, none, .mov (.t 1)⟩, ⟨some 65, none, .call .pure 10 [(.t 63), (.t 64)]⟩, ⟨some 62, none, .mov (.t 65)⟩, ⟨some 66, none, .extract 0 (.t 62)⟩, ⟨some 67, none, .extract 1 (.t 62)⟩, ⟨some 68, none, .extract 2 (.t 62)⟩, ⟨some 69, none, .extract 3 (.t 62)⟩, ⟨some 14, none, .mov (.t 66)⟩, ⟨some 15, none, .mov (.t 67)⟩, ⟨some 16, none, .mov (.t 68)⟩, ⟨some 17, none, .mov (.t 69)⟩]) <|
  .seq (.seq (.ops [⟨some 70, none, .mov (.t 10)⟩, ⟨some 71, none, .bin .num .eql (.t 70) (.c (.int .i64 0))⟩, ⟨some 72, none, .mov (.t 71)⟩, ⟨some 73, some (72, true), .mov (.t 13)⟩, ⟨some 74, some (72, true), .bin .num .neq (.t 73) (.c (.int .i64 0))⟩, ⟨some 75, some (72, true), .mov (.t 74)⟩, ⟨some 76, some (75, false), .mov (.t 8)⟩, ⟨some 77, some (75, false), .mov (.t 11)⟩, ⟨some 78, some (75, false), .bin .num .geq (.t 76) (.t 77)⟩, ⟨some 79, some (72, true), .pick (.t 75) (.c (.bool true)) (.t 78)⟩, ⟨some 80, none, .pick (.t 72) (.t 79) (.c (.bool false))⟩]) <|
  .cond (.t 80) (.seq (.ops [⟨some 81, none, .mov (.t 14)⟩, ⟨some 82, none, .bin .num .eql (.t 81) (.c (.int .i64 0))⟩, ⟨some 83, none, .mov (.t 82)⟩, ⟨some 84, some (83, true), .mov (.t 15)⟩, ⟨some 85, some (83, true), .mov (.t 8)⟩, ⟨some 86, some (83, true), .bin .num .eql (.t 84) (.t 85)⟩, ⟨some 87, none, .pick (.t 83) (.t 86) (.c (.bool false))⟩, ⟨some 88, none, .mov (.t 87)⟩, ⟨some 89, some (88, true), .mov (.t 16)⟩, ⟨some 90, some (88, true), .strOfP (.t 89)⟩, ⟨some 91, some (88, true), .mov (.t 9)⟩, ⟨some 92, some (88, true), .bin .num .eql (.t 90) (.t 91)⟩, ⟨some 93, none, .pick (.t 88) (.t 92) (.c (.bool false))⟩, ⟨some 94, none, .mov (.t 93)⟩, ⟨some 95, some (94, true), .mov (.t 17)⟩, ⟨some 96, none, .pick (.t 94) (.t 95) (.c (.bool false))⟩, ⟨some 4, none, .mov (.t 96)⟩]) <|
   .ret) (.skip)) <|
  .seq (.seq (.ops [⟨some 97, none, .mov (.t 13)⟩, ⟨some 98, none, .bin .num .eql (.t 97) (.c (.int .i64 0))⟩]) <|
  .cond (.t 98) (.seq (.ops [⟨some 99, none, .mov (.t 14)⟩, ⟨some 100, none, .bin .num .eql (.t 99) (.c (.int .i64 1))⟩, ⟨some 101, none, .mov (.t 100)⟩, ⟨some 102, some (101, true), .mov (.t 15)⟩, ⟨some 103, some (101, true), .mov (.t 11)⟩, ⟨some 104, some (101, true), .bin .num .eql (.t 102) (.t 103)⟩, ⟨some 105, none, .pick (.t 101) (.t 104) (.c (.bool false))⟩, ⟨some 106, none, .mov (.t 105)⟩, ⟨some 107, some (106, true), .mov (.t 16)⟩, ⟨some 108, some (106, true), .strOfP (.t 107)⟩, ⟨some 109, some (106, true), .mov (.t 12)⟩, ⟨some 110, some (106, true), .bin .num .eql (.t 108) (.t 109)⟩, ⟨some 111, none, .pick (.t 106) (.t 110) (.c (.bool false))⟩, ⟨some 112, none, .mov (.t 111)⟩, ⟨some 113, some (112, true), .mov (.t 17)⟩, ⟨some 114, none, .pick (.t 112) (.t 113) (.c (.bool false))⟩, ⟨some 4, none, .mov (.t 114)⟩]) <|
   .ret) (.skip)) <|
  .seq (.ops [⟨some 115, none, .mov (.t 14)⟩, ⟨some 116, none, .bin .num .eql (.t 115) (.c (.int .i64 0))⟩, ⟨some 117, none, .mov (.t 116)⟩, ⟨some 118, some (117, true), .mov (.t 15)⟩, ⟨some 119, some (117, true), .bin .num .eql (.t 118) (.c (.int .i64 0))⟩, ⟨some 120, none, .pick (.t 117) (.t 119) (.c (.bool false))⟩, ⟨some 121, none, .mov (.t 120)⟩, ⟨some 122, some (121, true), .mov (.t 16)⟩, ⟨some 123, some (121, true), .lenS (.t 122)⟩, ⟨some 124, some (121, true), .bin .num .eql (.t 123) (.c (.int .i64 0))⟩, ⟨some 125, none, .pick (.t 121) (.t 124) (.c (.bool false))⟩, ⟨some 126, none, .mov (.t 125)⟩, ⟨some 127, some (126, true), .mov (.t 17)⟩, ⟨some 128, some (126, true), .un .not (.t 127)⟩, ⟨some 129, none, .pick (.t 126) (.t 128) (.c (.bool false))⟩, ⟨some 4, none, .mov (.t 129)⟩]) <|
  .ret
def v3 : VFunc := ⟨130, [.tmp 4], c3⟩
/-- berthing/berthinglaw14.SlotPuts -/
def c4 : VCode :=
  .seq (.ops [⟨some 1, none, .box (.t 0)⟩, ⟨some 2, none, .mov (.c (.bool false))⟩]) <|
  .seq (.seq (.ops [⟨some 18, none, .call .pure 7 []⟩, ⟨some 19, none, .un .not (.t 18)⟩]) <|
  .cond (.t 19) (.seq (.ops [⟨some 2, none, .mov (.c (.bool false))⟩]) <|
   .ret) (.skip)) <|
  .seq (.ops [⟨some 20, none, .fieldAddr 0 (.t 1)⟩, ⟨some 21, none, .load1 (.t 20)⟩, ⟨some 22, none, .fieldAddr 1 (.t 1)⟩, ⟨some 23, none, .load1 (.t 22)⟩, ⟨some 24, none, .fieldAddr 2 (.t 1)⟩, ⟨some 25, none, .load1 (.t 24)⟩, ⟨some 26, none, .fieldAddr 3 (.t 1)⟩, ⟨some 27, none, .load1 (.t 26)⟩, ⟨some 3, none, .mov (.t 21)⟩, ⟨some 4, none, .mov (.t 23)⟩, ⟨some 5, none, .mov (.t 25)⟩, ⟨some 6, none, .mov (.t 27)⟩]) <|
  .seq (.seq (.ops [⟨some 28, none, .mov (.t 4)⟩, ⟨some 29, none, .lenS (.t 28)⟩, ⟨some 30, none, .bin .num .gtr (.t 29) (.c (.int .i64 2000))⟩, ⟨some 31, none, .mov (.t 30)⟩, ⟨some 32, some (31, false), .mov (.t 5)⟩, ⟨some 33, some (31, false), .lenS (.t 32)⟩, ⟨some 34, some (31, false), .bin .num .gtr (.t 33) (.c (.int .i64 2000))⟩, ⟨some 35, none, .pick (.t 31) (.c (.bool true)) (.t 34)⟩]) <|
  .cond (.t 35) (.seq (.ops [⟨some 2, none, .mov (.c (.bool true))⟩]) <|
   .ret) (.skip)) <|
  .seq (.ops [⟨some 7, none, .mov (.c (.str ⟨#[]⟩))⟩]) <|
  .seq (.seq (.ops [⟨some 36, none, .mov (.t 3)⟩, ⟨some 37, none, .bin .num .geq (.t 36) (.c (.int .i64 1))⟩, ⟨some 38, none, .mov (.t 37)⟩, ⟨some 39, some (38, true), .mov (.t 3)⟩, ⟨some 40, some (38, true), .bin .num .leq (.t 39) (.c (.int .i64 1152921504606846976))⟩, ⟨some 41, none, .pick (.t 38) (.t 40) (.c (.bool false))⟩]) <|
  .cond (.t 41) (.ops [⟨some 42, none, .mov (.t 3)⟩, ⟨some 43, none, .mov (.t 4)⟩, ⟨some 44, none, .strOfP (.t 43)⟩, ⟨some 45, none, .call .pure 11 [(.t 42), (.t 44)]⟩, ⟨some 7, none, .mov (.t 45)⟩]) (.skip)) <|
  .seq (.ops [⟨some 8, none, .mov (.c (.int .i64 0))⟩]) <|
  .seq (.seq (.ops [⟨some 46, none, .mov (.t 6)⟩, ⟨some 47, none, .bin .num .geq (.t 46) (.c (.int .i64 0))⟩, ⟨some 48, none, .mov (.t 47)⟩, ⟨some 49, some (48, true), .mov (.t 6)⟩, ⟨some 50, some (48, true), .bin .num .leq (.t 49) (.c (.int .i64 65536))⟩, ⟨some 51, none, .pick (.t 48) (.t 50) (.c (.bool false))⟩]) <|
  .cond (.t 51) (.ops [⟨some 52, none, .mov (.t 6)⟩, ⟨some 53, none, .bin .num .add (.t 52) (.c (.int .i64 20))⟩, ⟨some 8, none, .mov (.t 53)⟩]) (.skip)) <|
  .seq (.ops [⟨some 54, none, .mov (.t 3)⟩, ⟨some 55, none, .mov (.t 4)⟩, ⟨some 56, none, .call .pure 12 [(.t 54), (.t 55)]⟩, ⟨some 9, none, .mov (.t 56)⟩]) <|
  .seq (.ops [⟨some 57, none, .mov (.t 5)⟩, ⟨some 58, none, .strOfP (.t 57)⟩, ⟨some 59, none, .mov (.t 7)⟩, ⟨some 60, none, .mov (.t 6)⟩, ⟨some 61, none, .call .pure 13 [(.t 58), (.t 59), (.t 60)]⟩, ⟨some 10, none, .mov (.t 61)⟩]) <|
  .seq (.ops [⟨some 63, none, .mov (.t 10)⟩, ⟨some 64, none, .call .pure 9 [(.t 63)]⟩, ⟨some 62, none, .mov (.t 64)⟩, ⟨some 65, none, .extract 0 (.t 62)⟩, ⟨some 66, none, .extract 1 (.t 62)⟩, ⟨some 67, none, .extract 2 (.t 62)⟩, ⟨some 11, none, .mov (.t 65)⟩, ⟨some 12, none, .mov (.t 66)⟩, ⟨some 13, none, .mov (.t 67)⟩]) <|
  .seq (.ops [⟨some 69, none, .mov (.t 5)⟩, ⟨some 70, none, .strOfP (.t 69)⟩, ⟨some 71, none, .call .pure 9 [(.t 70)]⟩, ⟨some 68, none, .mov (.t 71)⟩, ⟨some 72, none, .extract 0 (.t 68)⟩, ⟨some 73, none, .extract 1 (.t 68)⟩, ⟨some 74, none, .extract 2 (.t 68)⟩, ⟨some 14, none, .mov (.t 72)⟩, ⟨some 15, none, .mov (.t 73)⟩, ⟨some 16, none, .mov (.t 74)⟩]) <|
  .seq (.ops [⟨some 75, none, .mov (.t 13)⟩, ⟨some 76, none, .bin .num .eql (.t 75) (.c (.int .i64 0))⟩, ⟨some 77, none, .mov (.t 76)⟩, ⟨some 78, some (77, true), .mov (.t 11)⟩, ⟨some 79, some (77, true), .mov (.t 12)⟩, ⟨some 80, some (77, true), .call .pure 11 [(.t 78), (.t 79)]⟩, ⟨some 81, some (77, true), .mov (.t 7)⟩, ⟨some 82, some (77, true), .bin .num .neq (.t 80) (.t 81)⟩, ⟨some 83, none, .pick (.t 77) (.t 82) (.c (.bool false))⟩, ⟨some 84, none, .mov (.t 83)⟩, ⟨some 85, some (84, true), .mov (.t 16)⟩, ⟨some 86, some (84, true), .bin .num .neq (.t 85) (.c (.int .i64 0))⟩, ⟨some 87, some (84, true), .mov (.t 86)⟩, ⟨some 88, some (87, false), .mov (.t 11)⟩, ⟨some 89, some (87, false), .mov (.t 12)⟩, ⟨some 90, some (87, false), .call .pure 11 [(.t 88), (.t 89)]⟩, ⟨some 91, some (87, false), .mov (.t 14)⟩, ⟨some 92, some (87, false), .mov (.t 15)⟩, ⟨some 93, some (87, false), .call .pure 11 [(.t 91), (.t 92)]⟩, ⟨some 94, some (87, false), .bin .num .neq (.t 90) (.t 93)⟩, ⟨some 95, some (84, true), .pick (.t 87) (.c (.bool true)) (.t 94)⟩, ⟨some 96, none, .pick (.t 84) (.t 95) (.c (.bool false))⟩, ⟨some 17, none, .mov (.t 96)⟩]) <|
  .seq (.ops [⟨some 97, none, .mov (.t 9)⟩, ⟨some 98, none, .strOfP (.t 97)⟩, ⟨some 99, none, .mov (.t 7)⟩, ⟨some 100, none, .bin .num .eql (.t 98) (.t 99)⟩, ⟨some 101, none, .mov (.t 100)⟩, ⟨some 102, some (101, true), .mov (.t 6)⟩, ⟨some 103, some (101, true), .call .pure 14 [(.t 102)]⟩, ⟨some 104, some (101, true), .mov (.t 8)⟩, ⟨some 105, some (101, true), .bin .num .eql (.t 103) (.t 104)⟩, ⟨some 106, none, .pick (.t 101) (.t 105) (.c (.bool false))⟩, ⟨some 107, none, .mov (.t 106)⟩, ⟨some 108, some (107, true), .mov (.t 5)⟩, ⟨some 109, some (107, true), .mov (.t 9)⟩, ⟨some 110, some (107, true), .mov (.t 6)⟩, ⟨some 111, some (107, true), .call .pure 15 [(.t 108), (.t 109), (.t 110)]⟩, ⟨some 112, some (107, true), .strOfP (.t 111)⟩, ⟨some 113, some (107, true), .mov (.t 10)⟩, ⟨some 114, some (107, true), .bin .num .eql (.t 112) (.t 113)⟩, ⟨some 115, none, .pick (.t 107) (.t 114) (.c (.bool false))⟩, ⟨some 116, none, .mov (.t 115)⟩, ⟨some 117, some (116, true), .mov (.t 5)⟩, ⟨some 118, some (116, true), .mov (.t 9)⟩, ⟨some 119, some (116, true), .mov (.t 6)⟩, ⟨some 120, some (116, true), .call .pure 16 [(.t 117), (.t 118), (.t 119)]⟩, ⟨some 121, some (116, true), .mov (.t 17)⟩, ⟨some 122, some (116, true), .bin .bool .eql (.t 120) (.t 121)⟩, ⟨some 123, none, .pick (.t 116) (.t 122) (.c (.bool false))⟩, ⟨some 2, none, .mov (.t 123)⟩]) <|
  .ret
def v4 : VFunc := ⟨124, [.tmp 2], c4⟩
/-- berthing/berthinglaw14.SlotTears -/
def c5 : VCode :=
  .seq (.ops [⟨some 3, none, .box (.t 0)⟩, ⟨some 6, none, .mov (.c (.bool false))⟩]) <|
  .seq (.seq (.ops [⟨some 14, none, .call .pure 7 []⟩, ⟨some 15, none, .un .not (.t 14)⟩]) <|
  .cond (.t 15) (.seq (.ops [⟨some 6, none, .mov (.c (.bool false))⟩]) <|
   .ret) (.skip)) <|
  .seq (.ops [⟨some 16, none, .idxAddrA 3 1 (.t 3) (.c (.int .i64 2))⟩, ⟨some 17, none, .load1 (.t 16)⟩, ⟨some 7, none, .mov (.t 17)⟩]) <|
  .seq (.seq (.ops [⟨some 18, none, .mov (.t 1)⟩, ⟨some 19, none, .lenS (.t 18)⟩, ⟨some 20, none, .bin .num .gtr (.t 19) (.c (.int .i64 500))⟩, ⟨some 21, none, .mov (.t 20)⟩, ⟨some 22, some (21, false), .mov (.t 2)⟩, ⟨some 23, some (21, false), .lenS (.t 22)⟩, ⟨some 24, some (21, false), .bin .num .gtr (.t 23) (.c (.int .i64 500))⟩, ⟨some 25, none, .pick (.t 21) (.c (.bool true)) (.t 24)⟩]) <|
  .cond (.t 25) (.seq (.ops [⟨some 6, none, .mov (.c (.bool true))⟩]) <|
   .ret) (.skip)) <|
  .seq (.ops [⟨some 26, none, .idxAddrA 3 1 (.t 3) (.c (.int .i64 0))⟩, ⟨some 27, none, .load1 (.t 26)⟩, ⟨some 28, none, .mov (.t 1)⟩, ⟨some 29, none, .call .pure 12 [(.t 27), (.t 28)]⟩, ⟨some 30, none, .idxAddrA 3 1 (.t 3) (.c (.int .i64 1))⟩, ⟨some 31, none, .load1 (.t 30)⟩, ⟨some 32, none, .mov (.t 2)⟩, ⟨some 33, none, .call .pure 12 [(.t 31), (.t 32)]⟩, ⟨some 8, none, .mov (.t 29)⟩, ⟨some 9, none, .mov (.t 33)⟩]) <|
  .seq (.seq (.ops [⟨some 34, none, .mov (.t 8)⟩, ⟨some 35, none, .lenS (.t 34)⟩, ⟨some 36, none, .bin .num .eql (.t 35) (.c (.int .i64 0))⟩, ⟨some 37, none, .mov (.t 36)⟩, ⟨some 38, some (37, false), .mov (.t 9)⟩, ⟨some 39, some (37, false), .lenS (.t 38)⟩, ⟨some 40, some (37, false), .bin .num .eql (.t 39) (.c (.int .i64 0))⟩, ⟨some 41, none, .pick (.t 37) (.c (.bool true)) (.t 40)⟩]) <|
  .cond (.t 41) (.seq (.ops [⟨some 42, none, .idxAddrA 3 1 (.t 3) (.c (.int .i64 0))⟩, ⟨some 43, none, .load1 (.t 42)⟩, ⟨some 44, none, .bin .num .lss (.t 43) (.c (.int .i64 1))⟩, ⟨some 45, none, .mov (.t 44)⟩, ⟨some 46, some (45, false), .idxAddrA 3 1 (.t 3) (.c (.int .i64 0))⟩, ⟨some 47, some (45, false), .load1 (.t 46)⟩, ⟨some 48, some (45, false), .bin .num .gtr (.t 47) (.c (.int .i64 1152921504606846976))⟩, ⟨some 49, none, .pick (.t 45) (.c (.bool true)) (.t 48)⟩, ⟨some 50, none, .mov (.t 49)⟩, ⟨some 51, some (50, false), .idxAddrA 3 1 (.t 3) (.c (.int .i64 1))⟩, ⟨some 52, some (50, false), .load1 (.t 51)⟩, ⟨some 53, some (50, false), .bin .num .lss (.t 52) (.c (.int .i64 1))⟩, ⟨some 54, none, .pick (.t 50) (.c (.bool true)) (.t 53)⟩, ⟨some 55, none, .mov (.t 54)⟩, ⟨some 56, some (55, false), .idxAddrA 3 1 (.t 3) (.c (.int .i64 1))⟩, ⟨some 57, some (55, false), .load1 (.t 56)⟩, ⟨some 58, some (55, false), .bin .num .gtr (.t 57) (.c (.int .i64 1152921504606846976))⟩, ⟨some 59, none, .pick (.t 55) (.c (.bool true)) (.t 58)⟩, ⟨some 6, none, .mov (.t 59)⟩]) <|
   .ret) (.skip)) <|
  .seq (.ops [⟨some 60, none, .buildSlice false 1 0 [] []⟩, ⟨some 61, none, .mov (.t 8)⟩, ⟨some 62, none, .append false false 1 1 (.t 60) (.t 61)⟩, ⟨some 63, none, .appendZ false 1 1 [(.int .u8 0)] (.t 62) (.c (.int .i64 600))⟩, ⟨some 10, none, .mov (.t 63)⟩]) <|
  .seq (.ops [⟨some 65, none, .mov (.t 10)⟩, ⟨some 66, none, .call .pure 8 [(.t 65)]⟩, ⟨some 64, none, .mov (.t 66)⟩, ⟨some 67, none, .extract 0 (.t 64)⟩, ⟨some 68, none, .extract 1 (.t 64)⟩, ⟨some 69, none, .extract 2 (.t 64)⟩, ⟨some 11, none, .mov (.t 67)⟩, ⟨some 12, none, .mov (.t 68)⟩, ⟨some 13, none, .mov (.t 69)⟩]) <|
  .seq (.seq (.ops [⟨some 70, none, .mov (.t 13)⟩, ⟨some 71, none, .bin .num .neq (.t 70) (.c (.int .i64 0))⟩, ⟨some 72, none, .mov (.t 71)⟩, ⟨some 73, some (72, false), .mov (.t 11)⟩, ⟨some 74, some (72, false), .idxAddrA 3 1 (.t 3) (.c (.int .i64 0))⟩, ⟨some 75, some (72, false), .load1 (.t 74)⟩, ⟨some 76, some (72, false), .bin .num .neq (.t 73) (.t 75)⟩, ⟨some 77, none, .pick (.t 72) (.c (.bool true)) (.t 76)⟩, ⟨some 78, none, .mov (.t 77)⟩, ⟨some 79, some (78, false), .mov (.t 12)⟩, ⟨some 80, some (78, false), .strOfP (.t 79)⟩, ⟨some 81, some (78, false), .mov (.t 1)⟩, ⟨some 82, some (78, false), .strOfP (.t 81)⟩, ⟨some 83, some (78, false), .bin .num .neq (.t 80) (.t 82)⟩, ⟨some 84, none, .pick (.t 78) (.c (.bool true)) (.t 83)⟩]) <|
  .cond (.t 84) (.seq (.ops [⟨some 6, none, .mov (.c (.bool false))⟩]) <|
   .ret) (.skip)) <|
  .seq (.ops [⟨some 86, none, .mov (.t 10)⟩, ⟨some 87, none, .mov (.t 9)⟩, ⟨some 88, none, .mov (.t 7)⟩, ⟨some 89, none, .call .pure 15 [(.t 86), (.t 87), (.t 88)]⟩, ⟨some 90, none, .call .pure 8 [(.t 89)]⟩, ⟨some 85, none, .mov (.t 90)⟩, ⟨some 91, none, .extract 0 (.t 85)⟩, ⟨some 92, none, .extract 1 (.t 85)⟩, ⟨some 93, none, .extract 2 (.t 85)⟩, ⟨some 11, none, .mov (.t 91)⟩, ⟨some 12, none, .mov (.t 92)⟩, ⟨some 13, none, .mov (.t 93)⟩]) <|
  .seq (.seq (.ops [⟨some 94, none, .mov (.t 13)⟩, ⟨some 95, none, .bin .num .neq (.t 94) (.c (.int .i64 0))⟩, ⟨some 96, none, .mov (.t 95)⟩, ⟨some 97, some (96, false), .mov (.t 10)⟩, ⟨some 98, some (96, false), .mov (.t 9)⟩, ⟨some 99, some (96, false), .mov (.t 7)⟩, ⟨some 100, some (96, false), .call .pure 16 [(.t 97), (.t 98), (.t 99)]⟩, ⟨some 101, none, .pick (.t 96) (.c (.bool true)) (.t 100)⟩]) <|
  .cond (.t 101) (.seq (.ops [⟨some 6, none, .mov (.c (.bool true))⟩]) <|
   .ret) (.skip)) <|
  .seq (.ops [⟨some 102, none, .mov (.t 11)⟩, ⟨some 103, none, .idxAddrA 3 1 (.t 3) (.c (.int .i64 0))⟩, ⟨some 104, none, .load1 (.t 103)⟩, ⟨some 105, none, .bin .num .eql (.t 102) (.t 104)⟩, ⟨some 106, none, .mov (.t 105)⟩, ⟨some 107, some (106, true), .mov (.t 12)⟩, ⟨some 108, some (106, true), .strOfP (.t 107)⟩, ⟨some 109, some (106, true), .mov (.t 1)⟩, ⟨some 110, some (106, true), .strOfP (.t 109)⟩, ⟨some 111, some (106, true), .bin .num .eql (.t 108) (.t 110)⟩, ⟨some 112, none, .pick (.t 106) (.t 111) (.c (.bool false))⟩, ⟨some 113, none, .mov (.t 112)⟩, ⟨some 114, some (113, false), .mov (.t 11)⟩, ⟨some 115, some (113, false), .idxAddrA 3 1 (.t 3) (.c (.int .i64 1))⟩, ⟨some 116, some (113, false), .load1 (.t 115)⟩, ⟨some 117, some (113, false), .bin .num .eql (.t 114) (.t 116)⟩, ⟨some 118, some (113, false), .mov (.t 117)⟩, ⟨some 119, some (118, true), .mov (.t 12)⟩, ⟨some 120, some (118, true), .strOfP (.t 119)⟩, ⟨some 121, some (118, true), .mov (.t 2)⟩, ⟨some 122, some (118, true), .strOfP (.t 121)⟩, ⟨some 123, some (118, true), .bin .num .eql (.t 120) (.t 122)⟩, ⟨some 124, some (113, false), .pick (.t 118) (.t 123) (.c (.bool false))⟩, ⟨some 125, none, .pick (.t 113) (.c (.bool true)) (.t 124)⟩, ⟨some 6, none, .mov (.t 125)⟩]) <|
  .ret
def v5 : VFunc := ⟨126, [.tmp 6], c5⟩
/-- berthing/berthinglaw14.SlotLatest -/
def c6 : VCode :=
  .seq (.ops [⟨some 3, none, .box (.t 0)⟩, ⟨some 6, none, .mov (.c (.bool false))⟩]) <|
  .seq (.seq (.ops [⟨some 18, none, .call .pure 7 []⟩, ⟨some 19, none, .un .not (.t 18)⟩]) <|
  .cond (.t 19) (.seq (.ops [⟨some 6, none, .mov (.c (.bool false))⟩]) <|
   .ret) (.skip)) <|
  .seq (.seq (.ops [⟨some 20, none, .mov (.t 1)⟩, ⟨some 21, none, .lenS (.t 20)⟩, ⟨some 22, none, .bin .num .gtr (.t 21) (.c (.int .i64 500))⟩, ⟨some 23, none, .mov (.t 22)⟩, ⟨some 24, some (23, false), .mov (.t 2)⟩, ⟨some 25, some (23, false), .lenS (.t 24)⟩, ⟨some 26, some (23, false), .bin .num .gtr (.t 25) (.c (.int .i64 500))⟩, ⟨some 27, none, .pick (.t 23) (.c (.bool true)) (.t 26)⟩]) <|
  .cond (.t 27) (.seq (.ops [⟨some 6, none, .mov (.c (.bool true))⟩]) <|
   .ret) (.skip)) <|
  .seq (.ops [⟨some 28, none, .idxAddrA 2 1 (.t 3) (.c (.int .i64 0))⟩, ⟨some 29, none, .load1 (.t 28)⟩, ⟨some 30, none, .mov (.t 1)⟩, ⟨some 31, none, .call .pure 12 [(.t 29), (.t 30)]⟩, ⟨some 32, none, .idxAddrA 2 1 (.t 3) (.c (.int .i64 1))⟩, ⟨some 33, none, .load1 (.t 32)⟩, ⟨some 34, none, .mov (.t 2)⟩, ⟨some 35, none, .call .pure 12 [(.t 33), (.t 34)]⟩, ⟨some 7, none, .mov (.t 31)⟩, ⟨some 8, none, .mov (.t 35)⟩]) <|
  .seq (.seq (.ops [⟨some 36, none, .mov (.t 7)⟩, ⟨some 37, none, .lenS (.t 36)⟩, ⟨some 38, none, .bin .num .eql (.t 37) (.c (.int .i64 0))⟩, ⟨some 39, none, .mov (.t 38)⟩, ⟨some 40, some (39, false), .mov (.t 8)⟩, ⟨some 41, some (39, false), .lenS (.t 40)⟩, ⟨some 42, some (39, false), .bin .num .eql (.t 41) (.c (.int .i64 0))⟩, ⟨some 43, none, .pick (.t 39) (.c (.bool true)) (.t 42)⟩]) <|
  .cond (.t 43) (.seq (.ops [⟨some 44, none, .idxAddrA 2 1 (.t 3) (.c (.int .i64 0))⟩, ⟨some 45, none, .load1 (.t 44)⟩, ⟨some 46, none, .bin .num .lss (.t 45) (.c (.int .i64 1))⟩, ⟨some 47, none, .mov (.t 46)⟩, ⟨some 48, some (47, false), .idxAddrA 2 1 (.t 3) (.c (.int .i64 0))⟩, ⟨some 49, some (47, false), .load1 (.t 48)⟩, ⟨some 50, some (47, false), .bin .num .gtr (.t 49) (.c (.int .i64 1152921504606846976))⟩, ⟨some 51, none, .pick (.t 47) (.c (.bool true)) (.t 50)⟩, ⟨some 52, none, .mov (.t 51)⟩, ⟨some 53, some (52, false), .idxAddrA 2 1 (.t 3) (.c (.int .i64 1))⟩, ⟨some 54, some (52, false), .load1 (.t 53)⟩, ⟨some 55, some (52, false), .bin .num .lss (.t 54) (.c (.int .i64 1))⟩, ⟨some 56, none, .pick (.t 52) (.c (.bool true)) (.t 55)⟩, ⟨some 57, none, .mov (.t 56)⟩, ⟨some 58, some (57, false), .idxAddrA 2 1 (.t 3) (.c (.int .i64 1))⟩, ⟨some 59, some (57, false), .load1 (.t 58)⟩, ⟨some 60, some (57, false), .bin .num .gtr (.t 59) (.c (.int .i64 1152921504606846976))⟩, ⟨some 61, none, .pick (.t 57) (.c (.bool true)) (.t 60)⟩, ⟨some 6, none, .mov (.t 61)⟩]) <|
   .ret) (.skip)) <|
  .seq (.ops [⟨some 63, none, .mov (.t 7)⟩, ⟨some 64, none, .mov (.t 8)⟩, ⟨some 65, none, .call .pure 10 [(.t 63), (.t 64)]⟩, ⟨some 62, none, .mov (.t 65)⟩, ⟨some 66, none, .extract 0 (.t 62)⟩, ⟨some 67, none, .extract 1 (.t 62)⟩, ⟨some 68, none, .extract 2 (.t 62)⟩, ⟨some 69, none, .extract 3 (.t 62)⟩, ⟨some 9, none, .mov (.t 66)⟩, ⟨some 10, none, .mov (.t 67)⟩, ⟨some 11, none, .mov (.t 68)⟩, ⟨some 12, none, .mov (.t 69)⟩]) <|
  .seq (.ops [⟨some 71, none, .mov (.t 8)⟩, ⟨some 72, none, .mov (.t 7)⟩, ⟨some 73, none, .call .pure 10 [(.t 71), (.t 72)]⟩, ⟨some 70, none, .mov (.t 73)⟩, ⟨some 74, none, .extract 0 (.t 70)⟩, ⟨some 75, none, .extract 1 (.t 70)⟩, ⟨some 76, none, .extract 2 (.t 70)⟩, ⟨some 77, none, .extract 3 (.t 70)⟩, ⟨some 13, none, .mov (.t 74)⟩, ⟨some 14, none, .mov (.t 75)⟩, ⟨some 15, none, .mov (.t 76)⟩, ⟨some 16, none, .mov (.t 77)⟩]) <|
  .seq (.ops [⟨some 78, none, .mov (.t 1)⟩, ⟨some 17, none, .mov (.t 78)⟩]) <|
  .seq (.seq (.ops [⟨some 79, none, .idxAddrA 2 1 (.t 3) (.c (.int .i64 1))⟩, ⟨some 80, none, .load1 (.t 79)⟩, ⟨some 81, none, .idxAddrA 2 1 (.t 3) (.c (.int .i64 0))⟩, ⟨some 82, none, .load1 (.t 81)⟩, ⟨some 83, none, .bin .num .gtr (.t 80) (.t 82)⟩]) <|
  .cond (.t 83) (.ops [⟨some 84, none, .mov (.t 2)⟩, ⟨some 17, none, .mov (.t 84)⟩]) (.skip)) <|
  .seq (.seq (.ops [⟨some 85, none, .mov (.t 12)⟩, ⟨some 86, none, .un .not (.t 85)⟩, ⟨some 87, none, .mov (.t 86)⟩, ⟨some 88, some (87, false), .mov (.t 16)⟩, ⟨some 89, some (87, false), .un .not (.t 88)⟩, ⟨some 90, none, .pick (.t 87) (.c (.bool true)) (.t 89)⟩, ⟨some 91, none, .mov (.t 90)⟩, ⟨some 92, some (91, false), .mov (.t 10)⟩, ⟨some 93, some (91, false), .idxAddrA 2 1 (.t 3) (.c (.int .i64 0))⟩, ⟨some 94, some (91, false), .load1 (.t 93)⟩, ⟨some 95, some (91, false), .idxAddrA 2 1 (.t 3) (.c (.int .i64 1))⟩, ⟨some 96, some (91, false), .load1 (.t 95)⟩, ⟨some 97, some (91, false), .minmax true [(.t 94), (.t 96)]⟩, ⟨some 98, some (91, false), .bin .num .neq (.t 92) (.t 97)⟩, ⟨some 99, none, .pick (.t 91) (.c (.bool true)) (.t 98)⟩, ⟨some 100, none, .mov (.t 99)⟩, ⟨some 101, some (100, false), .mov (.t 14)⟩, ⟨some 102, some (100, false), .mov (.t 10)⟩, ⟨some 103, some (100, false), .bin .num .neq (.t 101) (.t 102)⟩, ⟨some 104, none, .pick (.t 100) (.c (.bool true)) (.t 103)⟩, ⟨some 105, none, .mov (.t 104)⟩, ⟨some 106, some (105, false), .mov (.t 11)⟩, ⟨some 107, some (105, false), .strOfP (.t 106)⟩, ⟨some 108, some (105, false), .mov (.t 17)⟩, ⟨some 109, some (105, false), .strOfP (.t 108)⟩, ⟨some 110, some (105, false), .bin .num .neq (.t 107) (.t 109)⟩, ⟨some 111, none, .pick (.t 105) (.c (.bool true)) (.t 110)⟩]) <|
  .cond (.t 111) (.seq (.ops [⟨some 6, none, .mov (.c (.bool false))⟩]) <|
   .ret) (.skip)) <|
  .seq (.ops [⟨some 112, none, .idxAddrA 2 1 (.t 3) (.c (.int .i64 0))⟩, ⟨some 113, none, .load1 (.t 112)⟩, ⟨some 114, none, .idxAddrA 2 1 (.t 3) (.c (.int .i64 1))⟩, ⟨some 115, none, .load1 (.t 114)⟩, ⟨some 116, none, .bin .num .eql (.t 113) (.t 115)⟩, ⟨some 117, none, .mov (.t 116)⟩, ⟨some 118, some (117, true), .mov (.t 9)⟩, ⟨some 119, some (117, true), .mov (.t 13)⟩, ⟨some 120, some (117, true), .bin .num .add (.t 118) (.t 119)⟩, ⟨some 121, some (117, true), .bin .num .eql (.t 120) (.c (.int .i64 0))⟩, ⟨some 122, none, .pick (.t 117) (.t 121) (.c (.bool false))⟩, ⟨some 123, none, .mov (.t 122)⟩, ⟨some 124, some (123, false), .idxAddrA 2 1 (.t 3) (.c (.int .i64 0))⟩, ⟨some 125, some (123, false), .load1 (.t 124)⟩, ⟨some 126, some (123, false), .idxAddrA 2 1 (.t 3) (.c (.int .i64 1))⟩, ⟨some 127, some (123, false), .load1 (.t 126)⟩, ⟨some 128, some (123, false), .bin .num .neq (.t 125) (.t 127)⟩, ⟨some 129, some (123, false), .mov (.t 128)⟩, ⟨some 130, some (129, true), .mov (.t 9)⟩, ⟨some 131, some (129, true), .mov (.t 13)⟩, ⟨some 132, some (129, true), .bin .num .add (.t 130) (.t 131)⟩, ⟨some 133, some (129, true), .bin .num .eql (.t 132) (.c (.int .i64 1))⟩, ⟨some 134, some (123, false), .pick (.t 129) (.t 133) (.c (.bool false))⟩, ⟨some 135, none, .pick (.t 123) (.c (.bool true)) (.t 134)⟩, ⟨some 6, none, .mov (.t 135)⟩]) <|
  .ret
def v6 : VFunc := ⟨136, [.tmp 6], c6⟩
/-- berthing/berthinglaw14.first -/
def c7 : VCode :=
  .seq (.ops [⟨some 0, none, .mov (.c (.bool false))⟩]) <|
  .seq (.ops [⟨some 17, none, .buildSlice true 1 2 [(.int .u8 0), (.int .u8 0)] [(0, 1, (.c (.int .u8 97))), (1, 1, (.c (.int .u8 98)))]⟩, ⟨some 18, none, .freeze (.t 17)⟩, ⟨some 19, none, .call .pure 12 [(.c (.int .i64 5)), (.t 18)]⟩, ⟨some 1, none, .mov (.t 19)⟩]) <|
  .seq (.ops [⟨some 20, none, .call .pure 12 [(.c (.int .i64 6)), (.c (.sl .nil 0 []))]⟩, ⟨some 2, none, .mov (.t 20)⟩]) <|
  .seq (.ops [⟨some 22, none, .buildSlice false 1 0 [] []⟩, ⟨some 23, none, .mov (.t 1)⟩, ⟨some 24, none, .append false false 1 1 (.t 22) (.t 23)⟩, ⟨some 25, none, .buildSlice false 1 2 [(.int .u8 0), (.int .u8 0)] [(0, 1, (.c (.int .u8 1))), (1, 1, (.c (.int .u8 2)))]⟩, ⟨some 26, none, .append false false 1 1 (.t 24) (.t 25)⟩, ⟨some 27, none, .call .pure 8 [(.t 26)]⟩, ⟨some 21, none, .mov (.t 27)⟩, ⟨some 28, none, .extract 0 (.t 21)⟩, ⟨some 29, none, .extract 1 (.t 21)⟩, ⟨some 30, none, .extract 2 (.t 21)⟩, ⟨some 3, none, .mov (.t 28)⟩, ⟨some 4, none, .mov (.t 29)⟩, ⟨some 5, none, .mov (.t 30)⟩]) <|
  .seq (.ops [⟨some 32, none, .mov (.t 1)⟩, ⟨some 33, none, .mov (.t 1)⟩, ⟨some 34, none, .lenS (.t 33)⟩, ⟨some 35, none, .minmax false [(.c (.int .i64 21)), (.t 34)]⟩, ⟨some 36, none, .sliceS 1 (.t 32) none (some (.t 35)) none⟩, ⟨some 37, none, .call .pure 8 [(.t 36)]⟩, ⟨some 31, none, .mov (.t 37)⟩, ⟨some 38, none, .extract 0 (.t 31)⟩, ⟨some 39, none, .extract 1 (.t 31)⟩, ⟨some 40, none, .extract 2 (.t 31)⟩, ⟨some 6, none, .mov (.t 38)⟩, ⟨some 7, none, .mov (.t 39)⟩, ⟨some 8, none, .mov (.t 40)⟩]) <|
  .seq (.ops [⟨some 42, none, .mov (.t 1)⟩, ⟨some 43, none, .mov (.t 2)⟩, ⟨some 44, none, .call .pure 10 [(.t 42), (.t 43)]⟩, ⟨some 41, none, .mov (.t 44)⟩, ⟨some 45, none, .extract 0 (.t 41)⟩, ⟨some 46, none, .extract 1 (.t 41)⟩, ⟨some 47, none, .extract 2 (.t 41)⟩, ⟨some 48, none, .extract 3 (.t 41)⟩, ⟨some 9, none, .mov (.t 45)⟩, ⟨some 10, none, .mov (.t 46)⟩, ⟨some 11, none, .mov (.t 47)⟩, ⟨some 12, none, .mov (.t 48)⟩]) <|
  .seq (.ops [⟨some 50, none, .mov (.t 1)⟩, ⟨some 51, none, .mov (.t 1)⟩, ⟨some 52, none, .lenS (.t 51)⟩, ⟨some 53, none, .minmax false [(.c (.int .i64 1)), (.t 52)]⟩, ⟨some 54, none, .sliceS 1 (.t 50) (some (.t 53)) none none⟩, ⟨some 55, none, .call .pure 10 [(.c (.sl .nil 0 [])), (.t 54)]⟩, ⟨some 49, none, .mov (.t 55)⟩, ⟨some 56, none, .extract 0 (.t 49)⟩, ⟨some 57, none, .extract 1 (.t 49)⟩, ⟨some 58, none, .extract 2 (.t 49)⟩, ⟨some 59, none, .extract 3 (.t 49)⟩, ⟨some 13, none, .mov (.t 56)⟩, ⟨some 14, none, .mov (.t 57)⟩, ⟨some 15, none, .mov (.t 58)⟩, ⟨some 16, none, .mov (.t 59)⟩]) <|
  .seq (.ops [⟨some 60, none, .mov (.t 2)⟩, ⟨some 61, none, .lenS (.t 60)⟩, ⟨some 62, none, .bin .num .eql (.t 61) (.c (.int .i64 20))⟩, ⟨some 63, none, .mov (.t 62)⟩, ⟨some 64, some (63, true), .mov (.t 3)⟩, ⟨some 65, some (63, true), .bin .num .eql (.t 64) (.c (.int .i64 5))⟩, ⟨some 66, none, .pick (.t 63) (.t 65) (.c (.bool false))⟩, ⟨some 67, none, .mov (.t 66)⟩, ⟨some 68, some (67, true), .mov (.t 4)⟩, ⟨some 69, some (67, true), .strOfP (.t 68)⟩, ⟨some 70, some (67, true), .bin .num .eql (.t 69) (.c (.str ⟨#[97, 98]⟩))⟩, ⟨some 71, none, .pick (.t 67) (.t 70) (.c (.bool false))⟩, ⟨some 72, none, .mov (.t 71)⟩, ⟨some 73, some (72, true), .mov (.t 5)⟩, ⟨some 74, some (72, true), .bin .num .eql (.t 73) (.c (.int .i64 0))⟩, ⟨some 75, none, .pick (.t 72) (.t 74) (.c (.bool false))⟩, ⟨some 76, none, .mov (.t 75)⟩, ⟨some 77, some (76, true), .mov (.t 8)⟩, ⟨some 78, some (76, true), .bin .num .eql (.t 77) (.c (.int .i64 10))⟩, ⟨some 79, none, .pick (.t 76) (.t 78) (.c (.bool false))⟩, ⟨some 80, none, .mov (.t 79)⟩, ⟨some 81, some (80, true), .mov (.t 9)⟩, ⟨some 82, some (80, true), .bin .num .eql (.t 81) (.c (.int .i64 1))⟩, ⟨some 83, none, .pick (.t 80) (.t 82) (.c (.bool false))⟩, ⟨some 84, none, .mov (.t 83)⟩, ⟨some 85, some (84, true), .mov (.t 10)⟩, ⟨some 86, some (84, true), .bin .num .eql (.t 85) (.c (.int .i64 6))⟩, ⟨some 87, none, .pick (.t 84) (.t 86) (.c (.bool false))⟩, ⟨some 88, none, .mov (.t 87)⟩, ⟨some 89, some (88, true), .mov (.t 11)⟩, ⟨some 90, some (88, true), .lenS (.t 89)⟩, ⟨some 91, some (88, true), .bin .num .eql (.t 90) (.c (.int .i64 0))⟩, ⟨some 92, none, .pick (.t 88) (.t 91) (.c (.bool false))⟩, ⟨some 93, none, .mov (.t 92)⟩, ⟨some 94, some (93, true), .mov (.t 12)⟩, ⟨some 95, none, .pick (.t 93) (.t 94) (.c (.bool false))⟩, ⟨some 96, none, .mov (.t 95)⟩, ⟨some 97, some (96, true), .mov (.t 16)⟩, ⟨some 98, some (96, true), .un .not (.t 97)⟩, ⟨some 99, none, .pick (.t 96) (.t 98) (.c (.bool false))⟩, ⟨some 100, none, .mov (.t 99)⟩, ⟨some 101, some (100, true), .call .pure 14 [(.c (.int .i64 2))]⟩, ⟨some 102, some (100, true), .bin .num .eql (.t 101) (.c (.int .i64 22))⟩, ⟨some 103, none, .pick (.t 100) (.t 102) (.c (.bool false))⟩, ⟨some 104, none, .mov (.t 103)⟩, ⟨some 105, some (104, true), .mov (.t 2)⟩, ⟨some 106, some (104, true), .mov (.t 1)⟩, ⟨some 107, some (104, true), .call .pure 15 [(.t 105), (.t 106), (.c (.int .i64 3))]⟩, ⟨some 108, some (104, true), .strOfP (.t 107)⟩, ⟨some 109, some (104, true), .mov (.t 2)⟩, ⟨some 110, some (104, true), .strOfP (.t 109)⟩, ⟨some 111, some (104, true), .bin .num .eql (.t 108) (.t 110)⟩, ⟨some 112, none, .pick (.t 104) (.t 111) (.c (.bool false))⟩, ⟨some 113, none, .mov (.t 112)⟩, ⟨some 114, some (113, true), .mov (.t 2)⟩, ⟨some 115, some (113, true), .mov (.t 1)⟩, ⟨some 116, some (113, true), .call .pure 16 [(.t 114), (.t 115), (.c (.int .i64 3))]⟩, ⟨some 117, some (113, true), .un .not (.t 116)⟩, ⟨some 118, none, .pick (.t 113) (.t 117) (.c (.bool false))⟩, ⟨some 0, none, .mov (.t 118)⟩]) <|
  .ret
def v7 : VFunc := ⟨119, [.tmp 0], c7⟩
/-- berthing/slot.Get -/
def c8 : VCode :=
  .seq (.ops [⟨some 2, none, .mov (.c (.int .i64 0))⟩, ⟨some 3, none, .mov (.c (.sl .nil 0 []))⟩, ⟨some 4, none, .mov (.c (.int .i64 0))⟩]) <|
  .seq (.block 0 (.seq (.ops [⟨some 9, none, .mov (.t 0)⟩, ⟨some 10, none, .lenS (.t 9)⟩, ⟨some 11, none, .bin .num .lss (.t 10) (.c (.int .i64 4))⟩, ⟨some 8, none, .mov (.t 11)⟩]) <|
   .cond (.t 8) (.seq (.ops [⟨some 2, none, .mov (.c (.int .i64 0))⟩, ⟨some 3, none, .mov (.c (.sl .nil 0 []))⟩, ⟨some 4, none, .mov (.c (.int .i64 10))⟩]) <|
    .ret) (.seq (.ops [⟨some 13, none, .mov (.t 0)⟩, ⟨some 14, none, .sliceS 1 (.t 13) none (some (.c (.int .i64 4))) none⟩, ⟨some 15, none, .strOfP (.t 14)⟩, ⟨some 16, none, .bin .num .neq (.t 15) (.c (.str ⟨#[66, 82, 84, 72]⟩))⟩, ⟨some 12, none, .mov (.t 16)⟩]) <|
    .cond (.t 12) (.seq (.ops [⟨some 2, none, .mov (.c (.int .i64 0))⟩, ⟨some 3, none, .mov (.c (.sl .nil 0 []))⟩, ⟨some 4, none, .mov (.c (.int .i64 11))⟩]) <|
     .ret) (.seq (.ops [⟨some 18, none, .mov (.t 0)⟩, ⟨some 19, none, .lenS (.t 18)⟩, ⟨some 20, none, .bin .num .lss (.t 19) (.c (.int .i64 16))⟩, ⟨some 17, none, .mov (.t 20)⟩]) <|
     .cond (.t 17) (.seq (.ops [⟨some 2, none, .mov (.c (.int .i64 0))⟩, ⟨some 3, none, .mov (.c (.sl .nil 0 []))⟩, ⟨some 4, none, .mov (.c (.int .i64 10))⟩]) <|
      .ret) (.skip))))) <|
  .seq (.ops [⟨some 21, none, .mov (.t 0)⟩, ⟨some 22, none, .sliceS 1 (.t 21) (some (.c (.int .i64 4))) (some (.c (.int .i64 12))) none⟩, ⟨some 23, none, .call .pure 17 [(.t 22)]⟩, ⟨some 24, none, .mov (.t 0)⟩, ⟨some 25, none, .sliceS 1 (.t 24) (some (.c (.int .i64 12))) (some (.c (.int .i64 16))) none⟩, ⟨some 26, none, .call .pure 17 [(.t 25)]⟩, ⟨some 5, none, .mov (.t 23)⟩, ⟨some 6, none, .mov (.t 26)⟩]) <|
  .seq (.block 1 (.seq (.ops [⟨some 28, none, .mov (.t 5)⟩, ⟨some 29, none, .bin .num .lss (.t 28) (.c (.int .u64 1))⟩, ⟨some 30, none, .mov (.t 29)⟩, ⟨some 31, some (30, false), .mov (.t 5)⟩, ⟨some 32, some (30, false), .bin .num .gtr (.t 31) (.c (.int .u64 1152921504606846976))⟩, ⟨some 33, none, .pick (.t 30) (.c (.bool true)) (.t 32)⟩, ⟨some 27, none, .mov (.t 33)⟩]) <|
   .cond (.t 27) (.seq (.ops [⟨some 2, none, .mov (.c (.int .i64 0))⟩, ⟨some 3, none, .mov (.c (.sl .nil 0 []))⟩, ⟨some 4, none, .mov (.c (.int .i64 11))⟩]) <|
    .ret) (.seq (.ops [⟨some 35, none, .mov (.t 6)⟩, ⟨some 36, none, .bin .num .gtr (.t 35) (.c (.int .u64 65536))⟩, ⟨some 34, none, .mov (.t 36)⟩]) <|
    .cond (.t 34) (.seq (.ops [⟨some 2, none, .mov (.c (.int .i64 0))⟩, ⟨some 3, none, .mov (.c (.sl .nil 0 []))⟩, ⟨some 4, none, .mov (.c (.int .i64 15))⟩]) <|
     .ret) (.seq (.ops [⟨some 38, none, .mov (.t 0)⟩, ⟨some 39, none, .lenS (.t 38)⟩, ⟨some 40, none, .mov (.t 6)⟩, ⟨some 41, none, .conv .i64 (.t 40)⟩, ⟨some 42, none, .call .pure 14 [(.t 41)]⟩, ⟨some 43, none, .bin .num .lss (.t 39) (.t 42)⟩, ⟨some 37, none, .mov (.t 43)⟩]) <|
     .cond (.t 37) (.seq (.ops [⟨some 2, none, .mov (.c (.int .i64 0))⟩, ⟨some 3, none, .mov (.c (.sl .nil 0 []))⟩, ⟨some 4, none, .mov (.c (.int .i64 10))⟩]) <|
      .ret) (.skip))))) <|
  .seq (.ops [⟨some 44, none, .mov (.t 6)⟩, ⟨some 45, none, .conv .i64 (.t 44)⟩, ⟨some 46, none, .bin .num .add (.c (.int .i64 16)) (.t 45)⟩, ⟨some 7, none, .mov (.t 46)⟩]) <|
  .seq (.seq (.ops [⟨some 47, none, .mov (.t 0)⟩, ⟨some 48, none, .mov (.t 7)⟩, ⟨some 49, none, .mov (.t 7)⟩, ⟨some 50, none, .bin .num .add (.t 49) (.c (.int .i64 4))⟩, ⟨some 51, none, .sliceS 1 (.t 47) (some (.t 48)) (some (.t 50)) none⟩, ⟨some 52, none, .toArr 4 (.t 51)⟩, ⟨some 53, none, .loadN 4 (.t 52)⟩, ⟨some 54, none, .call .pure 18 [(.t 53)]⟩, ⟨some 55, none, .mov (.t 0)⟩, ⟨some 56, none, .mov (.t 7)⟩, ⟨some 57, none, .sliceS 1 (.t 55) none (some (.t 56)) none⟩, ⟨some 58, none, .buildSlice false 1 1 [(.sl .nil 0 [])] [(0, 1, (.t 57))]⟩, ⟨some 59, none, .call .pure 19 [(.t 58)]⟩, ⟨some 60, none, .bin .num .neq (.t 54) (.t 59)⟩]) <|
  .cond (.t 60) (.seq (.ops [⟨some 2, none, .mov (.c (.int .i64 0))⟩, ⟨some 3, none, .mov (.c (.sl .nil 0 []))⟩, ⟨some 4, none, .mov (.c (.int .i64 14))⟩]) <|
   .ret) (.skip)) <|
  .seq (.ops [⟨some 61, none, .mov (.t 5)⟩, ⟨some 62, none, .conv .i64 (.t 61)⟩, ⟨some 63, none, .mov (.t 0)⟩, ⟨some 64, none, .mov (.t 7)⟩, ⟨some 65, none, .sliceS 1 (.t 63) (some (.c (.int .i64 16))) (some (.t 64)) none⟩, ⟨some 66, none, .call .pure 20 [(.t 65)]⟩, ⟨some 2, none, .mov (.t 62)⟩, ⟨some 3, none, .mov (.t 66)⟩, ⟨some 4, none, .mov (.c (.int .i64 0))⟩]) <|
  .ret
def v8 : VFunc := ⟨67, [.tmp 2, .tmp 3, .tmp 4], c8⟩
/-- berthing/berthingref14.Get -/
def c9 : VCode :=
  .seq (.ops [⟨some 2, none, .mov (.c (.int .i64 0))⟩, ⟨some 3, none, .mov (.c (.str ⟨#[]⟩))⟩, ⟨some 4, none, .mov (.c (.int .i64 0))⟩]) <|
  .seq (.seq (.ops [⟨some 8, none, .mov (.t 0)⟩, ⟨some 9, none, .lenStr (.t 8)⟩, ⟨some 10, none, .bin .num .lss (.t 9) (.c (.int .i64 4))⟩]) <|
  .cond (.t 10) (.seq (.ops [⟨some 2, none, .mov (.c (.int .i64 0))⟩, ⟨some 3, none, .mov (.c (.str ⟨#[]⟩))⟩, ⟨some 4, none, .mov (.c (.int .i64 10))⟩]) <|
   .ret) (.skip)) <|
  .seq (.seq (.ops [⟨some 11, none, .mov (.t 0)⟩, ⟨some 12, none, .sliceStr (.t 11) none (some (.c (.int .i64 4)))⟩, ⟨some 13, none, .bin .num .neq (.t 12) (.c (.str ⟨#[66, 82, 84, 72]⟩))⟩]) <|
  .cond (.t 13) (.seq (.ops [⟨some 2, none, .mov (.c (.int .i64 0))⟩, ⟨some 3, none, .mov (.c (.str ⟨#[]⟩))⟩, ⟨some 4, none, .mov (.c (.int .i64 11))⟩]) <|
   .ret) (.skip)) <|
  .seq (.seq (.ops [⟨some 14, none, .mov (.t 0)⟩, ⟨some 15, none, .lenStr (.t 14)⟩, ⟨some 16, none, .bin .num .lss (.t 15) (.c (.int .i64 16))⟩]) <|
  .cond (.t 16) (.seq (.ops [⟨some 2, none, .mov (.c (.int .i64 0))⟩, ⟨some 3, none, .mov (.c (.str ⟨#[]⟩))⟩, ⟨some 4, none, .mov (.c (.int .i64 10))⟩]) <|
   .ret) (.skip)) <|
  .seq (.ops [⟨some 17, none, .mov (.t 0)⟩, ⟨some 18, none, .sliceStr (.t 17) (some (.c (.int .i64 4))) (some (.c (.int .i64 12)))⟩, ⟨some 19, none, .call .pure 21 [(.t 18)]⟩, ⟨some 20, none, .mov (.t 0)⟩, ⟨some 21, none, .sliceStr (.t 20) (some (.c (.int .i64 12))) (some (.c (.int .i64 16)))⟩, ⟨some 22, none, .call .pure 21 [(.t 21)]⟩, ⟨some 5, none, .mov (.t 19)⟩, ⟨some 6, none, .mov (.t 22)⟩]) <|
  .seq (.seq (.ops [⟨some 23, none, .mov (.t 5)⟩, ⟨some 24, none, .bin .num .eql (.t 23) (.c (.int .u64 0))⟩, ⟨some 25, none, .mov (.t 24)⟩, ⟨some 26, some (25, false), .mov (.t 5)⟩, ⟨some 27, some (25, false), .bin .num .gtr (.t 26) (.c (.int .u64 1152921504606846976))⟩, ⟨some 28, none, .pick (.t 25) (.c (.bool true)) (.t 27)⟩]) <|
  .cond (.t 28) (.seq (.ops [⟨some 2, none, .mov (.c (.int .i64 0))⟩, ⟨some 3, none, .mov (.c (.str ⟨#[]⟩))⟩, ⟨some 4, none, .mov (.c (.int .i64 11))⟩]) <|
   .ret) (.skip)) <|
  .seq (.seq (.ops [⟨some 29, none, .mov (.t 6)⟩, ⟨some 30, none, .bin .num .gtr (.t 29) (.c (.int .u64 65536))⟩]) <|
  .cond (.t 30) (.seq (.ops [⟨some 2, none, .mov (.c (.int .i64 0))⟩, ⟨some 3, none, .mov (.c (.str ⟨#[]⟩))⟩, ⟨some 4, none, .mov (.c (.int .i64 15))⟩]) <|
   .ret) (.skip)) <|
  .seq (.seq (.ops [⟨some 31, none, .mov (.t 0)⟩, ⟨some 32, none, .lenStr (.t 31)⟩, ⟨some 33, none, .conv .u64 (.t 32)⟩, ⟨some 34, none, .mov (.t 6)⟩, ⟨some 35, none, .bin .num .add (.t 34) (.c (.int .u64 20))⟩, ⟨some 36, none, .bin .num .lss (.t 33) (.t 35)⟩]) <|
  .cond (.t 36) (.seq (.ops [⟨some 2, none, .mov (.c (.int .i64 0))⟩, ⟨some 3, none, .mov (.c (.str ⟨#[]⟩))⟩, ⟨some 4, none, .mov (.c (.int .i64 10))⟩]) <|
   .ret) (.skip)) <|
  .seq (.ops [⟨some 37, none, .mov (.t 0)⟩, ⟨some 38, none, .mov (.t 6)⟩, ⟨some 39, none, .conv .i64 (.t 38)⟩, ⟨some 40, none, .bin .num .add (.c (.int .i64 16)) (.t 39)⟩, ⟨some 41, none, .sliceStr (.t 37) (some (.c (.int .i64 16))) (some (.t 40))⟩, ⟨some 7, none, .mov (.t 41)⟩]) <|
  .seq (.seq (.ops [⟨some 42, none, .mov (.t 5)⟩, ⟨some 43, none, .conv .i64 (.t 42)⟩, ⟨some 44, none, .mov (.t 7)⟩, ⟨some 45, none, .call .pure 11 [(.t 43), (.t 44)]⟩, ⟨some 46, none, .mov (.t 0)⟩, ⟨some 47, none, .mov (.t 6)⟩, ⟨some 48, none, .conv .i64 (.t 47)⟩, ⟨some 49, none, .bin .num .add (.c (.int .i64 20)) (.t 48)⟩, ⟨some 50, none, .sliceStr (.t 46) none (some (.t 49))⟩, ⟨some 51, none, .bin .num .neq (.t 45) (.t 50)⟩]) <|
  .cond (.t 51) (.seq (.ops [⟨some 2, none, .mov (.c (.int .i64 0))⟩, ⟨some 3, none, .mov (.c (.str ⟨#[]⟩))⟩, ⟨some 4, none, .mov (.c (.int .i64 14))⟩]) <|
   .ret) (.skip)) <|
  .seq (.ops [⟨some 52, none, .mov (.t 5)⟩, ⟨some 53, none, .conv .i64 (.t 52)⟩, ⟨some 54, none, .mov (.t 7)⟩, ⟨some 2, none, .mov (.t 53)⟩, ⟨some 3, none, .mov (.t 54)⟩, ⟨some 4, none, .mov (.c (.int .i64 0))⟩]) <|
  .ret
def v9 : VFunc := ⟨55, [.tmp 2, .tmp 3, .tmp 4], c9⟩
/-- berthing/slot.Pick -/
def c10 : VCode :=
  .seq (.ops [⟨some 4, none, .mov (.c (.int .i64 0))⟩, ⟨some 5, none, .mov (.c (.int .i64 0))⟩, ⟨some 6, none, .mov (.c (.sl .nil 0 []))⟩, ⟨some 7, none, .mov (.c (.bool false))⟩]) <|
  .seq (.ops [⟨some 15, none, .mov (.t 0)⟩, ⟨some 16, none, .call .pure 8 [(.t 15)]⟩, ⟨some 14, none, .mov (.t 16)⟩, ⟨some 17, none, .extract 0 (.t 14)⟩, ⟨some 18, none, .extract 1 (.t 14)⟩, ⟨some 19, none, .extract 2 (.t 14)⟩, ⟨some 8, none, .mov (.t 17)⟩, ⟨some 9, none, .mov (.t 18)⟩, ⟨some 10, none, .mov (.t 19)⟩]) <|
  .seq (.ops [⟨some 21, none, .mov (.t 1)⟩, ⟨some 22, none, .call .pure 8 [(.t 21)]⟩, ⟨some 20, none, .mov (.t 22)⟩, ⟨some 23, none, .extract 0 (.t 20)⟩, ⟨some 24, none, .extract 1 (.t 20)⟩, ⟨some 25, none, .extract 2 (.t 20)⟩, ⟨some 11, none, .mov (.t 23)⟩, ⟨some 12, none, .mov (.t 24)⟩, ⟨some 13, none, .mov (.t 25)⟩]) <|
  .seq (.block 0 (.seq (.ops [⟨some 27, none, .mov (.t 10)⟩, ⟨some 28, none, .bin .num .eql (.t 27) (.c (.int .i64 0))⟩, ⟨some 29, none, .mov (.t 28)⟩, ⟨some 30, some (29, true), .mov (.t 13)⟩, ⟨some 31, some (29, true), .bin .num .neq (.t 30) (.c (.int .i64 0))⟩, ⟨some 32, some (29, true), .mov (.t 31)⟩, ⟨some 33, some (32, false), .mov (.t 8)⟩, ⟨some 34, some (32, false), .mov (.t 11)⟩, ⟨some 35, some (32, false), .bin .num .geq (.t 33) (.t 34)⟩, ⟨some 36, some (29, true), .pick (.t 32) (.c (.bool true)) (.t 35)⟩, ⟨some 37, none, .pick (.t 29) (.t 36) (.c (.bool false))⟩, ⟨some 26, none, .mov (.t 37)⟩]) <|
   .cond (.t 26) (.seq (.ops [⟨some 38, none, .mov (.t 8)⟩, ⟨some 39, none, .mov (.t 9)⟩, ⟨some 4, none, .mov (.c (.int .i64 0))⟩, ⟨some 5, none, .mov (.t 38)⟩, ⟨some 6, none, .mov (.t 39)⟩, ⟨some 7, none, .mov (.c (.bool true))⟩]) <|
    .ret) (.seq (.ops [⟨some 41, none, .mov (.t 13)⟩, ⟨some 42, none, .bin .num .eql (.t 41) (.c (.int .i64 0))⟩, ⟨some 40, none, .mov (.t 42)⟩]) <|
    .cond (.t 40) (.seq (.ops [⟨some 43, none, .mov (.t 11)⟩, ⟨some 44, none, .mov (.t 12)⟩, ⟨some 4, none, .mov (.c (.int .i64 1))⟩, ⟨some 5, none, .mov (.t 43)⟩, ⟨some 6, none, .mov (.t 44)⟩, ⟨some 7, none, .mov (.c (.bool true))⟩]) <|
     .ret) (.skip)))) <|
  .seq (.ops [⟨some 4, none, .mov (.c (.int .i64 0))⟩, ⟨some 5, none, .mov (.c (.int .i64 0))⟩, ⟨some 6, none, .mov (.c (.sl .nil 0 []))⟩, ⟨some 7, none, .mov (.c (.bool false))⟩]) <|
  .ret
def v10 : VFunc := ⟨45, [.tmp 4, .tmp 5, .tmp 6, .tmp 7], c10⟩
/-- berthing/berthingref14.Put -/
def c11 : VCode :=
  .seq (.ops [⟨some 4, none, .mov (.c (.str ⟨#[]⟩))⟩]) <|
  .seq (.ops [⟨some 6, none, .mov (.t 0)⟩, ⟨some 7, none, .conv .u64 (.t 6)⟩, ⟨some 8, none, .call .pure 22 [(.t 7), (.c (.int .i64 8))]⟩, ⟨some 9, none, .bin .num .add (.c (.str ⟨#[66, 82, 84, 72]⟩)) (.t 8)⟩, ⟨some 10, none, .mov (.t 1)⟩, ⟨some 11, none, .lenStr (.t 10)⟩, ⟨some 12, none, .conv .u64 (.t 11)⟩, ⟨some 13, none, .call .pure 22 [(.t 12), (.c (.int .i64 4))]⟩, ⟨some 14, none, .bin .num .add (.t 9) (.t 13)⟩, ⟨some 15, none, .mov (.t 1)⟩, ⟨some 16, none, .bin .num .add (.t 14) (.t 15)⟩, ⟨some 5, none, .mov (.t 16)⟩]) <|
  .seq (.ops [⟨some 17, none, .mov (.t 5)⟩, ⟨some 18, none, .mov (.t 5)⟩, ⟨some 19, none, .call .pure 24 [(.t 18)]⟩, ⟨some 20, none, .call .pure 23 [(.t 19)]⟩, ⟨some 21, none, .bin .num .add (.t 17) (.t 20)⟩, ⟨some 4, none, .mov (.t 21)⟩]) <|
  .ret
def v11 : VFunc := ⟨22, [.tmp 4], c11⟩
/-- berthing/slot.Put -/
def c12 : VCode :=
  .seq (.ops [⟨some 4, none, .mov (.c (.sl .nil 0 []))⟩]) <|
  .seq (.seq (.ops [⟨some 7, none, .mov (.t 0)⟩, ⟨some 8, none, .bin .num .lss (.t 7) (.c (.int .i64 1))⟩, ⟨some 9, none, .mov (.t 8)⟩, ⟨some 10, some (9, false), .mov (.t 0)⟩, ⟨some 11, some (9, false), .bin .num .gtr (.t 10) (.c (.int .i64 1152921504606846976))⟩, ⟨some 12, none, .pick (.t 9) (.c (.bool true)) (.t 11)⟩, ⟨some 13, none, .mov (.t 12)⟩, ⟨some 14, some (13, false), .mov (.t 1)⟩, ⟨some 15, some (13, false), .lenS (.t 14)⟩, ⟨some 16, some (13, false), .bin .num .gtr (.t 15) (.c (.int .i64 65536))⟩, ⟨some 17, none, .pick (.t 13) (.c (.bool true)) (.t 16)⟩]) <|
  .cond (.t 17) (.seq (.ops [⟨some 4, none, .mov (.c (.sl .nil 0 []))⟩]) <|
   .ret) (.skip)) <|
  .seq (.ops [⟨some 18, none, .buildSlice true 1 4 [(.int .u8 0), (.int .u8 0), (.int .u8 0), (.int .u8 0)] [(0, 1, (.c (.int .u8 66))), (1, 1, (.c (.int .u8 82))), (2, 1, (.c (.int .u8 84))), (3, 1, (.c (.int .u8 72)))]⟩, ⟨some 19, none, .freeze (.t 18)⟩, ⟨some 20, none, .mov (.t 0)⟩, ⟨some 21, none, .conv .u64 (.t 20)⟩, ⟨some 22, none, .call .pure 26 [(.t 21), (.c (.int .i64 8))]⟩, ⟨some 23, none, .mov (.t 1)⟩, ⟨some 24, none, .lenS (.t 23)⟩, ⟨some 25, none, .conv .u64 (.t 24)⟩, ⟨some 26, none, .call .pure 26 [(.t 25), (.c (.int .i64 4))]⟩, ⟨some 27, none, .mov (.t 1)⟩, ⟨some 28, none, .buildSlice false 1 4 [(.sl .nil 0 []), (.sl .nil 0 []), (.sl .nil 0 []), (.sl .nil 0 [])] [(0, 1, (.t 19)), (1, 1, (.t 22)), (2, 1, (.t 26)), (3, 1, (.t 27))]⟩, ⟨some 29, none, .call .own 25 [(.t 28)]⟩, ⟨some 5, none, .mov (.t 29)⟩]) <|
  .seq (.ops [⟨some 30, none, .mov (.t 5)⟩, ⟨some 31, none, .buildSlice false 1 1 [(.sl .nil 0 [])] [(0, 1, (.t 30))]⟩, ⟨some 32, none, .call .pure 19 [(.t 31)]⟩, ⟨some 33, none, .call .pure 27 [(.t 32)]⟩, ⟨some 6, none, .alloc [(.int .u8 0), (.int .u8 0), (.int .u8 0), (.int .u8 0)]⟩, ⟨none, none, .storeN 4 (.t 6) (.t 33)⟩]) <|
  .seq (.ops [⟨some 34, none, .mov (.t 5)⟩, ⟨some 35, none, .sliceA 4 1 (.t 6) none none⟩, ⟨some 36, none, .append false false 1 1 (.t 34) (.t 35)⟩, ⟨some 4, none, .mov (.t 36)⟩]) <|
  .ret
def v12 : VFunc := ⟨37, [.tmp 4], c12⟩
/-- berthing/berthingref14.Torn -/
def c13 : VCode :=
  .seq (.ops [⟨some 6, none, .mov (.c (.str ⟨#[]⟩))⟩]) <|
  .seq (.seq (.ops [⟨some 7, none, .mov (.t 2)⟩, ⟨some 8, none, .mov (.t 1)⟩, ⟨some 9, none, .lenStr (.t 8)⟩, ⟨some 10, none, .bin .num .gtr (.t 7) (.t 9)⟩]) <|
  .cond (.t 10) (.ops [⟨some 11, none, .mov (.t 1)⟩, ⟨some 12, none, .lenStr (.t 11)⟩, ⟨some 2, none, .mov (.t 12)⟩]) (.skip)) <|
  .seq (.seq (.ops [⟨some 13, none, .mov (.t 2)⟩, ⟨some 14, none, .mov (.t 0)⟩, ⟨some 15, none, .lenStr (.t 14)⟩, ⟨some 16, none, .bin .num .gtr (.t 13) (.t 15)⟩]) <|
  .cond (.t 16) (.ops [⟨some 17, none, .mov (.t 0)⟩, ⟨some 18, none, .lenStr (.t 17)⟩, ⟨some 2, none, .mov (.t 18)⟩]) (.skip)) <|
  .seq (.seq (.ops [⟨some 19, none, .mov (.t 2)⟩, ⟨some 20, none, .bin .num .lss (.t 19) (.c (.int .i64 0))⟩]) <|
  .cond (.t 20) (.ops [⟨some 2, none, .mov (.c (.int .i64 0))⟩]) (.skip)) <|
  .seq (.ops [⟨some 21, none, .mov (.t 1)⟩, ⟨some 22, none, .mov (.t 2)⟩, ⟨some 23, none, .sliceStr (.t 21) none (some (.t 22))⟩, ⟨some 24, none, .mov (.t 0)⟩, ⟨some 25, none, .mov (.t 2)⟩, ⟨some 26, none, .sliceStr (.t 24) (some (.t 25)) none⟩, ⟨some 27, none, .bin .num .add (.t 23) (.t 26)⟩, ⟨some 6, none, .mov (.t 27)⟩]) <|
  .ret
def v13 : VFunc := ⟨28, [.tmp 6], c13⟩
/-- berthing/slot.Size -/
def c14 : VCode :=
  .seq (.ops [⟨some 2, none, .mov (.c (.int .i64 0))⟩]) <|
  .seq (.seq (.ops [⟨some 3, none, .mov (.t 0)⟩, ⟨some 4, none, .bin .num .lss (.t 3) (.c (.int .i64 0))⟩, ⟨some 5, none, .mov (.t 4)⟩, ⟨some 6, some (5, false), .mov (.t 0)⟩, ⟨some 7, some (5, false), .bin .num .gtr (.t 6) (.c (.int .i64 65536))⟩, ⟨some 8, none, .pick (.t 5) (.c (.bool true)) (.t 7)⟩]) <|
  .cond (.t 8) (.seq (.ops [⟨some 2, none, .mov (.c (.int .i64 0))⟩]) <|
   .ret) (.skip)) <|
  .seq (.ops [⟨some 9, none, .mov (.t 0)⟩, ⟨some 10, none, .bin .num .add (.c (.int .i64 16)) (.t 9)⟩, ⟨some 11, none, .bin .num .add (.t 10) (.c (.int .i64 4))⟩, ⟨some 2, none, .mov (.t 11)⟩]) <|
  .ret
def v14 : VFunc := ⟨12, [.tmp 2], c14⟩
/-- berthing/slot.Torn -/
def c15 : VCode :=
  .seq (.ops [⟨some 6, none, .mov (.c (.sl .nil 0 []))⟩]) <|
  .seq (.ops [⟨some 8, none, .mov (.t 0)⟩, ⟨some 9, none, .call .thaw 20 [(.t 8)]⟩, ⟨some 7, none, .mov (.t 9)⟩]) <|
  .seq (.ops [⟨some 10, none, .mov (.t 7)⟩, ⟨some 11, none, .mov (.t 1)⟩, ⟨some 12, none, .mov (.t 2)⟩, ⟨some 13, none, .mov (.t 1)⟩, ⟨some 14, none, .lenS (.t 13)⟩, ⟨some 15, none, .minmax false [(.t 12), (.t 14)]⟩, ⟨some 16, none, .minmax true [(.c (.int .i64 0)), (.t 15)]⟩, ⟨some 17, none, .sliceS 1 (.t 11) none (some (.t 16)) none⟩, ⟨some 18, none, .copy false 1 (.t 10) (.t 17)⟩]) <|
  .seq (.ops [⟨some 19, none, .mov (.t 7)⟩, ⟨some 6, none, .mov (.t 19)⟩]) <|
  .ret
def v15 : VFunc := ⟨20, [.tmp 6], c15⟩
/-- berthing/slot.Met -/
def c16 : VCode :=
  .seq (.ops [⟨some 6, none, .mov (.c (.bool false))⟩]) <|
  .seq (.ops [⟨some 15, none, .mov (.t 0)⟩, ⟨some 16, none, .mov (.t 1)⟩, ⟨some 17, none, .mov (.t 2)⟩, ⟨some 18, none, .call .pure 15 [(.t 15), (.t 16), (.t 17)]⟩, ⟨some 19, none, .call .pure 8 [(.t 18)]⟩, ⟨some 14, none, .mov (.t 19)⟩, ⟨some 20, none, .extract 0 (.t 14)⟩, ⟨some 21, none, .extract 1 (.t 14)⟩, ⟨some 22, none, .extract 2 (.t 14)⟩, ⟨some 7, none, .mov (.t 20)⟩, ⟨some 8, none, .mov (.t 21)⟩, ⟨some 9, none, .mov (.t 22)⟩]) <|
  .seq (.seq (.ops [⟨some 23, none, .mov (.t 9)⟩, ⟨some 24, none, .bin .num .neq (.t 23) (.c (.int .i64 0))⟩]) <|
  .cond (.t 24) (.seq (.ops [⟨some 6, none, .mov (.c (.bool false))⟩]) <|
   .ret) (.skip)) <|
  .seq (.ops [⟨some 25, none, .mov (.t 7)⟩, ⟨some 26, none, .mov (.t 8)⟩, ⟨some 27, none, .call .pure 12 [(.t 25), (.t 26)]⟩, ⟨some 10, none, .mov (.t 27)⟩]) <|
  .seq (.ops [⟨some 29, none, .mov (.t 0)⟩, ⟨some 30, none, .call .pure 8 [(.t 29)]⟩, ⟨some 28, none, .mov (.t 30)⟩, ⟨some 31, none, .extract 0 (.t 28)⟩, ⟨some 32, none, .extract 1 (.t 28)⟩, ⟨some 33, none, .extract 2 (.t 28)⟩, ⟨some 11, none, .mov (.t 31)⟩, ⟨some 12, none, .mov (.t 32)⟩, ⟨some 13, none, .mov (.t 33)⟩]) <|
  .seq (.ops [⟨some 34, none, .mov (.t 10)⟩, ⟨some 35, none, .mov (.t 1)⟩, ⟨some 36, none, .call .pure 28 [(.t 34), (.t 35)]⟩, ⟨some 37, none, .un .not (.t 36)⟩, ⟨some 38, none, .mov (.t 37)⟩, ⟨some 39, some (38, true), .mov (.t 13)⟩, ⟨some 40, some (38, true), .bin .num .neq (.t 39) (.c (.int .i64 0))⟩, ⟨some 41, some (38, true), .mov (.t 40)⟩, ⟨some 42, some (41, false), .mov (.t 10)⟩, ⟨some 43, some (41, false), .mov (.t 11)⟩, ⟨some 44, some (41, false), .mov (.t 12)⟩, ⟨some 45, some (41, false), .call .pure 12 [(.t 43), (.t 44)]⟩, ⟨some 46, some (41, false), .call .pure 28 [(.t 42), (.t 45)]⟩, ⟨some 47, some (41, false), .un .not (.t 46)⟩, ⟨some 48, some (38, true), .pick (.t 41) (.c (.bool true)) (.t 47)⟩, ⟨some 49, none, .pick (.t 38) (.t 48) (.c (.bool false))⟩, ⟨some 6, none, .mov (.t 49)⟩]) <|
  .ret
def v16 : VFunc := ⟨50, [.tmp 6], c16⟩
/-- berthing/slot.number -/
def c17 : VCode :=
  .seq (.ops [⟨some 2, none, .mov (.c (.int .u64 0))⟩]) <|
  .seq (.ops [⟨some 3, none, .mov (.c (.int .u64 0))⟩]) <|
  .seq (.seq (.ops [⟨some 6, none, .mov (.t 0)⟩, ⟨some 7, none, .lenS (.t 6)⟩, ⟨some 8, none, .mov (.c (.int .i64 0))⟩]) <|
  .block 0 (.loop (.seq (.ops [⟨some 9, none, .bin .num .lss (.t 8) (.t 7)⟩]) <|
    .seq (.cond (.t 9) (.skip) (.exit 0)) <|
    .seq (.block 1 (.seq (.ops [⟨some 10, none, .idxAddrS 1 (.t 6) (.t 8)⟩, ⟨some 11, none, .load1 (.t 10)⟩, ⟨some 5, none, .mov (.t 11)⟩]) <|
     .ops [⟨some 12, none, .mov (.t 3)⟩, ⟨some 13, none, .bin .num .shl (.t 12) (.c (.int .u64 8))⟩, ⟨some 14, none, .mov (.t 5)⟩, ⟨some 15, none, .conv .u64 (.t 14)⟩, ⟨some 16, none, .bin .num .or (.t 13) (.t 15)⟩, ⟨some 3, none, .mov (.t 16)⟩])) <|
    .ops [⟨some 17, none, .bin .num .add (.t 8) (.c (.int .i64 1))⟩, ⟨some 8, none, .mov (.t 17)⟩]))) <|
  .seq (.ops [⟨some 18, none, .mov (.t 3)⟩, ⟨some 2, none, .mov (.t 18)⟩]) <|
  .ret
def v17 : VFunc := ⟨19, [.tmp 2], c17⟩
/-- berthing/crc.Value -/
def c18 : VCode :=
  .seq (.ops [⟨some 1, none, .box (.t 0)⟩, ⟨some 2, none, .mov (.c (.int .u32 0))⟩]) <|
  .seq (.ops [⟨some 3, none, .mov (.c (.int .u32 0))⟩]) <|
  .seq (.seq (.ops [⟨some 6, none, .loadN 4 (.t 1)⟩, ⟨some 7, none, .mov (.c (.int .i64 0))⟩]) <|
  .block 0 (.loop (.seq (.ops [⟨some 8, none, .bin .num .lss (.t 7) (.c (.int .i64 4))⟩]) <|
    .seq (.cond (.t 8) (.skip) (.exit 0)) <|
    .seq (.block 1 (.seq (.ops [⟨some 9, none, .idxA1 4 (.t 6) (.t 7)⟩, ⟨some 5, none, .mov (.t 9)⟩]) <|
     .ops [⟨some 10, none, .mov (.t 3)⟩, ⟨some 11, none, .bin .num .shl (.t 10) (.c (.int .u64 8))⟩, ⟨some 12, none, .mov (.t 5)⟩, ⟨some 13, none, .conv .u32 (.t 12)⟩, ⟨some 14, none, .bin .num .or (.t 11) (.t 13)⟩, ⟨some 3, none, .mov (.t 14)⟩])) <|
    .ops [⟨some 15, none, .bin .num .add (.t 7) (.c (.int .i64 1))⟩, ⟨some 7, none, .mov (.t 15)⟩]))) <|
  .seq (.ops [⟨some 16, none, .mov (.t 3)⟩, ⟨some 2, none, .mov (.t 16)⟩]) <|
  .ret
def v18 : VFunc := ⟨17, [.tmp 2], c18⟩
/-- berthing/crc.Of -/
def c19 : VCode :=
  .seq (.ops [⟨some 2, none, .mov (.c (.int .u32 0))⟩]) <|
  .seq (.ops [⟨some 4, none, .call .shared 29 []⟩, ⟨some 3, none, .mov (.t 4)⟩]) <|
  .seq (.ops [⟨some 5, none, .mov (.t 3)⟩, ⟨some 6, none, .mov (.t 0)⟩, ⟨some 7, none, .call .shared 30 [(.t 5), (.t 6)]⟩]) <|
  .seq (.ops [⟨some 8, none, .mov (.t 3)⟩, ⟨some 9, none, .call .shared 31 [(.t 8)]⟩, ⟨some 2, none, .mov (.t 9)⟩]) <|
  .ret
def v19 : VFunc := ⟨10, [.tmp 2], c19⟩
/-- slices.Clone[[]byte,byte] -/
def c20 : VCode :=
  .seq (.ops [⟨some 2, none, .mov (.c (.sl .nil 0 []))⟩]) <|
  .seq (.seq (.ops [⟨some 3, none, .mov (.t 0)⟩, ⟨some 4, none, .bin .sl .eql (.t 3) (.c (.sl .nil 0 []))⟩]) <|
  .cond (.t 4) (.seq (.ops [⟨some 2, none, .mov (.c (.sl .nil 0 []))⟩]) <|
   .ret) (.skip)) <|
  .seq (.ops [⟨some 5, none, .buildSlice false 1 0 [] []⟩, ⟨some 6, none, .mov (.t 0)⟩, ⟨some 7, none, .append false false 1 1 (.t 5) (.t 6)⟩, ⟨some 2, none, .mov (.t 7)⟩]) <|
  .ret
def v20 : VFunc := ⟨8, [.tmp 2], c20⟩
/-- berthing/berthingref14.Number -/
def c21 : VCode :=
  .seq (.ops [⟨some 2, none, .mov (.c (.int .u64 0))⟩]) <|
  .seq (.ops [⟨some 3, none, .mov (.c (.int .u64 0))⟩]) <|
  .seq (.seq (.ops [⟨some 4, none, .mov (.c (.int .i64 0))⟩]) <|
  .block 0 (.loop (.seq (.seq (.ops [⟨some 5, none, .mov (.t 4)⟩, ⟨some 6, none, .mov (.t 0)⟩, ⟨some 7, none, .lenStr (.t 6)⟩, ⟨some 8, none, .bin .num .lss (.t 5) (.t 7)⟩]) <|
    .cond (.t 8) (.skip) (.exit 0)) <|
    .seq (.block 1 (.ops [⟨some 11, none, .mov (.t 3)⟩, ⟨some 12, none, .bin .num .mul (.t 11) (.c (.int .u64 256))⟩, ⟨some 13, none, .mov (.t 0)⟩, ⟨some 14, none, .mov (.t 4)⟩, ⟨some 15, none, .idxStr (.t 13) (.t 14)⟩, ⟨some 16, none, .conv .u64 (.t 15)⟩, ⟨some 17, none, .bin .num .add (.t 12) (.t 16)⟩, ⟨some 3, none, .mov (.t 17)⟩])) <|
    .ops [⟨some 9, none, .mov (.t 4)⟩, ⟨some 10, none, .bin .num .add (.t 9) (.c (.int .i64 1))⟩, ⟨some 4, none, .mov (.t 10)⟩]))) <|
  .seq (.ops [⟨some 18, none, .mov (.t 3)⟩, ⟨some 2, none, .mov (.t 18)⟩]) <|
  .ret
def v21 : VFunc := ⟨19, [.tmp 2], c21⟩
/-- berthing/berthingref14.Big -/
def c22 : VCode :=
  .seq (.ops [⟨some 4, none, .mov (.c (.str ⟨#[]⟩))⟩]) <|
  .seq (.ops [⟨some 5, none, .mov (.c (.str ⟨#[]⟩))⟩]) <|
  .seq (.seq (.ops [⟨some 6, none, .mov (.c (.int .i64 0))⟩]) <|
  .block 0 (.loop (.seq (.seq (.ops [⟨some 7, none, .mov (.t 6)⟩, ⟨some 8, none, .mov (.t 1)⟩, ⟨some 9, none, .bin .num .lss (.t 7) (.t 8)⟩]) <|
    .cond (.t 9) (.skip) (.exit 0)) <|
    .seq (.block 1 (.seq (.ops [⟨some 12, none, .mov (.t 0)⟩, ⟨some 13, none, .bin .num .rem (.t 12) (.c (.int .u64 256))⟩, ⟨some 14, none, .conv .u8 (.t 13)⟩, ⟨some 15, none, .buildSlice false 1 1 [(.int .u8 0)] [(0, 1, (.t 14))]⟩, ⟨some 16, none, .strOfP (.t 15)⟩, ⟨some 17, none, .mov (.t 5)⟩, ⟨some 18, none, .bin .num .add (.t 16) (.t 17)⟩, ⟨some 5, none, .mov (.t 18)⟩]) <|
     .ops [⟨some 19, none, .mov (.t 0)⟩, ⟨some 20, none, .bin .num .quo (.t 19) (.c (.int .u64 256))⟩, ⟨some 0, none, .mov (.t 20)⟩])) <|
    .ops [⟨some 10, none, .mov (.t 6)⟩, ⟨some 11, none, .bin .num .add (.t 10) (.c (.int .i64 1))⟩, ⟨some 6, none, .mov (.t 11)⟩]))) <|
  .seq (.ops [⟨some 21, none, .mov (.t 5)⟩, ⟨some 4, none, .mov (.t 21)⟩]) <|
  .ret
def v22 : VFunc := ⟨22, [.tmp 4], c22⟩
/-- berthing/berthingref11.Bytes -/
def c23 : VCode :=
  .seq (.ops [⟨some 2, none, .mov (.c (.str ⟨#[]⟩))⟩]) <|
  .seq (.ops [⟨some 3, none, .mov (.t 0)⟩, ⟨some 4, none, .bin .num .quo (.t 3) (.c (.int .u32 16777216))⟩, ⟨some 5, none, .conv .u8 (.t 4)⟩, ⟨some 6, none, .mov (.t 0)⟩, ⟨some 7, none, .bin .num .quo (.t 6) (.c (.int .u32 65536))⟩, ⟨some 8, none, .bin .num .rem (.t 7) (.c (.int .u32 256))⟩, ⟨some 9, none, .conv .u8 (.t 8)⟩, ⟨some 10, none, .mov (.t 0)⟩, ⟨some 11, none, .bin .num .quo (.t 10) (.c (.int .u32 256))⟩, ⟨some 12, none, .bin .num .rem (.t 11) (.c (.int .u32 256))⟩, ⟨some 13, none, .conv .u8 (.t 12)⟩, ⟨some 14, none, .mov (.t 0)⟩, ⟨some 15, none, .bin .num .rem (.t 14) (.c (.int .u32 256))⟩, ⟨some 16, none, .conv .u8 (.t 15)⟩, ⟨some 17, none, .buildSlice false 1 4 [(.int .u8 0), (.int .u8 0), (.int .u8 0), (.int .u8 0)] [(0, 1, (.t 5)), (1, 1, (.t 9)), (2, 1, (.t 13)), (3, 1, (.t 16))]⟩, ⟨some 18, none, .strOfP (.t 17)⟩, ⟨some 2, none, .mov (.t 18)⟩]) <|
  .ret
def v23 : VFunc := ⟨19, [.tmp 2], c23⟩
/-- berthing/berthingref11.Of -/
def c24 : VCode :=
  .seq (.ops [⟨some 2, none, .mov (.c (.int .u32 0))⟩]) <|
  .seq (.ops [⟨some 16, none, .build [(.bool false), (.bool false), (.bool false), (.bool false), (.bool false), (.bool false), (.bool false), (.bool false), (.bool false), (.bool false), (.bool false), (.bool false), (.bool false), (.bool false), (.bool false), (.bool false), (.bool false), (.bool false), (.bool false), (.bool false), (.bool false), (.bool false), (.bool false), (.bool false), (.bool false), (.bool false), (.bool false), (.bool false), (.bool false), (.bool false), (.bool false), (.bool false)] []⟩, ⟨some 3, none, .alloc [(.bool false), (.bool false), (.bool false), (.bool false), (.bool false), (.bool false), (.bool false), (.bool false), (.bool false), (.bool false), (.bool false), (.bool false), (.bool false), (.bool false), (.bool false), (.bool false), (.bool false), (.bool false), (.bool false), (.bool false), (.bool false), (.bool false), (.bool false), (.bool false), (.bool false), (.bool false), (.bool false), (.bool false), (.bool false), (.bool false), (.bool false), (.bool false)]⟩, ⟨none, none, .storeN 32 (.t 3) (.t 16)⟩]) <|
  .seq (.seq (.ops [⟨some 4, none, .mov (.c (.int .i64 0))⟩]) <|
  .block 0 (.loop (.seq (.seq (.ops [⟨some 17, none, .mov (.t 4)⟩, ⟨some 18, none, .bin .num .lss (.t 17) (.c (.int .i64 32))⟩]) <|
    .cond (.t 18) (.skip) (.exit 0)) <|
    .seq (.block 1 (.ops [⟨some 21, none, .mov (.t 4)⟩, ⟨some 22, none, .idxAddrA 32 1 (.t 3) (.t 21)⟩, ⟨none, none, .store1 (.t 22) (.c (.bool true))⟩])) <|
    .ops [⟨some 19, none, .mov (.t 4)⟩, ⟨some 20, none, .bin .num .add (.t 19) (.c (.int .i64 1))⟩, ⟨some 4, none, .mov (.t 20)⟩]))) <|
  .seq (.ops [⟨some 23, none, .build [(.bool false), (.bool false), (.bool false), (.bool false), (.bool false), (.bool false), (.bool false), (.bool false), (.bool false), (.bool false), (.bool false), (.bool false), (.bool false), (.bool false), (.bool false), (.bool false), (.bool false), (.bool false), (.bool false), (.bool false), (.bool false), (.bool false), (.bool false), (.bool false), (.bool false), (.bool false), (.bool false), (.bool false), (.bool false), (.bool false), (.bool false), (.bool false)] []⟩, ⟨some 5, none, .alloc [(.bool false), (.bool false), (.bool false), (.bool false), (.bool false), (.bool false), (.bool false), (.bool false), (.bool false), (.bool false), (.bool false), (.bool false), (.bool false), (.bool false), (.bool false), (.bool false), (.bool false), (.bool false), (.bool false), (.bool false), (.bool false), (.bool false), (.bool false), (.bool false), (.bool false), (.bool false), (.bool false), (.bool false), (.bool false), (.bool false), (.bool false), (.bool false)]⟩, ⟨none, none, .storeN 32 (.t 5) (.t 23)⟩]) <|
  .seq (.ops [⟨some 6, none, .mov (.c (.int .u32 3988292384))⟩]) <|
  .seq (.seq (.ops [⟨some 7, none, .mov (.c (.int .i64 0))⟩]) <|
  .block 2 (.loop (.seq (.seq (.ops [⟨some 24, none, .mov (.t 7)⟩, ⟨some 25, none, .bin .num .lss (.t 24) (.c (.int .i64 32))⟩]) <|
    .cond (.t 25) (.skip) (.exit 2)) <|
    .seq (.block 3 (.seq (.ops [⟨some 28, none, .mov (.t 7)⟩, ⟨some 29, none, .mov (.t 6)⟩, ⟨some 30, none, .bin .num .rem (.t 29) (.c (.int .u32 2))⟩, ⟨some 31, none, .bin .num .eql (.t 30) (.c (.int .u32 1))⟩, ⟨some 32, none, .idxAddrA 32 1 (.t 5) (.t 28)⟩, ⟨none, none, .store1 (.t 32) (.t 31)⟩]) <|
     .ops [⟨some 33, none, .mov (.t 6)⟩, ⟨some 34, none, .bin .num .quo (.t 33) (.c (.int .u32 2))⟩, ⟨some 6, none, .mov (.t 34)⟩])) <|
    .ops [⟨some 26, none, .mov (.t 7)⟩, ⟨some 27, none, .bin .num .add (.t 26) (.c (.int .i64 1))⟩, ⟨some 7, none, .mov (.t 27)⟩]))) <|
  .seq (.seq (.ops [⟨some 8, none, .mov (.c (.int .i64 0))⟩]) <|
  .block 4 (.loop (.seq (.seq (.ops [⟨some 35, none, .mov (.t 8)⟩, ⟨some 36, none, .mov (.t 0)⟩, ⟨some 37, none, .lenStr (.t 36)⟩, ⟨some 38, none, .bin .num .lss (.t 35) (.t 37)⟩]) <|
    .cond (.t 38) (.skip) (.exit 4)) <|
    .seq (.block 5 (.seq (.ops [⟨some 41, none, .mov (.t 0)⟩, ⟨some 42, none, .mov (.t 8)⟩, ⟨some 43, none, .idxStr (.t 41) (.t 42)⟩, ⟨some 9, none, .mov (.t 43)⟩]) <|
     .seq (.ops [⟨some 10, none, .mov (.c (.int .i64 0))⟩]) <|
     .block 6 (.loop (.seq (.seq (.ops [⟨some 44, none, .mov (.t 10)⟩, ⟨some 45, none, .bin .num .lss (.t 44) (.c (.int .i64 8))⟩]) <|
       .cond (.t 45) (.skip) (.exit 6)) <|
       .seq (.block 7 (.seq (.ops [⟨some 48, none, .idxAddrA 32 1 (.t 3) (.c (.int .i64 0))⟩, ⟨some 49, none, .load1 (.t 48)⟩, ⟨some 50, none, .mov (.t 9)⟩, ⟨some 51, none, .bin .num .rem (.t 50) (.c (.int .u8 2))⟩, ⟨some 52, none, .bin .num .eql (.t 51) (.c (.int .u8 1))⟩, ⟨some 53, none, .bin .bool .neq (.t 49) (.t 52)⟩, ⟨some 11, none, .mov (.t 53)⟩]) <|
        .seq (.ops [⟨some 54, none, .mov (.t 9)⟩, ⟨some 55, none, .bin .num .quo (.t 54) (.c (.int .u8 2))⟩, ⟨some 9, none, .mov (.t 55)⟩]) <|
        .seq (.seq (.ops [⟨some 12, none, .mov (.c (.int .i64 0))⟩]) <|
        .block 8 (.loop (.seq (.seq (.ops [⟨some 56, none, .mov (.t 12)⟩, ⟨some 57, none, .bin .num .lss (.t 56) (.c (.int .i64 31))⟩]) <|
          .cond (.t 57) (.skip) (.exit 8)) <|
          .seq (.block 9 (.ops [⟨some 60, none, .mov (.t 12)⟩, ⟨some 61, none, .mov (.t 12)⟩, ⟨some 62, none, .bin .num .add (.t 61) (.c (.int .i64 1))⟩, ⟨some 63, none, .idxAddrA 32 1 (.t 3) (.t 62)⟩, ⟨some 64, none, .load1 (.t 63)⟩, ⟨some 65, none, .idxAddrA 32 1 (.t 3) (.t 60)⟩, ⟨none, none, .store1 (.t 65) (.t 64)⟩])) <|
          .ops [⟨some 58, none, .mov (.t 12)⟩, ⟨some 59, none, .bin .num .add (.t 58) (.c (.int .i64 1))⟩, ⟨some 12, none, .mov (.t 59)⟩]))) <|
        .seq (.ops [⟨some 66, none, .idxAddrA 32 1 (.t 3) (.c (.int .i64 31))⟩, ⟨none, none, .store1 (.t 66) (.c (.bool false))⟩]) <|
        .seq (.ops [⟨some 13, none, .mov (.c (.int .i64 0))⟩]) <|
        .block 10 (.loop (.seq (.seq (.ops [⟨some 67, none, .mov (.t 13)⟩, ⟨some 68, none, .bin .num .lss (.t 67) (.c (.int .i64 32))⟩]) <|
          .cond (.t 68) (.skip) (.exit 10)) <|
          .seq (.block 11 (.ops [⟨some 71, none, .mov (.t 13)⟩, ⟨some 72, none, .mov (.t 13)⟩, ⟨some 73, none, .idxAddrA 32 1 (.t 3) (.t 72)⟩, ⟨some 74, none, .load1 (.t 73)⟩, ⟨some 75, none, .mov (.t 11)⟩, ⟨some 76, none, .mov (.t 75)⟩, ⟨some 77, some (76, true), .mov (.t 13)⟩, ⟨some 78, some (76, true), .idxAddrA 32 1 (.t 5) (.t 77)⟩, ⟨some 79, some (76, true), .load1 (.t 78)⟩, ⟨some 80, none, .pick (.t 76) (.t 79) (.c (.bool false))⟩, ⟨some 81, none, .bin .bool .neq (.t 74) (.t 80)⟩, ⟨some 82, none, .idxAddrA 32 1 (.t 3) (.t 71)⟩, ⟨none, none, .store1 (.t 82) (.t 81)⟩])) <|
          .ops [⟨some 69, none, .mov (.t 13)⟩, ⟨some 70, none, .bin .num .add (.t 69) (.c (.int .i64 1))⟩, ⟨some 13, none, .mov (.t 70)⟩])))) <|
       .ops [⟨some 46, none, .mov (.t 10)⟩, ⟨some 47, none, .bin .num .add (.t 46) (.c (.int .i64 1))⟩, ⟨some 10, none, .mov (.t 47)⟩])))) <|
    .ops [⟨some 39, none, .mov (.t 8)⟩, ⟨some 40, none, .bin .num .add (.t 39) (.c (.int .i64 1))⟩, ⟨some 8, none, .mov (.t 40)⟩]))) <|
  .seq (.ops [⟨some 14, none, .mov (.c (.int .u32 0))⟩]) <|
  .seq (.seq (.ops [⟨some 15, none, .mov (.c (.int .i64 31))⟩]) <|
  .block 12 (.loop (.seq (.seq (.ops [⟨some 83, none, .mov (.t 15)⟩, ⟨some 84, none, .bin .num .geq (.t 83) (.c (.int .i64 0))⟩]) <|
    .cond (.t 84) (.skip) (.exit 12)) <|
    .seq (.block 13 (.seq (.ops [⟨some 87, none, .mov (.t 14)⟩, ⟨some 88, none, .bin .num .mul (.t 87) (.c (.int .u32 2))⟩, ⟨some 14, none, .mov (.t 88)⟩]) <|
     .seq (.ops [⟨some 89, none, .mov (.t 15)⟩, ⟨some 90, none, .idxAddrA 32 1 (.t 3) (.t 89)⟩, ⟨some 91, none, .load1 (.t 90)⟩, ⟨some 92, none, .un .not (.t 91)⟩]) <|
     .cond (.t 92) (.ops [⟨some 93, none, .mov (.t 14)⟩, ⟨some 94, none, .bin .num .add (.t 93) (.c (.int .u32 1))⟩, ⟨some 14, none, .mov (.t 94)⟩]) (.skip))) <|
    .ops [⟨some 85, none, .mov (.t 15)⟩, ⟨some 86, none, .bin .num .sub (.t 85) (.c (.int .i64 1))⟩, ⟨some 15, none, .mov (.t 86)⟩]))) <|
  .seq (.ops [⟨some 95, none, .mov (.t 14)⟩, ⟨some 2, none, .mov (.t 95)⟩]) <|
  .ret
def v24 : VFunc := ⟨96, [.tmp 2], c24⟩
/-- slices.Concat[[]byte,byte] -/
def c25 : VCode :=
  .seq (.ops [⟨some 2, none, .mov (.c (.sl .nil 0 []))⟩]) <|
  .seq (.ops [⟨some 3, none, .mov (.c (.int .i64 0))⟩]) <|
  .seq (.seq (.ops [⟨some 9, none, .mov (.t 0)⟩, ⟨some 10, none, .lenS (.t 9)⟩, ⟨some 11, none, .mov (.c (.int .i64 0))⟩]) <|
  .block 0 (.loop (.seq (.ops [⟨some 12, none, .bin .num .lss (.t 11) (.t 10)⟩]) <|
    .seq (.cond (.t 12) (.skip) (.exit 0)) <|
    .seq (.block 1 (.seq (.ops [⟨some 13, none, .idxAddrS 1 (.t 9) (.t 11)⟩, ⟨some 14, none, .load1 (.t 13)⟩, ⟨some 5, none, .mov (.t 14)⟩]) <|
     .seq (.ops [⟨some 15, none, .mov (.t 3)⟩, ⟨some 16, none, .mov (.t 5)⟩, ⟨some 17, none, .lenS (.t 16)⟩, ⟨some 18, none, .bin .num .add (.t 15) (.t 17)⟩, ⟨some 3, none, .mov (.t 18)⟩]) <|
     .seq (.ops [⟨some 19, none, .mov (.t 3)⟩, ⟨some 20, none, .bin .num .lss (.t 19) (.c (.int .i64 0))⟩]) <|
     .cond (.t 20) (.ops [⟨none, none, .bad⟩, ⟨none, none, .bad⟩]) (.skip))) <|
    .ops [⟨some 22, none, .bin .num .add (.t 11) (.c (.int .i64 1))⟩, ⟨some 11, none, .mov (.t 22)⟩]))) <|
  .seq (.ops [⟨some 23, none, .mov (.t 3)⟩, ⟨some 24, none, .call .own 32 [(.c (.sl .nil 0 [])), (.t 23)]⟩, ⟨some 6, none, .mov (.t 24)⟩]) <|
  .seq (.seq (.ops [⟨some 25, none, .mov (.t 0)⟩, ⟨some 26, none, .lenS (.t 25)⟩, ⟨some 27, none, .mov (.c (.int .i64 0))⟩]) <|
  .block 2 (.loop (.seq (.ops [⟨some 28, none, .bin .num .lss (.t 27) (.t 26)⟩]) <|
    .seq (.cond (.t 28) (.skip) (.exit 2)) <|
    .seq (.block 3 (.seq (.ops [⟨some 29, none, .idxAddrS 1 (.t 25) (.t 27)⟩, ⟨some 30, none, .load1 (.t 29)⟩, ⟨some 8, none, .mov (.t 30)⟩]) <|
     .ops [⟨some 31, none, .mov (.t 6)⟩, ⟨some 32, none, .mov (.t 8)⟩, ⟨some 33, none, .append false false 1 1 (.t 31) (.t 32)⟩, ⟨some 6, none, .mov (.t 33)⟩])) <|
    .ops [⟨some 34, none, .bin .num .add (.t 27) (.c (.int .i64 1))⟩, ⟨some 27, none, .mov (.t 34)⟩]))) <|
  .seq (.ops [⟨some 35, none, .mov (.t 6)⟩, ⟨some 2, none, .mov (.t 35)⟩]) <|
  .ret
def v25 : VFunc := ⟨36, [.tmp 2], c25⟩
/-- berthing/slot.big -/
def c26 : VCode :=
  .seq (.ops [⟨some 4, none, .mov (.c (.sl .nil 0 []))⟩]) <|
  .seq (.ops [⟨some 7, none, .mov (.t 1)⟩, ⟨some 8, none, .mkSlice true 1 [(.int .u8 0)] (.t 7) (.t 7)⟩, ⟨some 5, none, .mov (.t 8)⟩]) <|
  .seq (.seq (.ops [⟨some 9, none, .mov (.t 5)⟩, ⟨some 10, none, .lenS (.t 9)⟩, ⟨some 11, none, .mov (.c (.int .i64 0))⟩]) <|
  .block 0 (.loop (.seq (.ops [⟨some 12, none, .bin .num .lss (.t 11) (.t 10)⟩]) <|
    .seq (.cond (.t 12) (.skip) (.exit 0)) <|
    .seq (.block 1 (.seq (.ops [⟨some 13, none, .mov (.t 11)⟩, ⟨some 6, none, .mov (.t 13)⟩]) <|
     .ops [⟨some 14, none, .mov (.t 5)⟩, ⟨some 15, none, .mov (.t 6)⟩, ⟨some 16, none, .mov (.t 0)⟩, ⟨some 17, none, .mov (.t 1)⟩, ⟨some 18, none, .bin .num .sub (.t 17) (.c (.int .i64 1))⟩, ⟨some 19, none, .mov (.t 6)⟩, ⟨some 20, none, .bin .num .sub (.t 18) (.t 19)⟩, ⟨some 21, none, .bin .num .mul (.c (.int .i64 8)) (.t 20)⟩, ⟨some 22, none, .bin .num .shr (.t 16) (.t 21)⟩, ⟨some 23, none, .conv .u8 (.t 22)⟩, ⟨some 24, none, .idxAddrS 1 (.t 14) (.t 15)⟩, ⟨none, none, .store1 (.t 24) (.t 23)⟩])) <|
    .ops [⟨some 25, none, .bin .num .add (.t 11) (.c (.int .i64 1))⟩, ⟨some 11, none, .mov (.t 25)⟩]))) <|
  .seq (.ops [⟨some 26, none, .mov (.t 5)⟩, ⟨some 4, none, .mov (.t 26)⟩]) <|
  .ret
def v26 : VFunc := ⟨27, [.tmp 4], c26⟩
/-- berthing/crc.Bytes -/
def c27 : VCode :=
  .seq (.ops [⟨some 2, none, .alloc [(.int .u8 0), (.int .u8 0), (.int .u8 0), (.int .u8 0)]⟩]) <|
  .seq (.ops [⟨some 3, none, .mov (.t 0)⟩, ⟨some 4, none, .bin .num .shr (.t 3) (.c (.int .u64 24))⟩, ⟨some 5, none, .conv .u8 (.t 4)⟩, ⟨some 6, none, .mov (.t 0)⟩, ⟨some 7, none, .bin .num .shr (.t 6) (.c (.int .u64 16))⟩, ⟨some 8, none, .conv .u8 (.t 7)⟩, ⟨some 9, none, .mov (.t 0)⟩, ⟨some 10, none, .bin .num .shr (.t 9) (.c (.int .u64 8))⟩, ⟨some 11, none, .conv .u8 (.t 10)⟩, ⟨some 12, none, .mov (.t 0)⟩, ⟨some 13, none, .conv .u8 (.t 12)⟩, ⟨some 14, none, .build [(.int .u8 0), (.int .u8 0), (.int .u8 0), (.int .u8 0)] [(0, 1, (.t 5)), (1, 1, (.t 8)), (2, 1, (.t 11)), (3, 1, (.t 13))]⟩, ⟨none, none, .storeN 4 (.t 2) (.t 14)⟩]) <|
  .ret
def v27 : VFunc := ⟨15, [.cellN 4 2], c27⟩
/-- bytes.Equal -/
def c28 : VCode :=
  .seq (.ops [⟨some 4, none, .mov (.c (.bool false))⟩]) <|
  .seq (.ops [⟨some 5, none, .mov (.t 0)⟩, ⟨some 6, none, .strOfP (.t 5)⟩, ⟨some 7, none, .mov (.t 1)⟩, ⟨some 8, none, .strOfP (.t 7)⟩, ⟨some 9, none, .bin .num .eql (.t 6) (.t 8)⟩, ⟨some 4, none, .mov (.t 9)⟩]) <|
  .ret
def v28 : VFunc := ⟨10, [.tmp 4], c28⟩
/-- berthing/crc.New -/
def c29 : VCode :=
  .seq (.ops [⟨some 0, none, .mov (.c .nilp)⟩]) <|
  .seq (.ops [⟨some 1, none, .build [(.int .u32 0)] [(0, 1, (.c (.int .u32 4294967295)))]⟩, ⟨some 2, none, .box (.t 1)⟩, ⟨some 0, none, .mov (.t 2)⟩]) <|
  .ret
def v29 : VFunc := ⟨3, [.tmp 0], c29⟩
/-- (*berthing/crc.Sum).Add -/
def c30 : VCode :=
  .seq (.seq (.ops [⟨some 8, none, .mov (.t 0)⟩, ⟨some 9, none, .bin .ptr .eql (.t 8) (.c .nilp)⟩]) <|
  .cond (.t 9) (.ret) (.skip)) <|
  .seq (.ops [⟨some 10, none, .mov (.t 1)⟩, ⟨some 11, none, .lenS (.t 10)⟩, ⟨some 12, none, .mov (.c (.int .i64 0))⟩]) <|
  .block 0 (.loop (.seq (.ops [⟨some 13, none, .bin .num .lss (.t 12) (.t 11)⟩]) <|
    .seq (.cond (.t 13) (.skip) (.exit 0)) <|
    .seq (.block 1 (.seq (.ops [⟨some 14, none, .idxAddrS 1 (.t 10) (.t 12)⟩, ⟨some 15, none, .load1 (.t 14)⟩, ⟨some 5, none, .mov (.t 15)⟩]) <|
     .seq (.ops [⟨some 16, none, .mov (.t 5)⟩, ⟨some 17, none, .lenS (.t 16)⟩, ⟨some 18, none, .mov (.c (.int .i64 0))⟩]) <|
     .block 2 (.loop (.seq (.ops [⟨some 19, none, .bin .num .lss (.t 18) (.t 17)⟩]) <|
       .seq (.cond (.t 19) (.skip) (.exit 2)) <|
       .seq (.block 3 (.seq (.ops [⟨some 20, none, .idxAddrS 1 (.t 16) (.t 18)⟩, ⟨some 21, none, .load1 (.t 20)⟩, ⟨some 7, none, .mov (.t 21)⟩]) <|
        .seq (.ops [⟨some 22, none, .mov (.t 0)⟩, ⟨some 23, none, .nilCheck (.t 22)⟩, ⟨some 24, none, .fieldAddr 0 (.t 23)⟩, ⟨some 25, none, .load1 (.t 24)⟩, ⟨some 26, none, .mov (.t 7)⟩, ⟨some 27, none, .conv .u32 (.t 26)⟩, ⟨some 28, none, .bin .num .xor (.t 25) (.t 27)⟩, ⟨some 29, none, .nilCheck (.t 22)⟩, ⟨some 30, none, .fieldAddr 0 (.t 29)⟩, ⟨none, none, .store1 (.t 30) (.t 28)⟩]) <|
        .seq (.ops [⟨some 31, none, .mov (.c (.int .i64 0))⟩]) <|
        .block 4 (.loop (.seq (.ops [⟨some 32, none, .bin .num .lss (.t 31) (.c (.int .i64 8))⟩]) <|
          .seq (.cond (.t 32) (.skip) (.exit 4)) <|
          .seq (.block 5 (.ops [⟨some 33, none, .mov (.t 0)⟩, ⟨some 34, none, .mov (.t 0)⟩, ⟨some 35, none, .nilCheck (.t 34)⟩, ⟨some 36, none, .fieldAddr 0 (.t 35)⟩, ⟨some 37, none, .load1 (.t 36)⟩, ⟨some 38, none, .bin .num .shr (.t 37) (.c (.int .u64 1))⟩, ⟨some 39, none, .mov (.t 0)⟩, ⟨some 40, none, .nilCheck (.t 39)⟩, ⟨some 41, none, .fieldAddr 0 (.t 40)⟩, ⟨some 42, none, .load1 (.t 41)⟩, ⟨some 43, none, .bin .num .and (.t 42) (.c (.int .u32 1))⟩, ⟨some 44, none, .un .neg (.t 43)⟩, ⟨some 45, none, .bin .num .and (.c (.int .u32 3988292384)) (.t 44)⟩, ⟨some 46, none, .bin .num .xor (.t 38) (.t 45)⟩, ⟨some 47, none, .nilCheck (.t 33)⟩, ⟨some 48, none, .fieldAddr 0 (.t 47)⟩, ⟨none, none, .store1 (.t 48) (.t 46)⟩])) <|
          .ops [⟨some 49, none, .bin .num .add (.t 31) (.c (.int .i64 1))⟩, ⟨some 31, none, .mov (.t 49)⟩])))) <|
       .ops [⟨some 50, none, .bin .num .add (.t 18) (.c (.int .i64 1))⟩, ⟨some 18, none, .mov (.t 50)⟩])))) <|
    .ops [⟨some 51, none, .bin .num .add (.t 12) (.c (.int .i64 1))⟩, ⟨some 12, none, .mov (.t 51)⟩]))
def v30 : VFunc := ⟨52, [], c30⟩
/-- (*berthing/crc.Sum).Value -/
def c31 : VCode :=
  .seq (.ops [⟨some 2, none, .mov (.c (.int .u32 0))⟩]) <|
  .seq (.seq (.ops [⟨some 3, none, .mov (.t 0)⟩, ⟨some 4, none, .bin .ptr .eql (.t 3) (.c .nilp)⟩]) <|
  .cond (.t 4) (.seq (.ops [⟨some 2, none, .mov (.c (.int .u32 0))⟩]) <|
   .ret) (.skip)) <|
  .seq (.ops [⟨some 5, none, .mov (.t 0)⟩, ⟨some 6, none, .nilCheck (.t 5)⟩, ⟨some 7, none, .fieldAddr 0 (.t 6)⟩, ⟨some 8, none, .load1 (.t 7)⟩, ⟨some 9, none, .un .xor (.t 8)⟩, ⟨some 2, none, .mov (.t 9)⟩]) <|
  .ret
def v31 : VFunc := ⟨10, [.tmp 2], c31⟩
/-- slices.Grow[[]byte,byte] -/
def c32 : VCode :=
  .seq (.ops [⟨some 4, none, .mov (.c (.sl .nil 0 []))⟩]) <|
  .seq (.seq (.ops [⟨some 5, none, .mov (.t 1)⟩, ⟨some 6, none, .bin .num .lss (.t 5) (.c (.int .i64 0))⟩]) <|
  .cond (.t 6) (.ops [⟨none, none, .bad⟩, ⟨none, none, .bad⟩]) (.skip)) <|
  .seq (.seq (.ops [⟨some 8, none, .mov (.t 1)⟩, ⟨some 9, none, .mov (.t 0)⟩, ⟨some 10, none, .capS (.t 9)⟩, ⟨some 11, none, .mov (.t 0)⟩, ⟨some 12, none, .lenS (.t 11)⟩, ⟨some 13, none, .bin .num .sub (.t 10) (.t 12)⟩, ⟨some 14, none, .bin .num .sub (.t 8) (.t 13)⟩, ⟨some 1, none, .mov (.t 14)⟩]) <|
  .seq (.ops [⟨some 15, none, .mov (.t 1)⟩, ⟨some 16, none, .bin .num .gtr (.t 15) (.c (.int .i64 0))⟩]) <|
  .cond (.t 16) (.ops [⟨some 17, none, .mov (.t 0)⟩, ⟨some 18, none, .mov (.t 0)⟩, ⟨some 19, none, .capS (.t 18)⟩, ⟨some 20, none, .sliceS 1 (.t 17) none (some (.t 19)) none⟩, ⟨some 21, none, .mov (.t 1)⟩, ⟨some 22, none, .appendZ true 1 1 [(.int .u8 0)] (.t 20) (.t 21)⟩, ⟨some 23, none, .mov (.t 0)⟩, ⟨some 24, none, .lenS (.t 23)⟩, ⟨some 25, none, .sliceS 1 (.t 22) none (some (.t 24)) none⟩, ⟨some 0, none, .mov (.t 25)⟩]) (.skip)) <|
  .seq (.ops [⟨some 26, none, .mov (.t 0)⟩, ⟨some 4, none, .mov (.t 26)⟩]) <|
  .ret
def v32 : VFunc := ⟨27, [.tmp 4], c32⟩
def ft : FuncId → Option VFunc := fun f => bif Nat.beq f 3 then some v3 else bif Nat.beq f 4 then some v4 else bif Nat.beq f 5 then some v5 else bif Nat.beq f 6 then some v6 else bif Nat.beq f 7 then some v7 else bif Nat.beq f 8 then some v8 else bif Nat.beq f 9 then some v9 else bif Nat.beq f 10 then some v10 else bif Nat.beq f 11 then some v11 else bif Nat.beq f 12 then some v12 else bif Nat.beq f 13 then some v13 else bif Nat.beq f 14 then some v14 else bif Nat.beq f 15 then some v15 else bif Nat.beq f 16 then some v16 else bif Nat.beq f 17 then some v17 else bif Nat.beq f 18 then some v18 else bif Nat.beq f 19 then some v19 else bif Nat.beq f 20 then some v20 else bif Nat.beq f 21 then some v21 else bif Nat.beq f 22 then some v22 else bif Nat.beq f 23 then some v23 else bif Nat.beq f 24 then some v24 else bif Nat.beq f 25 then some v25 else bif Nat.beq f 26 then some v26 else bif Nat.beq f 27 then some v27 else bif Nat.beq f 28 then some v28 else bif Nat.beq f 29 then some v29 else bif Nat.beq f 30 then some v30 else bif Nat.beq f 31 then some v31 else bif Nat.beq f 32 then some v32 else none
def env : Env := ⟨ft, md⟩
theorem is3 : FnComp ⟨Try.prog, md⟩ 3 v3 := ⟨Try.f3, _, fun t => ⟨false, md⟩, Try.func3, rfl, by kernel_rfl, by kernel_rfl, by kernel_rfl⟩
theorem is4 : FnComp ⟨Try.prog, md⟩ 4 v4 := ⟨Try.f4, _, fun t => ⟨false, md⟩, Try.func4, rfl, by kernel_rfl, by kernel_rfl, by kernel_rfl⟩
theorem is5 : FnComp ⟨Try.prog, md⟩ 5 v5 := ⟨Try.f5, _, fun t => ⟨false, md⟩, Try.func5, rfl, by kernel_rfl, by kernel_rfl, by kernel_rfl⟩
theorem is6 : FnComp ⟨Try.prog, md⟩ 6 v6 := ⟨Try.f6, _, fun t => ⟨false, md⟩, Try.func6, rfl, by kernel_rfl, by kernel_rfl, by kernel_rfl⟩
theorem is7 : FnComp ⟨Try.prog, md⟩ 7 v7 := ⟨Try.f7, _, fun t => ⟨Nat.beq t 17 || false, md⟩, Try.func7, rfl, by kernel_rfl, by kernel_rfl, by kernel_rfl⟩
theorem is8 : FnComp ⟨Try.prog, md⟩ 8 v8 := ⟨Try.f8, _, fun t => ⟨false, md⟩, Try.func8, rfl, by kernel_rfl, by kernel_rfl, by kernel_rfl⟩
theorem is9 : FnComp ⟨Try.prog, md⟩ 9 v9 := ⟨Try.f9, _, fun t => ⟨false, md⟩, Try.func9, rfl, by kernel_rfl, by kernel_rfl, by kernel_rfl⟩
theorem is10 : FnComp ⟨Try.prog, md⟩ 10 v10 := ⟨Try.f10, _, fun t => ⟨false, md⟩, Try.func10, rfl, by kernel_rfl, by kernel_rfl, by kernel_rfl⟩
theorem is11 : FnComp ⟨Try.prog, md⟩ 11 v11 := ⟨Try.f11, _, fun t => ⟨false, md⟩, Try.func11, rfl, by kernel_rfl, by kernel_rfl, by kernel_rfl⟩
theorem is12 : FnComp ⟨Try.prog, md⟩ 12 v12 := ⟨Try.f12, _, fun t => ⟨Nat.beq t 18 || false, md⟩, Try.func12, rfl, by kernel_rfl, by kernel_rfl, by kernel_rfl⟩
theorem is13 : FnComp ⟨Try.prog, md⟩ 13 v13 := ⟨Try.f13, _, fun t => ⟨false, md⟩, Try.func13, rfl, by kernel_rfl, by kernel_rfl, by kernel_rfl⟩
theorem is14 : FnComp ⟨Try.prog, md⟩ 14 v14 := ⟨Try.f14, _, fun t => ⟨false, md⟩, Try.func14, rfl, by kernel_rfl, by kernel_rfl, by kernel_rfl⟩
theorem is15 : FnComp ⟨Try.prog, md⟩ 15 v15 := ⟨Try.f15, _, fun t => ⟨Nat.beq t 9 || false, md⟩, Try.func15, rfl, by kernel_rfl, by kernel_rfl, by kernel_rfl⟩
theorem is16 : FnComp ⟨Try.prog, md⟩ 16 v16 := ⟨Try.f16, _, fun t => ⟨false, md⟩, Try.func16, rfl, by kernel_rfl, by kernel_rfl, by kernel_rfl⟩
theorem is17 : FnComp ⟨Try.prog, md⟩ 17 v17 := ⟨Try.f17, _, fun t => ⟨false, md⟩, Try.func17, rfl, by kernel_rfl, by kernel_rfl, by kernel_rfl⟩
theorem is18 : FnComp ⟨Try.prog, md⟩ 18 v18 := ⟨Try.f18, _, fun t => ⟨false, md⟩, Try.func18, rfl, by kernel_rfl, by kernel_rfl, by kernel_rfl⟩
theorem is19 : FnComp ⟨Try.prog, md⟩ 19 v19 := ⟨Try.f19, _, fun t => ⟨false, md⟩, Try.func19, rfl, by kernel_rfl, by kernel_rfl, by kernel_rfl⟩
theorem is20 : FnComp ⟨Try.prog, md⟩ 20 v20 := ⟨Try.f20, _, fun t => ⟨false, md⟩, Try.func20, rfl, by kernel_rfl, by kernel_rfl, by kernel_rfl⟩
theorem is21 : FnComp ⟨Try.prog, md⟩ 21 v21 := ⟨Try.f21, _, fun t => ⟨false, md⟩, Try.func21, rfl, by kernel_rfl, by kernel_rfl, by kernel_rfl⟩
theorem is22 : FnComp ⟨Try.prog, md⟩ 22 v22 := ⟨Try.f22, _, fun t => ⟨false, md⟩, Try.func22, rfl, by kernel_rfl, by kernel_rfl, by kernel_rfl⟩
theorem is23 : FnComp ⟨Try.prog, md⟩ 23 v23 := ⟨Try.f23, _, fun t => ⟨false, md⟩, Try.func23, rfl, by kernel_rfl, by kernel_rfl, by kernel_rfl⟩
theorem is24 : FnComp ⟨Try.prog, md⟩ 24 v24 := ⟨Try.f24, _, fun t => ⟨false, md⟩, Try.func24, rfl, by kernel_rfl, by kernel_rfl, by kernel_rfl⟩
theorem is25 : FnComp ⟨Try.prog, md⟩ 25 v25 := ⟨Try.f25, _, fun t => ⟨false, md⟩, Try.func25, rfl, by kernel_rfl, by kernel_rfl, by kernel_rfl⟩
theorem is26 : FnComp ⟨Try.prog, md⟩ 26 v26 := ⟨Try.f26, _, fun t => ⟨Nat.beq t 8 || false, md⟩, Try.func26, rfl, by kernel_rfl, by kernel_rfl, by kernel_rfl⟩
theorem is27 : FnComp ⟨Try.prog, md⟩ 27 v27 := ⟨Try.f27, _, fun t => ⟨false, md⟩, Try.func27, rfl, by kernel_rfl, by kernel_rfl, by kernel_rfl⟩
theorem is28 : FnComp ⟨Try.prog, md⟩ 28 v28 := ⟨Try.f28, _, fun t => ⟨false, md⟩, Try.func28, rfl, by kernel_rfl, by kernel_rfl, by kernel_rfl⟩
theorem is29 : FnComp ⟨Try.prog, md⟩ 29 v29 := ⟨Try.f29, _, fun t => ⟨false, md⟩, Try.func29, rfl, by kernel_rfl, by kernel_rfl, by kernel_rfl⟩
theorem is30 : FnComp ⟨Try.prog, md⟩ 30 v30 := ⟨Try.f30, _, fun t => ⟨false, md⟩, Try.func30, rfl, by kernel_rfl, by kernel_rfl, by kernel_rfl⟩
theorem is31 : FnComp ⟨Try.prog, md⟩ 31 v31 := ⟨Try.f31, _, fun t => ⟨false, md⟩, Try.func31, rfl, by kernel_rfl, by kernel_rfl, by kernel_rfl⟩
theorem is32 : FnComp ⟨Try.prog, md⟩ 32 v32 := ⟨Try.f32, _, fun t => ⟨Nat.beq t 22 || false, md⟩, Try.func32, rfl, by kernel_rfl, by kernel_rfl, by kernel_rfl⟩

theorem envOK : EnvOK ⟨Try.prog, md⟩ env := ⟨rfl, by kernel_rfl, fun f vf h => by
  change ft f = some vf at h
  unfold ft at h
  rcases ft_cons h with ⟨h1, h2⟩ | h
  · rw [h1, h2]; exact is3
  rcases ft_cons h with ⟨h1, h2⟩ | h
  · rw [h1, h2]; exact is4
  rcases ft_cons h with ⟨h1, h2⟩ | h
  · rw [h1, h2]; exact is5
  rcases ft_cons h with ⟨h1, h2⟩ | h
  · rw [h1, h2]; exact is6
  rcases ft_cons h with ⟨h1, h2⟩ | h
  · rw [h1, h2]; exact is7
  rcases ft_cons h with ⟨h1, h2⟩ | h
  · rw [h1, h2]; exact is8
  rcases ft_cons h with ⟨h1, h2⟩ | h
  · rw [h1, h2]; exact is9
  rcases ft_cons h with ⟨h1, h2⟩ | h
  · rw [h1, h2]; exact is10
  rcases ft_cons h with ⟨h1, h2⟩ | h
  · rw [h1, h2]; exact is11
  rcases ft_cons h with ⟨h1, h2⟩ | h
  · rw [h1, h2]; exact is12
  rcases ft_cons h with ⟨h1, h2⟩ | h
  · rw [h1, h2]; exact is13
  rcases ft_cons h with ⟨h1, h2⟩ | h
  · rw [h1, h2]; exact is14
  rcases ft_cons h with ⟨h1, h2⟩ | h
  · rw [h1, h2]; exact is15
  rcases ft_cons h with ⟨h1, h2⟩ | h
  · rw [h1, h2]; exact is16
  rcases ft_cons h with ⟨h1, h2⟩ | h
  · rw [h1, h2]; exact is17
  rcases ft_cons h with ⟨h1, h2⟩ | h
  · rw [h1, h2]; exact is18
  rcases ft_cons h with ⟨h1, h2⟩ | h
  · rw [h1, h2]; exact is19
  rcases ft_cons h with ⟨h1, h2⟩ | h
  · rw [h1, h2]; exact is20
  rcases ft_cons h with ⟨h1, h2⟩ | h
  · rw [h1, h2]; exact is21
  rcases ft_cons h with ⟨h1, h2⟩ | h
  · rw [h1, h2]; exact is22
  rcases ft_cons h with ⟨h1, h2⟩ | h
  · rw [h1, h2]; exact is23
  rcases ft_cons h with ⟨h1, h2⟩ | h
  · rw [h1, h2]; exact is24
  rcases ft_cons h with ⟨h1, h2⟩ | h
  · rw [h1, h2]; exact is25
  rcases ft_cons h with ⟨h1, h2⟩ | h
  · rw [h1, h2]; exact is26
  rcases ft_cons h with ⟨h1, h2⟩ | h
  · rw [h1, h2]; exact is27
  rcases ft_cons h with ⟨h1, h2⟩ | h
  · rw [h1, h2]; exact is28
  rcases ft_cons h with ⟨h1, h2⟩ | h
  · rw [h1, h2]; exact is29
  rcases ft_cons h with ⟨h1, h2⟩ | h
  · rw [h1, h2]; exact is30
  rcases ft_cons h with ⟨h1, h2⟩ | h
  · rw [h1, h2]; exact is31
  rcases ft_cons h with ⟨h1, h2⟩ | h
  · rw [h1, h2]; exact is32
  cases h⟩
end Go.Proofs.Ytnkdddlkghkpjaa
