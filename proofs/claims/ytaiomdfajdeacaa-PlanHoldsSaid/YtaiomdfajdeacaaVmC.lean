/-
  The functions of this seat as code of the abstract machine, and that they are so. Printed by a program.
-/
import Derived.Test.YtaiomdfajdeacaaV8
import Derived.Test.YtaiomdfajdeacaaChecked
import Derived.KernelRfl
set_option linter.all false
set_option linter.unusedVariables false
set_option linter.unusedSimpArgs false
set_option linter.unusedSectionVars false
namespace Go.Proofs.Ytaiomdfajdeacaa
open Go Go.VM

def md : FuncId → VM.Mode := fun f => bif Nat.beq f 26 then .shared else bif Nat.beq f 36 then .shared else .pure
/-- berthing/berthinglaw28.PlanTells -/
def c3 : VCode :=
  .seq (.ops [⟨some 2, none, .box (.t 0)⟩, ⟨some 3, none, .box (.t 1)⟩, ⟨some 4, none, .mov (.c (.bool false))⟩]) <|
  .seq (.seq (.ops [⟨some 17, none, .call .pure 6 []⟩, ⟨some 18, none, .un .not (.t 17)⟩]) <|
  .cond (.t 18) (.seq (.ops [⟨some 4, none, .mov (.c (.bool false))⟩]) <|
   .ret) (.skip)) <|
  .seq (.seq (.ops [⟨some 19, none, .fieldAddr 10 (.t 2)⟩, ⟨some 20, none, .load1 (.t 19)⟩, ⟨some 21, none, .lenS (.t 20)⟩, ⟨some 22, none, .bin .num .gtr (.t 21) (.c (.int .i64 12))⟩, ⟨some 23, none, .mov (.t 22)⟩, ⟨some 24, some (23, false), .fieldAddr 11 (.t 2)⟩, ⟨some 25, some (23, false), .load1 (.t 24)⟩, ⟨some 26, some (23, false), .lenS (.t 25)⟩, ⟨some 27, some (23, false), .bin .num .gtr (.t 26) (.c (.int .i64 12))⟩, ⟨some 28, none, .pick (.t 23) (.c (.bool true)) (.t 27)⟩]) <|
  .cond (.t 28) (.seq (.ops [⟨some 4, none, .mov (.c (.bool true))⟩]) <|
   .ret) (.skip)) <|
  .seq (.ops [⟨some 30, none, .fieldAddr 0 (.t 2)⟩, ⟨some 31, none, .loadN 5 (.t 30)⟩, ⟨some 32, none, .fieldAddr 5 (.t 2)⟩, ⟨some 33, none, .loadN 5 (.t 32)⟩, ⟨some 34, none, .fieldAddr 10 (.t 2)⟩, ⟨some 35, none, .load1 (.t 34)⟩, ⟨some 36, none, .fieldAddr 11 (.t 2)⟩, ⟨some 37, none, .load1 (.t 36)⟩, ⟨some 38, none, .call .pure 7 [(.t 31), (.t 33), (.t 35), (.t 37)]⟩, ⟨some 29, none, .mov (.t 38)⟩, ⟨some 39, none, .extract 0 (.t 29)⟩, ⟨some 40, none, .extract 1 (.t 29)⟩, ⟨some 5, none, .alloc [(.int .i64 0), (.int .i64 0), (.int .i64 0)]⟩, ⟨none, none, .storeN 3 (.t 5) (.t 39)⟩, ⟨some 6, none, .mov (.t 40)⟩]) <|
  .seq (.ops [⟨some 42, none, .fieldAddr 0 (.t 2)⟩, ⟨some 43, none, .loadN 5 (.t 42)⟩, ⟨some 44, none, .fieldAddr 5 (.t 2)⟩, ⟨some 45, none, .loadN 5 (.t 44)⟩, ⟨some 46, none, .fieldAddr 10 (.t 2)⟩, ⟨some 47, none, .load1 (.t 46)⟩, ⟨some 48, none, .fieldAddr 11 (.t 2)⟩, ⟨some 49, none, .load1 (.t 48)⟩, ⟨some 50, none, .call .pure 8 [(.t 43), (.t 45), (.t 47), (.t 49)]⟩, ⟨some 41, none, .mov (.t 50)⟩, ⟨some 51, none, .extract 0 (.t 41)⟩, ⟨some 52, none, .extract 1 (.t 41)⟩, ⟨some 7, none, .alloc [(.int .i64 0), (.int .i64 0), (.int .i64 0)]⟩, ⟨none, none, .storeN 3 (.t 7) (.t 51)⟩, ⟨some 8, none, .mov (.t 52)⟩]) <|
  .seq (.ops [⟨some 53, none, .fieldAddr 0 (.t 2)⟩, ⟨some 54, none, .loadN 5 (.t 53)⟩, ⟨some 55, none, .fieldAddr 5 (.t 2)⟩, ⟨some 56, none, .loadN 5 (.t 55)⟩, ⟨some 57, none, .fieldAddr 10 (.t 2)⟩, ⟨some 58, none, .load1 (.t 57)⟩, ⟨some 59, none, .fieldAddr 11 (.t 2)⟩, ⟨some 60, none, .load1 (.t 59)⟩, ⟨some 61, none, .call .pure 9 [(.t 54), (.t 56), (.t 58), (.t 60)]⟩, ⟨some 9, none, .mov (.t 61)⟩]) <|
  .seq (.ops [⟨some 62, none, .fieldAddr 12 (.t 2)⟩, ⟨some 63, none, .load1 (.t 62)⟩, ⟨some 64, none, .minmax false [(.t 63), (.c (.int .i64 100))]⟩, ⟨some 65, none, .minmax true [(.c (.int .i64 0)), (.t 64)]⟩, ⟨some 10, none, .mov (.t 65)⟩]) <|
  .seq (.ops [⟨some 66, none, .loadN 13 (.t 2)⟩, ⟨some 67, none, .mov (.t 10)⟩, ⟨some 68, none, .call .pure 10 [(.t 66), (.t 67)]⟩, ⟨some 11, none, .mov (.t 68)⟩]) <|
  .seq (.seq (.ops [⟨some 69, none, .loadN 3 (.t 5)⟩, ⟨some 70, none, .loadN 3 (.t 7)⟩, ⟨some 71, none, .bin (.agg [.i, .i, .i]) .neq (.t 69) (.t 70)⟩, ⟨some 72, none, .mov (.t 71)⟩, ⟨some 73, some (72, false), .mov (.t 6)⟩, ⟨some 74, some (72, false), .mov (.t 8)⟩, ⟨some 75, some (72, false), .bin .bool .neq (.t 73) (.t 74)⟩, ⟨some 76, none, .pick (.t 72) (.c (.bool true)) (.t 75)⟩, ⟨some 77, none, .mov (.t 76)⟩, ⟨some 78, some (77, false), .fieldAddr 0 (.t 2)⟩, ⟨some 79, some (77, false), .loadN 5 (.t 78)⟩, ⟨some 80, some (77, false), .fieldAddr 10 (.t 2)⟩, ⟨some 81, some (77, false), .load1 (.t 80)⟩, ⟨some 82, some (77, false), .call .pure 11 [(.t 79), (.t 81)]⟩, ⟨some 83, some (77, false), .fieldAddr 0 (.t 2)⟩, ⟨some 84, some (77, false), .loadN 5 (.t 83)⟩, ⟨some 85, some (77, false), .fieldAddr 10 (.t 2)⟩, ⟨some 86, some (77, false), .load1 (.t 85)⟩, ⟨some 87, some (77, false), .call .pure 12 [(.t 84), (.t 86)]⟩, ⟨some 88, some (77, false), .bin .bool .neq (.t 82) (.t 87)⟩, ⟨some 89, none, .pick (.t 77) (.c (.bool true)) (.t 88)⟩, ⟨some 90, none, .mov (.t 89)⟩, ⟨some 91, some (90, false), .mov (.t 11)⟩, ⟨some 92, some (90, false), .lenS (.t 91)⟩, ⟨some 93, some (90, false), .mov (.t 10)⟩, ⟨some 94, some (90, false), .mov (.t 9)⟩, ⟨some 95, some (90, false), .lenS (.t 94)⟩, ⟨some 96, some (90, false), .minmax false [(.t 93), (.t 95)]⟩, ⟨some 97, some (90, false), .bin .num .neq (.t 92) (.t 96)⟩, ⟨some 98, none, .pick (.t 90) (.c (.bool true)) (.t 97)⟩, ⟨some 99, none, .mov (.t 98)⟩, ⟨some 100, some (99, false), .fieldAddr 12 (.t 2)⟩, ⟨some 101, some (99, false), .load1 (.t 100)⟩, ⟨some 102, some (99, false), .call .pure 13 [(.t 101)]⟩, ⟨some 103, some (99, false), .fieldAddr 12 (.t 2)⟩, ⟨some 104, some (99, false), .load1 (.t 103)⟩, ⟨some 105, some (99, false), .minmax false [(.t 104), (.c (.int .i64 1000))]⟩, ⟨some 106, some (99, false), .minmax true [(.c (.int .i64 0)), (.t 105)]⟩, ⟨some 107, some (99, false), .bin .num .mul (.c (.int .i64 5)) (.t 106)⟩, ⟨some 108, some (99, false), .bin .num .add (.c (.int .i64 5)) (.t 107)⟩, ⟨some 109, some (99, false), .bin .num .neq (.t 102) (.t 108)⟩, ⟨some 110, none, .pick (.t 99) (.c (.bool true)) (.t 109)⟩]) <|
  .cond (.t 110) (.seq (.ops [⟨some 4, none, .mov (.c (.bool false))⟩]) <|
   .ret) (.skip)) <|
  .seq (.seq (.ops [⟨some 111, none, .mov (.t 11)⟩, ⟨some 112, none, .lenS (.t 111)⟩, ⟨some 113, none, .mov (.c (.int .i64 0))⟩]) <|
  .block 0 (.loop (.seq (.ops [⟨some 114, none, .bin .num .lss (.t 113) (.t 112)⟩]) <|
    .seq (.cond (.t 114) (.skip) (.exit 0)) <|
    .seq (.block 1 (.seq (.ops [⟨some 115, none, .mov (.t 113)⟩, ⟨some 12, none, .mov (.t 115)⟩]) <|
     .seq (.ops [⟨some 116, none, .mov (.t 11)⟩, ⟨some 117, none, .mov (.t 12)⟩, ⟨some 118, none, .idxAddrS 3 (.t 116) (.t 117)⟩, ⟨some 119, none, .loadN 3 (.t 118)⟩, ⟨some 120, none, .mov (.t 9)⟩, ⟨some 121, none, .mov (.t 12)⟩, ⟨some 122, none, .idxAddrS 3 (.t 120) (.t 121)⟩, ⟨some 123, none, .loadN 3 (.t 122)⟩, ⟨some 124, none, .bin (.agg [.i, .i, .i]) .neq (.t 119) (.t 123)⟩]) <|
     .cond (.t 124) (.seq (.ops [⟨some 4, none, .mov (.c (.bool false))⟩]) <|
      .ret) (.skip))) <|
    .ops [⟨some 125, none, .bin .num .add (.t 113) (.c (.int .i64 1))⟩, ⟨some 113, none, .mov (.t 125)⟩]))) <|
  .seq (.ops [⟨some 127, none, .fieldAddr 0 (.t 2)⟩, ⟨some 128, none, .loadN 5 (.t 127)⟩, ⟨some 129, none, .fieldAddr 10 (.t 2)⟩, ⟨some 130, none, .load1 (.t 129)⟩, ⟨some 131, none, .loadN 3 (.t 3)⟩, ⟨some 132, none, .call .pure 14 [(.t 128), (.t 130), (.t 131)]⟩, ⟨some 126, none, .mov (.t 132)⟩, ⟨some 133, none, .extract 0 (.t 126)⟩, ⟨some 134, none, .extract 1 (.t 126)⟩, ⟨some 13, none, .alloc [(.int .i64 0), (.int .i64 0), (.int .i64 0), (.int .i64 0), (.int .i64 0)]⟩, ⟨none, none, .storeN 5 (.t 13) (.t 133)⟩, ⟨some 14, none, .mov (.t 134)⟩]) <|
  .seq (.ops [⟨some 136, none, .fieldAddr 0 (.t 2)⟩, ⟨some 137, none, .loadN 5 (.t 136)⟩, ⟨some 138, none, .fieldAddr 10 (.t 2)⟩, ⟨some 139, none, .load1 (.t 138)⟩, ⟨some 140, none, .loadN 3 (.t 3)⟩, ⟨some 141, none, .call .pure 15 [(.t 137), (.t 139), (.t 140)]⟩, ⟨some 135, none, .mov (.t 141)⟩, ⟨some 142, none, .extract 0 (.t 135)⟩, ⟨some 143, none, .extract 1 (.t 135)⟩, ⟨some 15, none, .alloc [(.int .i64 0), (.int .i64 0), (.int .i64 0), (.int .i64 0), (.int .i64 0)]⟩, ⟨none, none, .storeN 5 (.t 15) (.t 142)⟩, ⟨some 16, none, .mov (.t 143)⟩]) <|
  .seq (.ops [⟨some 144, none, .loadN 5 (.t 13)⟩, ⟨some 145, none, .loadN 5 (.t 15)⟩, ⟨some 146, none, .bin (.agg [.i, .i, .i, .i, .i]) .eql (.t 144) (.t 145)⟩, ⟨some 147, none, .mov (.t 146)⟩, ⟨some 148, some (147, true), .mov (.t 14)⟩, ⟨some 149, some (147, true), .mov (.t 16)⟩, ⟨some 150, some (147, true), .call .pure 16 [(.t 148), (.t 149)]⟩, ⟨some 151, none, .pick (.t 147) (.t 150) (.c (.bool false))⟩, ⟨some 4, none, .mov (.t 151)⟩]) <|
  .ret
def v3 : VFunc := ⟨152, [.tmp 4], c3⟩
/-- berthing/berthinglaw28.PlanHolds -/
def c4 : VCode :=
  .seq (.ops [⟨some 1, none, .box (.t 0)⟩, ⟨some 2, none, .mov (.c (.bool false))⟩]) <|
  .seq (.seq (.ops [⟨some 9, none, .call .pure 6 []⟩, ⟨some 10, none, .un .not (.t 9)⟩]) <|
  .cond (.t 10) (.seq (.ops [⟨some 2, none, .mov (.c (.bool false))⟩]) <|
   .ret) (.skip)) <|
  .seq (.seq (.ops [⟨some 11, none, .fieldAddr 10 (.t 1)⟩, ⟨some 12, none, .load1 (.t 11)⟩, ⟨some 13, none, .lenS (.t 12)⟩, ⟨some 14, none, .bin .num .gtr (.t 13) (.c (.int .i64 12))⟩, ⟨some 15, none, .mov (.t 14)⟩, ⟨some 16, some (15, false), .fieldAddr 10 (.t 1)⟩, ⟨some 17, some (15, false), .load1 (.t 16)⟩, ⟨some 18, some (15, false), .lenS (.t 17)⟩, ⟨some 19, some (15, false), .fieldAddr 11 (.t 1)⟩, ⟨some 20, some (15, false), .load1 (.t 19)⟩, ⟨some 21, some (15, false), .lenS (.t 20)⟩, ⟨some 22, some (15, false), .bin .num .neq (.t 18) (.t 21)⟩, ⟨some 23, none, .pick (.t 15) (.c (.bool true)) (.t 22)⟩, ⟨some 24, none, .mov (.t 23)⟩, ⟨some 25, some (24, false), .fieldAddr 0 (.t 1)⟩, ⟨some 26, some (24, false), .loadN 5 (.t 25)⟩, ⟨some 27, some (24, false), .fieldAddr 10 (.t 1)⟩, ⟨some 28, some (24, false), .load1 (.t 27)⟩, ⟨some 29, some (24, false), .call .pure 11 [(.t 26), (.t 28)]⟩, ⟨some 30, some (24, false), .un .not (.t 29)⟩, ⟨some 31, none, .pick (.t 24) (.c (.bool true)) (.t 30)⟩, ⟨some 32, none, .mov (.t 31)⟩, ⟨some 33, some (32, false), .fieldAddr 5 (.t 1)⟩, ⟨some 34, some (32, false), .loadN 5 (.t 33)⟩, ⟨some 35, some (32, false), .fieldAddr 11 (.t 1)⟩, ⟨some 36, some (32, false), .load1 (.t 35)⟩, ⟨some 37, some (32, false), .call .pure 11 [(.t 34), (.t 36)]⟩, ⟨some 38, some (32, false), .un .not (.t 37)⟩, ⟨some 39, none, .pick (.t 32) (.c (.bool true)) (.t 38)⟩]) <|
  .cond (.t 39) (.seq (.ops [⟨some 2, none, .mov (.c (.bool true))⟩]) <|
   .ret) (.skip)) <|
  .seq (.ops [⟨some 40, none, .loadN 13 (.t 1)⟩, ⟨some 41, none, .call .pure 10 [(.t 40), (.c (.int .i64 200))]⟩, ⟨some 3, none, .mov (.t 41)⟩]) <|
  .seq (.seq (.ops [⟨some 42, none, .mov (.t 3)⟩, ⟨some 43, none, .lenS (.t 42)⟩, ⟨some 44, none, .fieldAddr 10 (.t 1)⟩, ⟨some 45, none, .load1 (.t 44)⟩, ⟨some 46, none, .lenS (.t 45)⟩, ⟨some 47, none, .call .pure 13 [(.t 46)]⟩, ⟨some 48, none, .bin .num .gtr (.t 43) (.t 47)⟩]) <|
  .cond (.t 48) (.seq (.ops [⟨some 2, none, .mov (.c (.bool false))⟩]) <|
   .ret) (.skip)) <|
  .seq (.draw [(4, [(.int .i64 0), (.int .i64 0), (.int .i64 0), (.int .i64 0), (.int .i64 0)])] [⟨some 49, none, .fieldAddr 0 (.t 1)⟩, ⟨some 50, none, .loadN 5 (.t 49)⟩, ⟨some 51, none, .fieldAddr 10 (.t 1)⟩, ⟨some 52, none, .load1 (.t 51)⟩, ⟨none, none, .idle⟩, ⟨none, none, .storeN 5 (.t 4) (.t 50)⟩, ⟨some 5, none, .mov (.t 52)⟩] [(3, 5)]) <|
  .seq (.seq (.ops [⟨some 53, none, .mov (.t 3)⟩, ⟨some 54, none, .lenS (.t 53)⟩, ⟨some 55, none, .mov (.c (.int .i64 0))⟩]) <|
  .block 0 (.loop (.seq (.ops [⟨some 56, none, .bin .num .lss (.t 55) (.t 54)⟩]) <|
    .seq (.cond (.t 56) (.skip) (.exit 0)) <|
    .seq (.block 1 (.seq (.ops [⟨some 57, none, .idxAddrS 3 (.t 53) (.t 55)⟩, ⟨some 58, none, .loadN 3 (.t 57)⟩, ⟨some 7, none, .alloc [(.int .i64 0), (.int .i64 0), (.int .i64 0)]⟩, ⟨none, none, .storeN 3 (.t 7) (.t 58)⟩]) <|
     .seq (.ops [⟨some 8, none, .mov (.c (.int .i64 99))⟩]) <|
     .seq (.seq (.ops [⟨some 59, none, .fieldAddr 0 (.t 7)⟩, ⟨some 60, none, .load1 (.t 59)⟩, ⟨some 61, none, .bin .num .eql (.t 60) (.c (.int .i64 (-1)))⟩]) <|
     .cond (.t 61) (.ops [⟨some 62, none, .call .pure 18 []⟩, ⟨some 63, none, .loadN 5 (.t 4)⟩, ⟨some 64, none, .mov (.t 5)⟩, ⟨some 65, none, .fieldAddr 1 (.t 7)⟩, ⟨some 66, none, .load1 (.t 65)⟩, ⟨some 67, none, .fieldAddr 2 (.t 7)⟩, ⟨some 68, none, .load1 (.t 67)⟩, ⟨some 69, none, .call .pure 17 [(.t 62), (.t 63), (.t 64), (.c (.int .i64 0)), (.t 66), (.t 68)]⟩, ⟨some 8, none, .mov (.t 69)⟩]) (.seq (.ops [⟨some 70, none, .fieldAddr 0 (.t 7)⟩, ⟨some 71, none, .load1 (.t 70)⟩, ⟨some 72, none, .bin .num .geq (.t 71) (.c (.int .i64 0))⟩, ⟨some 73, none, .mov (.t 72)⟩, ⟨some 74, some (73, true), .fieldAddr 0 (.t 7)⟩, ⟨some 75, some (73, true), .load1 (.t 74)⟩, ⟨some 76, some (73, true), .mov (.t 5)⟩, ⟨some 77, some (73, true), .lenS (.t 76)⟩, ⟨some 78, some (73, true), .bin .num .lss (.t 75) (.t 77)⟩, ⟨some 79, none, .pick (.t 73) (.t 78) (.c (.bool false))⟩]) <|
      .cond (.t 79) (.ops [⟨some 80, none, .loadN 5 (.t 4)⟩, ⟨some 81, none, .mov (.t 5)⟩, ⟨some 82, none, .fieldAddr 0 (.t 7)⟩, ⟨some 83, none, .load1 (.t 82)⟩, ⟨some 84, none, .idxAddrS 5 (.t 81) (.t 83)⟩, ⟨some 85, none, .loadN 5 (.t 84)⟩, ⟨some 86, none, .fieldAddr 1 (.t 7)⟩, ⟨some 87, none, .load1 (.t 86)⟩, ⟨some 88, none, .fieldAddr 2 (.t 7)⟩, ⟨some 89, none, .load1 (.t 88)⟩, ⟨some 90, none, .call .pure 17 [(.t 80), (.t 85), (.c (.sl .nil 0 [])), (.c (.int .i64 0)), (.t 87), (.t 89)]⟩, ⟨some 8, none, .mov (.t 90)⟩]) (.skip))) <|
     .seq (.ops [⟨some 92, none, .loadN 5 (.t 4)⟩, ⟨some 93, none, .mov (.t 5)⟩, ⟨some 94, none, .loadN 3 (.t 7)⟩, ⟨some 95, none, .call .pure 14 [(.t 92), (.t 93), (.t 94)]⟩, ⟨some 91, none, .mov (.t 95)⟩, ⟨some 96, none, .extract 0 (.t 91)⟩, ⟨some 97, none, .extract 1 (.t 91)⟩, ⟨none, none, .storeN 5 (.t 4) (.t 96)⟩, ⟨some 5, none, .mov (.t 97)⟩]) <|
     .seq (.ops [⟨some 98, none, .mov (.t 8)⟩, ⟨some 99, none, .bin .num .neq (.t 98) (.c (.int .i64 0))⟩, ⟨some 100, none, .mov (.t 99)⟩, ⟨some 101, some (100, false), .loadN 5 (.t 4)⟩, ⟨some 102, some (100, false), .mov (.t 5)⟩, ⟨some 103, some (100, false), .call .pure 11 [(.t 101), (.t 102)]⟩, ⟨some 104, some (100, false), .un .not (.t 103)⟩, ⟨some 105, none, .pick (.t 100) (.c (.bool true)) (.t 104)⟩]) <|
     .cond (.t 105) (.seq (.ops [⟨some 2, none, .mov (.c (.bool false))⟩]) <|
      .ret) (.skip))) <|
    .ops [⟨some 106, none, .bin .num .add (.t 55) (.c (.int .i64 1))⟩, ⟨some 55, none, .mov (.t 106)⟩]))) <|
  .seq (.ops [⟨some 107, none, .loadN 5 (.t 4)⟩, ⟨some 108, none, .fieldAddr 5 (.t 1)⟩, ⟨some 109, none, .loadN 5 (.t 108)⟩, ⟨some 110, none, .bin (.agg [.i, .i, .i, .i, .i]) .eql (.t 107) (.t 109)⟩, ⟨some 111, none, .mov (.t 110)⟩, ⟨some 112, some (111, true), .mov (.t 5)⟩, ⟨some 113, some (111, true), .fieldAddr 11 (.t 1)⟩, ⟨some 114, some (111, true), .load1 (.t 113)⟩, ⟨some 115, some (111, true), .call .pure 16 [(.t 112), (.t 114)]⟩, ⟨some 116, none, .pick (.t 111) (.t 115) (.c (.bool false))⟩, ⟨some 2, none, .mov (.t 116)⟩]) <|
  .ret
def v4 : VFunc := ⟨117, [.tmp 2], c4⟩
/-- berthing/berthinglaw28.PlanCounts -/
def c5 : VCode :=
  .seq (.ops [⟨some 1, none, .box (.t 0)⟩, ⟨some 2, none, .mov (.c (.bool false))⟩]) <|
  .seq (.seq (.ops [⟨some 17, none, .call .pure 6 []⟩, ⟨some 18, none, .un .not (.t 17)⟩]) <|
  .cond (.t 18) (.seq (.ops [⟨some 2, none, .mov (.c (.bool false))⟩]) <|
   .ret) (.skip)) <|
  .seq (.seq (.ops [⟨some 19, none, .fieldAddr 10 (.t 1)⟩, ⟨some 20, none, .load1 (.t 19)⟩, ⟨some 21, none, .lenS (.t 20)⟩, ⟨some 22, none, .bin .num .gtr (.t 21) (.c (.int .i64 12))⟩, ⟨some 23, none, .mov (.t 22)⟩, ⟨some 24, some (23, false), .fieldAddr 10 (.t 1)⟩, ⟨some 25, some (23, false), .load1 (.t 24)⟩, ⟨some 26, some (23, false), .lenS (.t 25)⟩, ⟨some 27, some (23, false), .fieldAddr 11 (.t 1)⟩, ⟨some 28, some (23, false), .load1 (.t 27)⟩, ⟨some 29, some (23, false), .lenS (.t 28)⟩, ⟨some 30, some (23, false), .bin .num .neq (.t 26) (.t 29)⟩, ⟨some 31, none, .pick (.t 23) (.c (.bool true)) (.t 30)⟩]) <|
  .cond (.t 31) (.seq (.ops [⟨some 2, none, .mov (.c (.bool true))⟩]) <|
   .ret) (.skip)) <|
  .seq (.draw [] [⟨some 32, none, .fieldAddr 0 (.t 1)⟩, ⟨some 33, none, .loadN 5 (.t 32)⟩, ⟨some 34, none, .buildSlice false 5 1 [(.int .i64 0), (.int .i64 0), (.int .i64 0), (.int .i64 0), (.int .i64 0)] [(0, 5, (.t 33))]⟩, ⟨some 35, none, .fieldAddr 10 (.t 1)⟩, ⟨some 36, none, .load1 (.t 35)⟩, ⟨some 37, none, .append false false 5 40 (.t 34) (.t 36)⟩, ⟨some 38, none, .fieldAddr 5 (.t 1)⟩, ⟨some 39, none, .loadN 5 (.t 38)⟩, ⟨some 40, none, .buildSlice false 5 1 [(.int .i64 0), (.int .i64 0), (.int .i64 0), (.int .i64 0), (.int .i64 0)] [(0, 5, (.t 39))]⟩, ⟨some 41, none, .fieldAddr 11 (.t 1)⟩, ⟨some 42, none, .load1 (.t 41)⟩, ⟨some 43, none, .append false false 5 40 (.t 40) (.t 42)⟩, ⟨some 3, none, .mov (.t 37)⟩, ⟨some 4, none, .mov (.t 43)⟩] [(7, 5), (10, 5)]) <|
  .seq (.ops [⟨some 5, none, .mov (.c (.int .i64 0))⟩]) <|
  .seq (.seq (.ops [⟨some 44, none, .mov (.t 3)⟩, ⟨some 45, none, .lenS (.t 44)⟩, ⟨some 46, none, .mov (.c (.int .i64 0))⟩]) <|
  .block 0 (.loop (.seq (.ops [⟨some 47, none, .bin .num .lss (.t 46) (.t 45)⟩]) <|
    .seq (.cond (.t 47) (.skip) (.exit 0)) <|
    .seq (.block 1 (.seq (.ops [⟨some 48, none, .mov (.t 46)⟩, ⟨some 6, none, .mov (.t 48)⟩]) <|
     .seq (.draw [(7, [(.int .i64 0), (.int .i64 0), (.int .i64 0), (.int .i64 0), (.int .i64 0)])] [⟨some 49, none, .mov (.t 3)⟩, ⟨some 50, none, .mov (.t 6)⟩, ⟨some 51, none, .idxAddrS 5 (.t 49) (.t 50)⟩, ⟨some 52, none, .fieldAddr 0 (.t 51)⟩, ⟨some 53, none, .load1 (.t 52)⟩, ⟨some 54, none, .mov (.t 3)⟩, ⟨some 55, none, .mov (.t 6)⟩, ⟨some 56, none, .idxAddrS 5 (.t 54) (.t 55)⟩, ⟨some 57, none, .fieldAddr 1 (.t 56)⟩, ⟨some 58, none, .load1 (.t 57)⟩, ⟨some 59, none, .mov (.t 3)⟩, ⟨some 60, none, .mov (.t 6)⟩, ⟨some 61, none, .idxAddrS 5 (.t 59) (.t 60)⟩, ⟨some 62, none, .fieldAddr 2 (.t 61)⟩, ⟨some 63, none, .load1 (.t 62)⟩, ⟨some 64, none, .mov (.t 3)⟩, ⟨some 65, none, .mov (.t 6)⟩, ⟨some 66, none, .idxAddrS 5 (.t 64) (.t 65)⟩, ⟨some 67, none, .fieldAddr 3 (.t 66)⟩, ⟨some 68, none, .load1 (.t 67)⟩, ⟨some 69, none, .mov (.t 3)⟩, ⟨some 70, none, .mov (.t 6)⟩, ⟨some 71, none, .idxAddrS 5 (.t 69) (.t 70)⟩, ⟨some 72, none, .fieldAddr 4 (.t 71)⟩, ⟨some 73, none, .load1 (.t 72)⟩, ⟨some 74, none, .build [(.int .i64 0), (.int .i64 0), (.int .i64 0), (.int .i64 0), (.int .i64 0)] [(0, 1, (.t 53)), (1, 1, (.t 58)), (2, 1, (.t 63)), (3, 1, (.t 68)), (4, 1, (.t 73))]⟩, ⟨none, none, .idle⟩, ⟨none, none, .storeN 5 (.t 7) (.t 74)⟩] []) <|
     .seq (.draw [(8, [(.int .i64 0), (.int .i64 0), (.int .i64 0), (.int .i64 0), (.int .i64 0)])] [⟨some 75, none, .mov (.t 4)⟩, ⟨some 76, none, .mov (.t 6)⟩, ⟨some 77, none, .idxAddrS 5 (.t 75) (.t 76)⟩, ⟨some 78, none, .fieldAddr 0 (.t 77)⟩, ⟨some 79, none, .load1 (.t 78)⟩, ⟨some 80, none, .mov (.t 4)⟩, ⟨some 81, none, .mov (.t 6)⟩, ⟨some 82, none, .idxAddrS 5 (.t 80) (.t 81)⟩, ⟨some 83, none, .fieldAddr 1 (.t 82)⟩, ⟨some 84, none, .load1 (.t 83)⟩, ⟨some 85, none, .mov (.t 4)⟩, ⟨some 86, none, .mov (.t 6)⟩, ⟨some 87, none, .idxAddrS 5 (.t 85) (.t 86)⟩, ⟨some 88, none, .fieldAddr 2 (.t 87)⟩, ⟨some 89, none, .load1 (.t 88)⟩, ⟨some 90, none, .mov (.t 4)⟩, ⟨some 91, none, .mov (.t 6)⟩, ⟨some 92, none, .idxAddrS 5 (.t 90) (.t 91)⟩, ⟨some 93, none, .fieldAddr 3 (.t 92)⟩, ⟨some 94, none, .load1 (.t 93)⟩, ⟨some 95, none, .mov (.t 4)⟩, ⟨some 96, none, .mov (.t 6)⟩, ⟨some 97, none, .idxAddrS 5 (.t 95) (.t 96)⟩, ⟨some 98, none, .fieldAddr 4 (.t 97)⟩, ⟨some 99, none, .load1 (.t 98)⟩, ⟨some 100, none, .build [(.int .i64 0), (.int .i64 0), (.int .i64 0), (.int .i64 0), (.int .i64 0)] [(0, 1, (.t 79)), (1, 1, (.t 84)), (2, 1, (.t 89)), (3, 1, (.t 94)), (4, 1, (.t 99))]⟩, ⟨none, none, .idle⟩, ⟨none, none, .storeN 5 (.t 8) (.t 100)⟩] []) <|
     .seq (.ops [⟨some 101, none, .mov (.c (.int .i64 0))⟩]) <|
     .block 2 (.loop (.seq (.ops [⟨some 102, none, .bin .num .lss (.t 101) (.c (.int .i64 5))⟩]) <|
       .seq (.cond (.t 102) (.skip) (.exit 2)) <|
       .seq (.block 3 (.seq (.ops [⟨some 103, none, .mov (.t 101)⟩, ⟨some 9, none, .mov (.t 103)⟩]) <|
        .seq (.ops [⟨some 104, none, .mov (.t 9)⟩, ⟨some 105, none, .idxAddrA 5 1 (.t 7) (.t 104)⟩, ⟨some 106, none, .load1 (.t 105)⟩, ⟨some 107, none, .mov (.t 9)⟩, ⟨some 108, none, .idxAddrA 5 1 (.t 8) (.t 107)⟩, ⟨some 109, none, .load1 (.t 108)⟩, ⟨some 110, none, .bin .num .neq (.t 106) (.t 109)⟩]) <|
        .cond (.t 110) (.ops [⟨some 111, none, .mov (.t 5)⟩, ⟨some 112, none, .bin .num .add (.t 111) (.c (.int .i64 1))⟩, ⟨some 5, none, .mov (.t 112)⟩]) (.skip))) <|
       .ops [⟨some 113, none, .bin .num .add (.t 101) (.c (.int .i64 1))⟩, ⟨some 101, none, .mov (.t 113)⟩])))) <|
    .ops [⟨some 114, none, .bin .num .add (.t 46) (.c (.int .i64 1))⟩, ⟨some 46, none, .mov (.t 114)⟩]))) <|
  .seq (.ops [⟨some 115, none, .loadN 13 (.t 1)⟩, ⟨some 116, none, .call .pure 10 [(.t 115), (.c (.int .i64 200))]⟩, ⟨some 10, none, .mov (.t 116)⟩]) <|
  .seq (.draw [(11, [(.int .i64 0), (.int .i64 0), (.int .i64 0), (.int .i64 0), (.int .i64 0)])] [⟨some 117, none, .fieldAddr 0 (.t 1)⟩, ⟨some 118, none, .loadN 5 (.t 117)⟩, ⟨some 119, none, .fieldAddr 10 (.t 1)⟩, ⟨some 120, none, .load1 (.t 119)⟩, ⟨none, none, .idle⟩, ⟨none, none, .storeN 5 (.t 11) (.t 118)⟩, ⟨some 12, none, .mov (.t 120)⟩] [(3, 5)]) <|
  .seq (.seq (.ops [⟨some 121, none, .mov (.t 10)⟩, ⟨some 122, none, .lenS (.t 121)⟩, ⟨some 123, none, .mov (.c (.int .i64 0))⟩]) <|
  .block 4 (.loop (.seq (.ops [⟨some 124, none, .bin .num .lss (.t 123) (.t 122)⟩]) <|
    .seq (.cond (.t 124) (.skip) (.exit 4)) <|
    .seq (.block 5 (.seq (.ops [⟨some 125, none, .mov (.t 123)⟩, ⟨some 126, none, .idxAddrS 3 (.t 121) (.t 123)⟩, ⟨some 127, none, .loadN 3 (.t 126)⟩, ⟨some 14, none, .alloc [(.int .i64 0), (.int .i64 0), (.int .i64 0)]⟩, ⟨some 13, none, .mov (.t 125)⟩, ⟨none, none, .storeN 3 (.t 14) (.t 127)⟩]) <|
     .seq (.seq (.ops [⟨some 128, none, .mov (.t 10)⟩, ⟨some 129, none, .mov (.t 13)⟩, ⟨some 130, none, .sliceS 3 (.t 128) none (some (.t 129)) none⟩, ⟨some 131, none, .lenS (.t 130)⟩, ⟨some 132, none, .mov (.c (.int .i64 0))⟩]) <|
     .block 6 (.loop (.seq (.ops [⟨some 133, none, .bin .num .lss (.t 132) (.t 131)⟩]) <|
       .seq (.cond (.t 133) (.skip) (.exit 6)) <|
       .seq (.block 7 (.seq (.ops [⟨some 134, none, .idxAddrS 3 (.t 130) (.t 132)⟩, ⟨some 135, none, .loadN 3 (.t 134)⟩, ⟨some 16, none, .alloc [(.int .i64 0), (.int .i64 0), (.int .i64 0)]⟩, ⟨none, none, .storeN 3 (.t 16) (.t 135)⟩]) <|
        .seq (.ops [⟨some 136, none, .fieldAddr 0 (.t 14)⟩, ⟨some 137, none, .load1 (.t 136)⟩, ⟨some 138, none, .fieldAddr 0 (.t 16)⟩, ⟨some 139, none, .load1 (.t 138)⟩, ⟨some 140, none, .bin .num .eql (.t 137) (.t 139)⟩, ⟨some 141, none, .mov (.t 140)⟩, ⟨some 142, some (141, true), .fieldAddr 1 (.t 14)⟩, ⟨some 143, some (141, true), .load1 (.t 142)⟩, ⟨some 144, some (141, true), .fieldAddr 1 (.t 16)⟩, ⟨some 145, some (141, true), .load1 (.t 144)⟩, ⟨some 146, some (141, true), .bin .num .eql (.t 143) (.t 145)⟩, ⟨some 147, none, .pick (.t 141) (.t 146) (.c (.bool false))⟩]) <|
        .cond (.t 147) (.seq (.ops [⟨some 2, none, .mov (.c (.bool false))⟩]) <|
         .ret) (.skip))) <|
       .ops [⟨some 148, none, .bin .num .add (.t 132) (.c (.int .i64 1))⟩, ⟨some 132, none, .mov (.t 148)⟩]))) <|
     .ops [⟨some 150, none, .loadN 5 (.t 11)⟩, ⟨some 151, none, .mov (.t 12)⟩, ⟨some 152, none, .loadN 3 (.t 14)⟩, ⟨some 153, none, .call .pure 14 [(.t 150), (.t 151), (.t 152)]⟩, ⟨some 149, none, .mov (.t 153)⟩, ⟨some 154, none, .extract 0 (.t 149)⟩, ⟨some 155, none, .extract 1 (.t 149)⟩, ⟨none, none, .storeN 5 (.t 11) (.t 154)⟩, ⟨some 12, none, .mov (.t 155)⟩])) <|
    .ops [⟨some 156, none, .bin .num .add (.t 123) (.c (.int .i64 1))⟩, ⟨some 123, none, .mov (.t 156)⟩]))) <|
  .seq (.ops [⟨some 157, none, .mov (.t 10)⟩, ⟨some 158, none, .lenS (.t 157)⟩, ⟨some 159, none, .mov (.t 5)⟩, ⟨some 160, none, .bin .num .eql (.t 158) (.t 159)⟩, ⟨some 161, none, .mov (.t 160)⟩, ⟨some 162, some (161, true), .loadN 5 (.t 11)⟩, ⟨some 163, some (161, true), .fieldAddr 5 (.t 1)⟩, ⟨some 164, some (161, true), .loadN 5 (.t 163)⟩, ⟨some 165, some (161, true), .bin (.agg [.i, .i, .i, .i, .i]) .eql (.t 162) (.t 164)⟩, ⟨some 166, none, .pick (.t 161) (.t 165) (.c (.bool false))⟩, ⟨some 167, none, .mov (.t 166)⟩, ⟨some 168, some (167, true), .mov (.t 12)⟩, ⟨some 169, some (167, true), .fieldAddr 11 (.t 1)⟩, ⟨some 170, some (167, true), .load1 (.t 169)⟩, ⟨some 171, some (167, true), .call .pure 16 [(.t 168), (.t 170)]⟩, ⟨some 172, none, .pick (.t 167) (.t 171) (.c (.bool false))⟩, ⟨some 2, none, .mov (.t 172)⟩]) <|
  .ret
def v5 : VFunc := ⟨173, [.tmp 2], c5⟩
/-- berthing/berthinglaw28.first -/
def c6 : VCode :=
  .seq (.ops [⟨some 0, none, .mov (.c (.bool false))⟩]) <|
  .seq (.ops [⟨some 1, none, .mov (.f 19)⟩]) <|
  .seq (.ops [⟨some 6, none, .mov (.t 1)⟩, ⟨some 7, none, .callV (.t 6) [(.c (.int .i64 2))]⟩, ⟨some 8, none, .mov (.t 1)⟩, ⟨some 9, none, .callV (.t 8) [(.c (.int .i64 4))]⟩, ⟨some 10, none, .mov (.t 1)⟩, ⟨some 11, none, .callV (.t 10) [(.c (.int .i64 2))]⟩, ⟨some 12, none, .buildSlice false 5 1 [(.int .i64 0), (.int .i64 0), (.int .i64 0), (.int .i64 0), (.int .i64 0)] [(0, 5, (.t 11))]⟩, ⟨some 13, none, .mov (.t 1)⟩, ⟨some 14, none, .callV (.t 13) [(.c (.int .i64 4))]⟩, ⟨some 15, none, .buildSlice false 5 1 [(.int .i64 0), (.int .i64 0), (.int .i64 0), (.int .i64 0), (.int .i64 0)] [(0, 5, (.t 14))]⟩, ⟨some 16, none, .build [(.int .i64 0), (.int .i64 0), (.int .i64 0), (.int .i64 0), (.int .i64 0), (.int .i64 0), (.int .i64 0), (.int .i64 0), (.int .i64 0), (.int .i64 0), (.sl .nil 0 []), (.sl .nil 0 []), (.int .i64 0)] [(0, 5, (.t 7)), (5, 5, (.t 9)), (10, 1, (.t 12)), (11, 1, (.t 15)), (12, 1, (.c (.int .i64 0)))]⟩, ⟨some 17, none, .call .pure 10 [(.t 16), (.c (.int .i64 9))]⟩, ⟨some 2, none, .mov (.t 17)⟩]) <|
  .seq (.ops [⟨some 18, none, .mov (.t 1)⟩, ⟨some 19, none, .callV (.t 18) [(.c (.int .i64 4))]⟩, ⟨some 20, none, .mov (.t 1)⟩, ⟨some 21, none, .callV (.t 20) [(.c (.int .i64 2))]⟩, ⟨some 22, none, .mov (.t 1)⟩, ⟨some 23, none, .callV (.t 22) [(.c (.int .i64 4))]⟩, ⟨some 24, none, .buildSlice false 5 1 [(.int .i64 0), (.int .i64 0), (.int .i64 0), (.int .i64 0), (.int .i64 0)] [(0, 5, (.t 23))]⟩, ⟨some 25, none, .mov (.t 1)⟩, ⟨some 26, none, .callV (.t 25) [(.c (.int .i64 2))]⟩, ⟨some 27, none, .buildSlice false 5 1 [(.int .i64 0), (.int .i64 0), (.int .i64 0), (.int .i64 0), (.int .i64 0)] [(0, 5, (.t 26))]⟩, ⟨some 28, none, .build [(.int .i64 0), (.int .i64 0), (.int .i64 0), (.int .i64 0), (.int .i64 0), (.int .i64 0), (.int .i64 0), (.int .i64 0), (.int .i64 0), (.int .i64 0), (.sl .nil 0 []), (.sl .nil 0 []), (.int .i64 0)] [(0, 5, (.t 19)), (5, 5, (.t 21)), (10, 1, (.t 24)), (11, 1, (.t 27)), (12, 1, (.c (.int .i64 0)))]⟩, ⟨some 29, none, .call .pure 10 [(.t 28), (.c (.int .i64 9))]⟩, ⟨some 3, none, .mov (.t 29)⟩]) <|
  .seq (.ops [⟨some 31, none, .mov (.t 1)⟩, ⟨some 32, none, .callV (.t 31) [(.c (.int .i64 2))]⟩, ⟨some 33, none, .mov (.t 1)⟩, ⟨some 34, none, .callV (.t 33) [(.c (.int .i64 2))]⟩, ⟨some 35, none, .buildSlice false 5 1 [(.int .i64 0), (.int .i64 0), (.int .i64 0), (.int .i64 0), (.int .i64 0)] [(0, 5, (.t 34))]⟩, ⟨some 36, none, .build [(.int .i64 0), (.int .i64 0), (.int .i64 0)] [(0, 1, (.c (.int .i64 0))), (1, 1, (.c (.int .i64 3))), (2, 1, (.c (.int .i64 5)))]⟩, ⟨some 37, none, .call .pure 14 [(.t 32), (.t 35), (.t 36)]⟩, ⟨some 30, none, .mov (.t 37)⟩, ⟨some 38, none, .extract 0 (.t 30)⟩, ⟨some 39, none, .extract 1 (.t 30)⟩, ⟨some 4, none, .alloc [(.int .i64 0), (.int .i64 0), (.int .i64 0), (.int .i64 0), (.int .i64 0)]⟩, ⟨none, none, .storeN 5 (.t 4) (.t 38)⟩, ⟨some 5, none, .mov (.t 39)⟩]) <|
  .seq (.draw [] [⟨some 40, none, .mov (.t 2)⟩, ⟨some 41, none, .lenS (.t 40)⟩, ⟨some 42, none, .bin .num .eql (.t 41) (.c (.int .i64 2))⟩, ⟨some 43, none, .mov (.t 42)⟩, ⟨some 44, some (43, true), .mov (.t 2)⟩, ⟨some 45, some (43, true), .idxAddrS 3 (.t 44) (.c (.int .i64 0))⟩, ⟨some 46, some (43, true), .loadN 3 (.t 45)⟩, ⟨some 47, some (43, true), .build [(.int .i64 0), (.int .i64 0), (.int .i64 0)] [(0, 1, (.c (.int .i64 (-1)))), (1, 1, (.c (.int .i64 0))), (2, 1, (.c (.int .i64 4)))]⟩, ⟨some 48, some (43, true), .bin (.agg [.i, .i, .i]) .eql (.t 46) (.t 47)⟩, ⟨some 49, none, .pick (.t 43) (.t 48) (.c (.bool false))⟩, ⟨some 50, none, .mov (.t 49)⟩, ⟨some 51, some (50, true), .mov (.t 2)⟩, ⟨some 52, some (50, true), .idxAddrS 3 (.t 51) (.c (.int .i64 1))⟩, ⟨some 53, some (50, true), .fieldAddr 0 (.t 52)⟩, ⟨some 54, some (50, true), .load1 (.t 53)⟩, ⟨some 55, some (50, true), .bin .num .eql (.t 54) (.c (.int .i64 0))⟩, ⟨some 56, none, .pick (.t 50) (.t 55) (.c (.bool false))⟩, ⟨some 57, none, .mov (.t 56)⟩, ⟨some 58, some (57, true), .mov (.t 3)⟩, ⟨some 59, some (57, true), .lenS (.t 58)⟩, ⟨some 60, some (57, true), .bin .num .eql (.t 59) (.c (.int .i64 2))⟩, ⟨some 61, none, .pick (.t 57) (.t 60) (.c (.bool false))⟩, ⟨some 62, none, .mov (.t 61)⟩, ⟨some 63, some (62, true), .mov (.t 3)⟩, ⟨some 64, some (62, true), .idxAddrS 3 (.t 63) (.c (.int .i64 0))⟩, ⟨some 65, some (62, true), .fieldAddr 0 (.t 64)⟩, ⟨some 66, some (62, true), .load1 (.t 65)⟩, ⟨some 67, some (62, true), .bin .num .eql (.t 66) (.c (.int .i64 0))⟩, ⟨some 68, none, .pick (.t 62) (.t 67) (.c (.bool false))⟩, ⟨some 69, none, .mov (.t 68)⟩, ⟨some 70, some (69, true), .mov (.t 3)⟩, ⟨some 71, some (69, true), .idxAddrS 3 (.t 70) (.c (.int .i64 1))⟩, ⟨some 72, some (69, true), .fieldAddr 0 (.t 71)⟩, ⟨some 73, some (69, true), .load1 (.t 72)⟩, ⟨some 74, some (69, true), .bin .num .eql (.t 73) (.c (.int .i64 (-1)))⟩, ⟨some 75, none, .pick (.t 69) (.t 74) (.c (.bool false))⟩, ⟨some 76, none, .mov (.t 75)⟩, ⟨some 77, some (76, true), .mov (.t 1)⟩, ⟨some 78, some (76, true), .callV (.t 77) [(.c (.int .i64 4))]⟩, ⟨some 79, some (76, true), .mov (.t 1)⟩, ⟨some 80, some (76, true), .callV (.t 79) [(.c (.int .i64 2))]⟩, ⟨some 81, some (76, true), .mov (.t 1)⟩, ⟨some 82, some (76, true), .callV (.t 81) [(.c (.int .i64 2))]⟩, ⟨some 83, some (76, true), .buildSlice false 5 2 [(.int .i64 0), (.int .i64 0), (.int .i64 0), (.int .i64 0), (.int .i64 0), (.int .i64 0), (.int .i64 0), (.int .i64 0), (.int .i64 0), (.int .i64 0)] [(0, 5, (.t 80)), (5, 5, (.t 82))]⟩, ⟨some 84, some (76, true), .call .pure 11 [(.t 78), (.t 83)]⟩, ⟨some 85, none, .pick (.t 76) (.t 84) (.c (.bool false))⟩, ⟨some 86, none, .mov (.t 85)⟩, ⟨some 87, some (86, true), .mov (.t 1)⟩, ⟨some 88, some (86, true), .callV (.t 87) [(.c (.int .i64 4))]⟩, ⟨some 89, some (86, true), .mov (.t 1)⟩, ⟨some 90, some (86, true), .callV (.t 89) [(.c (.int .i64 2))]⟩, ⟨some 91, some (86, true), .mov (.t 1)⟩, ⟨some 92, some (86, true), .callV (.t 91) [(.c (.int .i64 3))]⟩, ⟨some 93, some (86, true), .buildSlice false 5 2 [(.int .i64 0), (.int .i64 0), (.int .i64 0), (.int .i64 0), (.int .i64 0), (.int .i64 0), (.int .i64 0), (.int .i64 0), (.int .i64 0), (.int .i64 0)] [(0, 5, (.t 90)), (5, 5, (.t 92))]⟩, ⟨some 94, some (86, true), .call .pure 11 [(.t 88), (.t 93)]⟩, ⟨some 95, some (86, true), .un .not (.t 94)⟩, ⟨some 96, none, .pick (.t 86) (.t 95) (.c (.bool false))⟩, ⟨some 97, none, .mov (.t 96)⟩, ⟨some 98, some (97, true), .call .pure 13 [(.c (.int .i64 1))]⟩, ⟨some 99, some (97, true), .bin .num .eql (.t 98) (.c (.int .i64 10))⟩, ⟨some 100, none, .pick (.t 97) (.t 99) (.c (.bool false))⟩, ⟨some 101, none, .mov (.t 100)⟩, ⟨some 102, some (101, true), .loadN 5 (.t 4)⟩, ⟨some 103, some (101, true), .mov (.t 1)⟩, ⟨some 104, some (101, true), .callV (.t 103) [(.c (.int .i64 2))]⟩, ⟨some 105, some (101, true), .bin (.agg [.i, .i, .i, .i, .i]) .eql (.t 102) (.t 104)⟩, ⟨some 106, none, .pick (.t 101) (.t 105) (.c (.bool false))⟩, ⟨some 107, none, .mov (.t 106)⟩, ⟨some 108, some (107, true), .mov (.t 5)⟩, ⟨some 109, some (107, true), .idxAddrS 5 (.t 108) (.c (.int .i64 0))⟩, ⟨some 110, some (107, true), .fieldAddr 3 (.t 109)⟩, ⟨some 111, some (107, true), .load1 (.t 110)⟩, ⟨some 112, some (107, true), .bin .num .eql (.t 111) (.c (.int .i64 5))⟩, ⟨some 113, none, .pick (.t 107) (.t 112) (.c (.bool false))⟩, ⟨some 0, none, .mov (.t 113)⟩] [(62, 64)]) <|
  .ret
def v6 : VFunc := ⟨114, [.tmp 0], c6⟩
/-- berthing/plan.Next -/
def c7 : VCode :=
  .seq (.ops [⟨some 4, none, .box (.t 0)⟩, ⟨some 5, none, .box (.t 1)⟩, ⟨some 8, none, .alloc [(.int .i64 0), (.int .i64 0), (.int .i64 0)]⟩, ⟨some 9, none, .mov (.c (.bool false))⟩]) <|
  .seq (.seq (.ops [⟨some 18, none, .mov (.t 2)⟩, ⟨some 19, none, .lenS (.t 18)⟩, ⟨some 20, none, .mov (.t 3)⟩, ⟨some 21, none, .lenS (.t 20)⟩, ⟨some 22, none, .bin .num .neq (.t 19) (.t 21)⟩]) <|
  .cond (.t 22) (.seq (.ops [⟨some 23, none, .build [(.int .i64 0), (.int .i64 0), (.int .i64 0)] []⟩, ⟨none, none, .storeN 3 (.t 8) (.t 23)⟩, ⟨some 9, none, .mov (.c (.bool false))⟩]) <|
   .ret) (.skip)) <|
  .seq (.seq (.ops [⟨some 25, none, .mov (.t 2)⟩, ⟨some 26, none, .mov (.t 3)⟩, ⟨some 27, none, .call .pure 21 []⟩, ⟨some 28, none, .call .pure 20 [(.t 25), (.t 26), (.t 27), (.c (.int .i64 0))]⟩, ⟨some 24, none, .mov (.t 28)⟩, ⟨some 29, none, .extract 0 (.t 24)⟩, ⟨some 30, none, .extract 1 (.t 24)⟩, ⟨some 10, none, .alloc [(.int .i64 0), (.int .i64 0), (.int .i64 0)]⟩, ⟨none, none, .storeN 3 (.t 10) (.t 29)⟩, ⟨some 11, none, .mov (.t 30)⟩]) <|
  .seq (.ops [⟨some 31, none, .mov (.t 11)⟩]) <|
  .cond (.t 31) (.seq (.ops [⟨some 32, none, .loadN 3 (.t 10)⟩, ⟨none, none, .storeN 3 (.t 8) (.t 32)⟩, ⟨some 9, none, .mov (.c (.bool true))⟩]) <|
   .ret) (.skip)) <|
  .seq (.seq (.ops [⟨some 34, none, .loadN 5 (.t 4)⟩, ⟨some 35, none, .loadN 5 (.t 5)⟩, ⟨some 36, none, .mov (.t 2)⟩, ⟨some 37, none, .mov (.t 3)⟩, ⟨some 38, none, .call .pure 22 [(.t 34), (.t 35), (.t 36), (.t 37)]⟩, ⟨some 33, none, .mov (.t 38)⟩, ⟨some 39, none, .extract 0 (.t 33)⟩, ⟨some 40, none, .extract 1 (.t 33)⟩, ⟨some 12, none, .alloc [(.int .i64 0), (.int .i64 0), (.int .i64 0)]⟩, ⟨none, none, .storeN 3 (.t 12) (.t 39)⟩, ⟨some 13, none, .mov (.t 40)⟩]) <|
  .seq (.ops [⟨some 41, none, .mov (.t 13)⟩]) <|
  .cond (.t 41) (.seq (.ops [⟨some 42, none, .loadN 3 (.t 12)⟩, ⟨none, none, .storeN 3 (.t 8) (.t 42)⟩, ⟨some 9, none, .mov (.c (.bool true))⟩]) <|
   .ret) (.skip)) <|
  .seq (.seq (.draw [(14, [(.int .i64 0), (.int .i64 0), (.int .i64 0)])] [⟨some 44, none, .loadN 5 (.t 4)⟩, ⟨some 45, none, .loadN 5 (.t 5)⟩, ⟨some 46, none, .call .pure 24 []⟩, ⟨some 47, none, .call .pure 23 [(.c (.int .i64 (-1))), (.t 44), (.t 45), (.t 46), (.c (.int .i64 1))]⟩, ⟨some 43, none, .mov (.t 47)⟩, ⟨some 48, none, .extract 0 (.t 43)⟩, ⟨some 49, none, .extract 1 (.t 43)⟩, ⟨none, none, .idle⟩, ⟨none, none, .storeN 3 (.t 14) (.t 48)⟩, ⟨some 15, none, .mov (.t 49)⟩] []) <|
  .seq (.ops [⟨some 50, none, .mov (.t 15)⟩]) <|
  .cond (.t 50) (.seq (.ops [⟨some 51, none, .loadN 3 (.t 14)⟩, ⟨none, none, .storeN 3 (.t 8) (.t 51)⟩, ⟨some 9, none, .mov (.c (.bool true))⟩]) <|
   .ret) (.skip)) <|
  .seq (.seq (.ops [⟨some 53, none, .mov (.t 2)⟩, ⟨some 54, none, .mov (.t 3)⟩, ⟨some 55, none, .call .pure 24 []⟩, ⟨some 56, none, .call .pure 20 [(.t 53), (.t 54), (.t 55), (.c (.int .i64 1))]⟩, ⟨some 52, none, .mov (.t 56)⟩, ⟨some 57, none, .extract 0 (.t 52)⟩, ⟨some 58, none, .extract 1 (.t 52)⟩, ⟨some 16, none, .alloc [(.int .i64 0), (.int .i64 0), (.int .i64 0)]⟩, ⟨none, none, .storeN 3 (.t 16) (.t 57)⟩, ⟨some 17, none, .mov (.t 58)⟩]) <|
  .seq (.ops [⟨some 59, none, .mov (.t 17)⟩]) <|
  .cond (.t 59) (.seq (.ops [⟨some 60, none, .loadN 3 (.t 16)⟩, ⟨none, none, .storeN 3 (.t 8) (.t 60)⟩, ⟨some 9, none, .mov (.c (.bool true))⟩]) <|
   .ret) (.skip)) <|
  .seq (.ops [⟨some 61, none, .loadN 5 (.t 4)⟩, ⟨some 62, none, .loadN 5 (.t 5)⟩, ⟨some 63, none, .call .pure 21 []⟩, ⟨some 64, none, .call .pure 23 [(.c (.int .i64 (-1))), (.t 61), (.t 62), (.t 63), (.c (.int .i64 0))]⟩, ⟨some 65, none, .extract 0 (.t 64)⟩, ⟨some 66, none, .extract 1 (.t 64)⟩, ⟨none, none, .storeN 3 (.t 8) (.t 65)⟩, ⟨some 9, none, .mov (.t 66)⟩]) <|
  .ret
def v7 : VFunc := ⟨67, [.cellN 3 8, .tmp 9], c7⟩
/-- berthing/berthingref28.Next -/
def c8 : VCode :=
  .seq (.ops [⟨some 4, none, .box (.t 0)⟩, ⟨some 5, none, .box (.t 1)⟩, ⟨some 8, none, .alloc [(.int .i64 0), (.int .i64 0), (.int .i64 0)]⟩, ⟨some 9, none, .mov (.c (.bool false))⟩]) <|
  .seq (.seq (.ops [⟨some 23, none, .mov (.t 2)⟩, ⟨some 24, none, .lenS (.t 23)⟩, ⟨some 25, none, .mov (.t 3)⟩, ⟨some 26, none, .lenS (.t 25)⟩, ⟨some 27, none, .bin .num .neq (.t 24) (.t 26)⟩]) <|
  .cond (.t 27) (.seq (.ops [⟨some 28, none, .build [(.int .i64 0), (.int .i64 0), (.int .i64 0)] []⟩, ⟨none, none, .storeN 3 (.t 8) (.t 28)⟩, ⟨some 9, none, .mov (.c (.bool false))⟩]) <|
   .ret) (.skip)) <|
  .seq (.ops [⟨some 29, none, .mov (.t 2)⟩, ⟨some 30, none, .lenS (.t 29)⟩, ⟨some 10, none, .mov (.t 30)⟩]) <|
  .seq (.seq (.ops [⟨some 11, none, .mov (.c (.int .i64 1))⟩]) <|
  .block 0 (.loop (.seq (.seq (.ops [⟨some 31, none, .mov (.t 11)⟩, ⟨some 32, none, .bin .num .leq (.t 31) (.c (.int .i64 5))⟩]) <|
    .cond (.t 32) (.skip) (.exit 0)) <|
    .seq (.block 1 (.seq (.ops [⟨some 35, none, .buildSlice false 1 4 [(.int .i64 0), (.int .i64 0), (.int .i64 0), (.int .i64 0)] [(0, 1, (.c (.int .i64 2))), (1, 1, (.c (.int .i64 3))), (2, 1, (.c (.int .i64 0))), (3, 1, (.c (.int .i64 4)))]⟩, ⟨some 12, none, .mov (.t 35)⟩]) <|
     .seq (.seq (.ops [⟨some 36, none, .mov (.t 11)⟩, ⟨some 37, none, .bin .num .eql (.t 36) (.c (.int .i64 3))⟩, ⟨some 38, none, .mov (.t 37)⟩, ⟨some 39, some (38, false), .mov (.t 11)⟩, ⟨some 40, some (38, false), .bin .num .eql (.t 39) (.c (.int .i64 4))⟩, ⟨some 41, none, .pick (.t 38) (.c (.bool true)) (.t 40)⟩]) <|
     .cond (.t 41) (.ops [⟨some 42, none, .buildSlice false 1 4 [(.int .i64 0), (.int .i64 0), (.int .i64 0), (.int .i64 0)] [(0, 1, (.c (.int .i64 3))), (1, 1, (.c (.int .i64 2))), (2, 1, (.c (.int .i64 0))), (3, 1, (.c (.int .i64 4)))]⟩, ⟨some 12, none, .mov (.t 42)⟩]) (.skip)) <|
     .seq (.seq (.ops [⟨some 43, none, .mov (.t 11)⟩, ⟨some 44, none, .bin .num .eql (.t 43) (.c (.int .i64 2))⟩]) <|
     .cond (.t 44) (.ops [⟨some 45, none, .buildSlice false 1 1 [(.int .i64 0)] [(0, 1, (.c (.int .i64 1)))]⟩, ⟨some 12, none, .mov (.t 45)⟩]) (.skip)) <|
     .seq (.ops [⟨some 13, none, .mov (.c (.int .i64 0))⟩]) <|
     .block 2 (.loop (.seq (.seq (.ops [⟨some 46, none, .mov (.t 13)⟩, ⟨some 47, none, .mov (.t 10)⟩, ⟨some 48, none, .bin .num .leq (.t 46) (.t 47)⟩]) <|
       .cond (.t 48) (.skip) (.exit 2)) <|
       .seq (.block 3 (.seq (.draw [(14, [(.int .i64 0), (.int .i64 0), (.int .i64 0), (.int .i64 0), (.int .i64 0)]), (15, [(.int .i64 0), (.int .i64 0), (.int .i64 0), (.int .i64 0), (.int .i64 0)])] [⟨some 51, none, .loadN 5 (.t 4)⟩, ⟨some 52, none, .loadN 5 (.t 5)⟩, ⟨none, none, .idle⟩, ⟨none, none, .idle⟩, ⟨none, none, .storeN 5 (.t 14) (.t 51)⟩, ⟨none, none, .storeN 5 (.t 15) (.t 52)⟩, ⟨some 16, none, .mov (.c (.int .i64 (-1)))⟩] [(1, 4)]) <|
        .seq (.seq (.ops [⟨some 53, none, .mov (.t 13)⟩, ⟨some 54, none, .mov (.t 10)⟩, ⟨some 55, none, .bin .num .lss (.t 53) (.t 54)⟩]) <|
        .cond (.t 55) (.draw [] [⟨some 56, none, .mov (.t 2)⟩, ⟨some 57, none, .mov (.t 13)⟩, ⟨some 58, none, .idxAddrS 5 (.t 56) (.t 57)⟩, ⟨some 59, none, .loadN 5 (.t 58)⟩, ⟨some 60, none, .mov (.t 3)⟩, ⟨some 61, none, .mov (.t 13)⟩, ⟨some 62, none, .idxAddrS 5 (.t 60) (.t 61)⟩, ⟨some 63, none, .loadN 5 (.t 62)⟩, ⟨some 64, none, .mov (.t 13)⟩, ⟨none, none, .storeN 5 (.t 14) (.t 59)⟩, ⟨none, none, .storeN 5 (.t 15) (.t 63)⟩, ⟨some 16, none, .mov (.t 64)⟩] [(7, 9)]) (.skip)) <|
        .seq (.seq (.ops [⟨some 65, none, .mov (.t 16)⟩, ⟨some 66, none, .bin .num .lss (.t 65) (.c (.int .i64 0))⟩, ⟨some 67, none, .mov (.t 66)⟩, ⟨some 68, some (67, true), .mov (.t 11)⟩, ⟨some 69, some (67, true), .bin .num .eql (.t 68) (.c (.int .i64 1))⟩, ⟨some 70, some (67, true), .mov (.t 69)⟩, ⟨some 71, some (70, false), .mov (.t 11)⟩, ⟨some 72, some (70, false), .bin .num .eql (.t 71) (.c (.int .i64 4))⟩, ⟨some 73, some (67, true), .pick (.t 70) (.c (.bool true)) (.t 72)⟩, ⟨some 74, none, .pick (.t 67) (.t 73) (.c (.bool false))⟩, ⟨some 75, none, .mov (.t 74)⟩, ⟨some 76, some (75, false), .mov (.t 16)⟩, ⟨some 77, some (75, false), .bin .num .geq (.t 76) (.c (.int .i64 0))⟩, ⟨some 78, some (75, false), .mov (.t 77)⟩, ⟨some 79, some (78, true), .mov (.t 11)⟩, ⟨some 80, some (78, true), .bin .num .eql (.t 79) (.c (.int .i64 3))⟩, ⟨some 81, some (78, true), .mov (.t 80)⟩, ⟨some 82, some (81, false), .mov (.t 11)⟩, ⟨some 83, some (81, false), .bin .num .eql (.t 82) (.c (.int .i64 5))⟩, ⟨some 84, some (78, true), .pick (.t 81) (.c (.bool true)) (.t 83)⟩, ⟨some 85, some (75, false), .pick (.t 78) (.t 84) (.c (.bool false))⟩, ⟨some 86, none, .pick (.t 75) (.c (.bool true)) (.t 85)⟩]) <|
        .cond (.t 86) (.exit 3) (.skip)) <|
        .seq (.ops [⟨some 87, none, .mov (.t 12)⟩, ⟨some 88, none, .lenS (.t 87)⟩, ⟨some 89, none, .mov (.c (.int .i64 0))⟩]) <|
        .block 4 (.loop (.seq (.ops [⟨some 90, none, .bin .num .lss (.t 89) (.t 88)⟩]) <|
          .seq (.cond (.t 90) (.skip) (.exit 4)) <|
          .seq (.block 5 (.seq (.ops [⟨some 91, none, .idxAddrS 1 (.t 87) (.t 89)⟩, ⟨some 92, none, .load1 (.t 91)⟩, ⟨some 18, none, .mov (.t 92)⟩]) <|
           .seq (.ops [⟨some 93, none, .loadN 5 (.t 14)⟩, ⟨some 94, none, .mov (.t 18)⟩, ⟨some 95, none, .call .pure 25 [(.t 93), (.t 94)]⟩, ⟨some 96, none, .loadN 5 (.t 15)⟩, ⟨some 97, none, .mov (.t 18)⟩, ⟨some 98, none, .call .pure 25 [(.t 96), (.t 97)]⟩, ⟨some 19, none, .mov (.t 95)⟩, ⟨some 20, none, .mov (.t 98)⟩]) <|
           .seq (.ops [⟨some 99, none, .mov (.t 19)⟩, ⟨some 100, none, .mov (.t 20)⟩, ⟨some 101, none, .bin .num .gtr (.t 99) (.t 100)⟩, ⟨some 102, none, .mov (.t 101)⟩, ⟨some 103, some (102, true), .mov (.t 11)⟩, ⟨some 104, some (102, true), .bin .num .eql (.t 103) (.c (.int .i64 1))⟩, ⟨some 105, some (102, true), .mov (.t 104)⟩, ⟨some 106, some (105, false), .mov (.t 11)⟩, ⟨some 107, some (105, false), .bin .num .eql (.t 106) (.c (.int .i64 5))⟩, ⟨some 108, some (102, true), .pick (.t 105) (.c (.bool true)) (.t 107)⟩, ⟨some 109, some (102, true), .mov (.t 108)⟩, ⟨some 110, some (109, false), .mov (.t 11)⟩, ⟨some 111, some (109, false), .bin .num .eql (.t 110) (.c (.int .i64 2))⟩, ⟨some 112, some (102, true), .pick (.t 109) (.c (.bool true)) (.t 111)⟩, ⟨some 113, none, .pick (.t 102) (.t 112) (.c (.bool false))⟩, ⟨some 21, none, .mov (.t 113)⟩]) <|
           .seq (.ops [⟨some 114, none, .mov (.t 19)⟩, ⟨some 115, none, .mov (.t 20)⟩, ⟨some 116, none, .bin .num .lss (.t 114) (.t 115)⟩, ⟨some 117, none, .mov (.t 116)⟩, ⟨some 118, some (117, true), .mov (.t 11)⟩, ⟨some 119, some (117, true), .bin .num .eql (.t 118) (.c (.int .i64 3))⟩, ⟨some 120, some (117, true), .mov (.t 119)⟩, ⟨some 121, some (120, false), .mov (.t 11)⟩, ⟨some 122, some (120, false), .bin .num .eql (.t 121) (.c (.int .i64 4))⟩, ⟨some 123, some (117, true), .pick (.t 120) (.c (.bool true)) (.t 122)⟩, ⟨some 124, some (117, true), .mov (.t 123)⟩, ⟨some 125, some (124, false), .mov (.t 11)⟩, ⟨some 126, some (124, false), .bin .num .eql (.t 125) (.c (.int .i64 2))⟩, ⟨some 127, some (117, true), .pick (.t 124) (.c (.bool true)) (.t 126)⟩, ⟨some 128, none, .pick (.t 117) (.t 127) (.c (.bool false))⟩, ⟨some 22, none, .mov (.t 128)⟩]) <|
           .seq (.ops [⟨some 129, none, .mov (.t 21)⟩, ⟨some 130, none, .mov (.t 129)⟩, ⟨some 131, some (130, false), .mov (.t 22)⟩, ⟨some 132, none, .pick (.t 130) (.c (.bool true)) (.t 131)⟩]) <|
           .cond (.t 132) (.seq (.ops [⟨some 133, none, .mov (.t 16)⟩, ⟨some 134, none, .mov (.t 18)⟩, ⟨some 135, none, .mov (.t 20)⟩, ⟨some 136, none, .build [(.int .i64 0), (.int .i64 0), (.int .i64 0)] [(0, 1, (.t 133)), (1, 1, (.t 134)), (2, 1, (.t 135))]⟩, ⟨none, none, .storeN 3 (.t 8) (.t 136)⟩, ⟨some 9, none, .mov (.c (.bool true))⟩]) <|
            .ret) (.skip))) <|
          .ops [⟨some 137, none, .bin .num .add (.t 89) (.c (.int .i64 1))⟩, ⟨some 89, none, .mov (.t 137)⟩])))) <|
       .ops [⟨some 49, none, .mov (.t 13)⟩, ⟨some 50, none, .bin .num .add (.t 49) (.c (.int .i64 1))⟩, ⟨some 13, none, .mov (.t 50)⟩])))) <|
    .ops [⟨some 33, none, .mov (.t 11)⟩, ⟨some 34, none, .bin .num .add (.t 33) (.c (.int .i64 1))⟩, ⟨some 11, none, .mov (.t 34)⟩]))) <|
  .seq (.ops [⟨some 138, none, .build [(.int .i64 0), (.int .i64 0), (.int .i64 0)] []⟩, ⟨none, none, .storeN 3 (.t 8) (.t 138)⟩, ⟨some 9, none, .mov (.c (.bool false))⟩]) <|
  .ret
def v8 : VFunc := ⟨139, [.cellN 3 8, .tmp 9], c8⟩
/-- berthing/berthingref28.Steps -/
def c9 : VCode :=
  .seq (.ops [⟨some 4, none, .box (.t 0)⟩, ⟨some 5, none, .box (.t 1)⟩, ⟨some 8, none, .mov (.c (.sl .nil 0 []))⟩]) <|
  .seq (.ops [⟨some 9, none, .mov (.c (.sl .nil 0 []))⟩]) <|
  .block 0 (.loop (.block 1 (.seq (.ops [⟨some 13, none, .loadN 5 (.t 4)⟩, ⟨some 14, none, .loadN 5 (.t 5)⟩, ⟨some 15, none, .mov (.t 2)⟩, ⟨some 16, none, .mov (.t 3)⟩, ⟨some 17, none, .call .pure 8 [(.t 13), (.t 14), (.t 15), (.t 16)]⟩, ⟨some 12, none, .mov (.t 17)⟩, ⟨some 18, none, .extract 0 (.t 12)⟩, ⟨some 19, none, .extract 1 (.t 12)⟩, ⟨some 10, none, .alloc [(.int .i64 0), (.int .i64 0), (.int .i64 0)]⟩, ⟨none, none, .storeN 3 (.t 10) (.t 18)⟩, ⟨some 11, none, .mov (.t 19)⟩]) <|
     .seq (.seq (.ops [⟨some 20, none, .mov (.t 11)⟩, ⟨some 21, none, .un .not (.t 20)⟩]) <|
     .cond (.t 21) (.seq (.ops [⟨some 22, none, .mov (.t 9)⟩, ⟨some 8, none, .mov (.t 22)⟩]) <|
      .ret) (.skip)) <|
     .seq (.ops [⟨some 23, none, .mov (.t 9)⟩, ⟨some 24, none, .loadN 3 (.t 10)⟩, ⟨some 25, none, .buildSlice false 3 1 [(.int .i64 0), (.int .i64 0), (.int .i64 0)] [(0, 3, (.t 24))]⟩, ⟨some 26, none, .append false false 3 24 (.t 23) (.t 25)⟩, ⟨some 9, none, .mov (.t 26)⟩]) <|
     .ops [⟨some 28, none, .loadN 5 (.t 4)⟩, ⟨some 29, none, .mov (.t 2)⟩, ⟨some 30, none, .loadN 3 (.t 10)⟩, ⟨some 31, none, .call .pure 15 [(.t 28), (.t 29), (.t 30)]⟩, ⟨some 27, none, .mov (.t 31)⟩, ⟨some 32, none, .extract 0 (.t 27)⟩, ⟨some 33, none, .extract 1 (.t 27)⟩, ⟨none, none, .storeN 5 (.t 4) (.t 32)⟩, ⟨some 2, none, .mov (.t 33)⟩])))
def v9 : VFunc := ⟨34, [.tmp 8], c9⟩
/-- berthing/berthinglaw28.steps -/
def c10 : VCode :=
  .seq (.ops [⟨some 2, none, .box (.t 0)⟩, ⟨some 3, none, .box (.t 1)⟩, ⟨some 4, none, .mov (.c (.sl .nil 0 []))⟩]) <|
  .seq (.ops [⟨some 5, none, .alloc [(.sl .nil 0 [])]⟩]) <|
  .seq (.ops [⟨some 8, none, .fieldAddr 0 (.t 2)⟩, ⟨some 9, none, .loadN 5 (.t 8)⟩, ⟨some 10, none, .fieldAddr 5 (.t 2)⟩, ⟨some 11, none, .loadN 5 (.t 10)⟩, ⟨some 12, none, .fieldAddr 10 (.t 2)⟩, ⟨some 13, none, .load1 (.t 12)⟩, ⟨some 14, none, .fieldAddr 11 (.t 2)⟩, ⟨some 15, none, .load1 (.t 14)⟩, ⟨some 16, none, .call .shared 26 [(.t 9), (.t 11), (.t 13), (.t 15)]⟩, ⟨some 6, none, .mov (.t 16)⟩]) <|
  .seq (.seq (.ops [⟨some 17, none, .mov (.t 6)⟩, ⟨some 18, none, .bin .fn .eql (.t 17) (.c .nilf)⟩]) <|
  .cond (.t 18) (.seq (.ops [⟨some 4, none, .mov (.c (.sl .nil 0 []))⟩]) <|
   .ret) (.skip)) <|
  .seq (.seq (.ops [⟨some 19, none, .mov (.t 6)⟩]) <|
  .block 0 (.rangeFunc (.t 19) [20] (.ops [⟨some 7, none, .alloc [(.int .i64 0), (.int .i64 0), (.int .i64 0)]⟩, ⟨none, none, .storeN 3 (.t 7) (.t 20)⟩]) (.block 1 (.seq (.seq (.ops [⟨some 21, none, .load1 (.t 5)⟩, ⟨some 22, none, .lenS (.t 21)⟩, ⟨some 23, none, .load1 (.t 3)⟩, ⟨some 24, none, .bin .num .geq (.t 22) (.t 23)⟩]) <|
     .cond (.t 24) (.exit 0) (.skip)) <|
     .ops [⟨some 25, none, .load1 (.t 5)⟩, ⟨some 26, none, .loadN 3 (.t 7)⟩, ⟨some 27, none, .buildSlice false 3 1 [(.int .i64 0), (.int .i64 0), (.int .i64 0)] [(0, 3, (.t 26))]⟩, ⟨some 28, none, .append false false 3 24 (.t 25) (.t 27)⟩, ⟨none, none, .store1 (.t 5) (.t 28)⟩])))) <|
  .seq (.ops [⟨some 29, none, .load1 (.t 5)⟩, ⟨some 4, none, .mov (.t 29)⟩]) <|
  .ret
def v10 : VFunc := ⟨30, [.tmp 4], c10⟩
/-- berthing/plan.Apt -/
def c11 : VCode :=
  .seq (.ops [⟨some 2, none, .box (.t 0)⟩, ⟨some 4, none, .mov (.c (.bool false))⟩]) <|
  .seq (.seq (.ops [⟨some 8, none, .loadN 5 (.t 2)⟩, ⟨some 9, none, .call .pure 27 [(.t 8)]⟩, ⟨some 10, none, .un .not (.t 9)⟩]) <|
  .cond (.t 10) (.seq (.ops [⟨some 4, none, .mov (.c (.bool false))⟩]) <|
   .ret) (.skip)) <|
  .seq (.ops [⟨some 11, none, .fieldAddr 0 (.t 2)⟩, ⟨some 12, none, .load1 (.t 11)⟩, ⟨some 5, none, .mov (.t 12)⟩]) <|
  .seq (.seq (.ops [⟨some 13, none, .mov (.t 1)⟩, ⟨some 14, none, .lenS (.t 13)⟩, ⟨some 15, none, .mov (.c (.int .i64 0))⟩]) <|
  .block 0 (.loop (.seq (.ops [⟨some 16, none, .bin .num .lss (.t 15) (.t 14)⟩]) <|
    .seq (.cond (.t 16) (.skip) (.exit 0)) <|
    .seq (.block 1 (.seq (.ops [⟨some 17, none, .idxAddrS 5 (.t 13) (.t 15)⟩, ⟨some 18, none, .loadN 5 (.t 17)⟩, ⟨some 7, none, .alloc [(.int .i64 0), (.int .i64 0), (.int .i64 0), (.int .i64 0), (.int .i64 0)]⟩, ⟨none, none, .storeN 5 (.t 7) (.t 18)⟩]) <|
     .seq (.seq (.ops [⟨some 19, none, .loadN 5 (.t 7)⟩, ⟨some 20, none, .call .pure 27 [(.t 19)]⟩, ⟨some 21, none, .un .not (.t 20)⟩, ⟨some 22, none, .mov (.t 21)⟩, ⟨some 23, some (22, false), .fieldAddr 0 (.t 7)⟩, ⟨some 24, some (22, false), .load1 (.t 23)⟩, ⟨some 25, some (22, false), .fieldAddr 0 (.t 2)⟩, ⟨some 26, some (22, false), .load1 (.t 25)⟩, ⟨some 27, some (22, false), .bin .num .gtr (.t 24) (.t 26)⟩, ⟨some 28, none, .pick (.t 22) (.c (.bool true)) (.t 27)⟩, ⟨some 29, none, .mov (.t 28)⟩, ⟨some 30, some (29, false), .fieldAddr 2 (.t 7)⟩, ⟨some 31, some (29, false), .load1 (.t 30)⟩, ⟨some 32, some (29, false), .fieldAddr 2 (.t 2)⟩, ⟨some 33, some (29, false), .load1 (.t 32)⟩, ⟨some 34, some (29, false), .bin .num .gtr (.t 31) (.t 33)⟩, ⟨some 35, none, .pick (.t 29) (.c (.bool true)) (.t 34)⟩, ⟨some 36, none, .mov (.t 35)⟩, ⟨some 37, some (36, false), .fieldAddr 3 (.t 7)⟩, ⟨some 38, some (36, false), .load1 (.t 37)⟩, ⟨some 39, some (36, false), .fieldAddr 3 (.t 2)⟩, ⟨some 40, some (36, false), .load1 (.t 39)⟩, ⟨some 41, some (36, false), .bin .num .gtr (.t 38) (.t 40)⟩, ⟨some 42, none, .pick (.t 36) (.c (.bool true)) (.t 41)⟩, ⟨some 43, none, .mov (.t 42)⟩, ⟨some 44, some (43, false), .fieldAddr 4 (.t 7)⟩, ⟨some 45, some (43, false), .load1 (.t 44)⟩, ⟨some 46, some (43, false), .fieldAddr 4 (.t 2)⟩, ⟨some 47, some (43, false), .load1 (.t 46)⟩, ⟨some 48, some (43, false), .bin .num .gtr (.t 45) (.t 47)⟩, ⟨some 49, none, .pick (.t 43) (.c (.bool true)) (.t 48)⟩]) <|
     .cond (.t 49) (.seq (.ops [⟨some 4, none, .mov (.c (.bool false))⟩]) <|
      .ret) (.skip)) <|
     .seq (.seq (.ops [⟨some 50, none, .fieldAddr 0 (.t 2)⟩, ⟨some 51, none, .load1 (.t 50)⟩, ⟨some 52, none, .bin .num .neq (.t 51) (.c (.int .i64 4611686018427387904))⟩]) <|
     .cond (.t 52) (.ops [⟨some 53, none, .mov (.t 5)⟩, ⟨some 54, none, .fieldAddr 0 (.t 7)⟩, ⟨some 55, none, .load1 (.t 54)⟩, ⟨some 56, none, .bin .num .sub (.t 53) (.t 55)⟩, ⟨some 5, none, .mov (.t 56)⟩]) (.skip)) <|
     .seq (.ops [⟨some 57, none, .mov (.t 5)⟩, ⟨some 58, none, .bin .num .lss (.t 57) (.c (.int .i64 0))⟩]) <|
     .cond (.t 58) (.seq (.ops [⟨some 4, none, .mov (.c (.bool false))⟩]) <|
      .ret) (.skip))) <|
    .ops [⟨some 59, none, .bin .num .add (.t 15) (.c (.int .i64 1))⟩, ⟨some 15, none, .mov (.t 59)⟩]))) <|
  .seq (.ops [⟨some 4, none, .mov (.c (.bool true))⟩]) <|
  .ret
def v11 : VFunc := ⟨60, [.tmp 4], c11⟩
/-- berthing/berthingref28.Apt -/
def c12 : VCode :=
  .seq (.ops [⟨some 2, none, .box (.t 0)⟩, ⟨some 4, none, .mov (.c (.bool false))⟩]) <|
  .seq (.ops [⟨some 9, none, .loadN 5 (.t 2)⟩, ⟨some 10, none, .call .pure 28 [(.t 9)]⟩, ⟨some 5, none, .mov (.t 10)⟩]) <|
  .seq (.ops [⟨some 6, none, .mov (.c (.int .i64 0))⟩]) <|
  .seq (.seq (.ops [⟨some 11, none, .mov (.t 1)⟩, ⟨some 12, none, .lenS (.t 11)⟩, ⟨some 13, none, .mov (.c (.int .i64 0))⟩]) <|
  .block 0 (.loop (.seq (.ops [⟨some 14, none, .bin .num .lss (.t 13) (.t 12)⟩]) <|
    .seq (.cond (.t 14) (.skip) (.exit 0)) <|
    .seq (.block 1 (.seq (.ops [⟨some 15, none, .idxAddrS 5 (.t 11) (.t 13)⟩, ⟨some 16, none, .loadN 5 (.t 15)⟩, ⟨some 8, none, .alloc [(.int .i64 0), (.int .i64 0), (.int .i64 0), (.int .i64 0), (.int .i64 0)]⟩, ⟨none, none, .storeN 5 (.t 8) (.t 16)⟩]) <|
     .seq (.ops [⟨some 17, none, .mov (.t 5)⟩, ⟨some 18, none, .mov (.t 17)⟩, ⟨some 19, some (18, true), .loadN 5 (.t 8)⟩, ⟨some 20, some (18, true), .call .pure 28 [(.t 19)]⟩, ⟨some 21, none, .pick (.t 18) (.t 20) (.c (.bool false))⟩, ⟨some 22, none, .mov (.t 21)⟩, ⟨some 23, some (22, true), .fieldAddr 0 (.t 8)⟩, ⟨some 24, some (22, true), .load1 (.t 23)⟩, ⟨some 25, some (22, true), .fieldAddr 0 (.t 2)⟩, ⟨some 26, some (22, true), .load1 (.t 25)⟩, ⟨some 27, some (22, true), .bin .num .leq (.t 24) (.t 26)⟩, ⟨some 28, none, .pick (.t 22) (.t 27) (.c (.bool false))⟩, ⟨some 29, none, .mov (.t 28)⟩, ⟨some 30, some (29, true), .fieldAddr 2 (.t 8)⟩, ⟨some 31, some (29, true), .load1 (.t 30)⟩, ⟨some 32, some (29, true), .fieldAddr 2 (.t 2)⟩, ⟨some 33, some (29, true), .load1 (.t 32)⟩, ⟨some 34, some (29, true), .bin .num .leq (.t 31) (.t 33)⟩, ⟨some 35, none, .pick (.t 29) (.t 34) (.c (.bool false))⟩, ⟨some 36, none, .mov (.t 35)⟩, ⟨some 37, some (36, true), .fieldAddr 3 (.t 8)⟩, ⟨some 38, some (36, true), .load1 (.t 37)⟩, ⟨some 39, some (36, true), .fieldAddr 3 (.t 2)⟩, ⟨some 40, some (36, true), .load1 (.t 39)⟩, ⟨some 41, some (36, true), .bin .num .leq (.t 38) (.t 40)⟩, ⟨some 42, none, .pick (.t 36) (.t 41) (.c (.bool false))⟩, ⟨some 43, none, .mov (.t 42)⟩, ⟨some 44, some (43, true), .fieldAddr 4 (.t 8)⟩, ⟨some 45, some (43, true), .load1 (.t 44)⟩, ⟨some 46, some (43, true), .fieldAddr 4 (.t 2)⟩, ⟨some 47, some (43, true), .load1 (.t 46)⟩, ⟨some 48, some (43, true), .bin .num .leq (.t 45) (.t 47)⟩, ⟨some 49, none, .pick (.t 43) (.t 48) (.c (.bool false))⟩, ⟨some 5, none, .mov (.t 49)⟩]) <|
     .seq (.ops [⟨some 50, none, .mov (.t 5)⟩, ⟨some 51, none, .mov (.t 50)⟩, ⟨some 52, some (51, true), .fieldAddr 0 (.t 2)⟩, ⟨some 53, some (51, true), .load1 (.t 52)⟩, ⟨some 54, some (51, true), .bin .num .lss (.t 53) (.c (.int .i64 4611686018427387904))⟩, ⟨some 55, none, .pick (.t 51) (.t 54) (.c (.bool false))⟩]) <|
     .cond (.t 55) (.seq (.ops [⟨some 56, none, .mov (.t 6)⟩, ⟨some 57, none, .fieldAddr 0 (.t 8)⟩, ⟨some 58, none, .load1 (.t 57)⟩, ⟨some 59, none, .bin .num .add (.t 56) (.t 58)⟩, ⟨some 6, none, .mov (.t 59)⟩]) <|
      .ops [⟨some 60, none, .mov (.t 6)⟩, ⟨some 61, none, .fieldAddr 0 (.t 2)⟩, ⟨some 62, none, .load1 (.t 61)⟩, ⟨some 63, none, .bin .num .leq (.t 60) (.t 62)⟩, ⟨some 5, none, .mov (.t 63)⟩]) (.skip))) <|
    .ops [⟨some 64, none, .bin .num .add (.t 13) (.c (.int .i64 1))⟩, ⟨some 13, none, .mov (.t 64)⟩]))) <|
  .seq (.ops [⟨some 65, none, .mov (.t 5)⟩, ⟨some 4, none, .mov (.t 65)⟩]) <|
  .ret
def v12 : VFunc := ⟨66, [.tmp 4], c12⟩
/-- berthing/plan.Most -/
def c13 : VCode :=
  .seq (.ops [⟨some 2, none, .mov (.c (.int .i64 0))⟩]) <|
  .seq (.ops [⟨some 3, none, .mov (.t 0)⟩, ⟨some 4, none, .call .pure 29 [(.t 3), (.c (.int .i64 0)), (.c (.int .i64 1000))]⟩, ⟨some 5, none, .bin .num .add (.t 4) (.c (.int .i64 1))⟩, ⟨some 6, none, .bin .num .mul (.c (.int .i64 5)) (.t 5)⟩, ⟨some 2, none, .mov (.t 6)⟩]) <|
  .ret
def v13 : VFunc := ⟨7, [.tmp 2], c13⟩
/-- berthing/plan.Apply -/
def c14 : VCode :=
  .seq (.ops [⟨some 3, none, .box (.t 0)⟩, ⟨some 5, none, .box (.t 2)⟩, ⟨some 6, none, .alloc [(.int .i64 0), (.int .i64 0), (.int .i64 0), (.int .i64 0), (.int .i64 0)]⟩, ⟨some 7, none, .mov (.c (.sl .nil 0 []))⟩]) <|
  .seq (.ops [⟨some 9, none, .mov (.t 1)⟩, ⟨some 10, none, .call .thaw 30 [(.t 9)]⟩, ⟨some 8, none, .mov (.t 10)⟩]) <|
  .seq (.block 0 (.seq (.ops [⟨some 12, none, .fieldAddr 0 (.t 5)⟩, ⟨some 13, none, .load1 (.t 12)⟩, ⟨some 14, none, .bin .num .eql (.t 13) (.c (.int .i64 (-1)))⟩, ⟨some 11, none, .mov (.t 14)⟩]) <|
   .cond (.t 11) (.ops [⟨some 15, none, .loadN 5 (.t 3)⟩, ⟨some 16, none, .fieldAddr 1 (.t 5)⟩, ⟨some 17, none, .load1 (.t 16)⟩, ⟨some 18, none, .fieldAddr 2 (.t 5)⟩, ⟨some 19, none, .load1 (.t 18)⟩, ⟨some 20, none, .call .pure 31 [(.t 15), (.t 17), (.t 19)]⟩, ⟨none, none, .storeN 5 (.t 3) (.t 20)⟩]) (.seq (.ops [⟨some 22, none, .fieldAddr 0 (.t 5)⟩, ⟨some 23, none, .load1 (.t 22)⟩, ⟨some 24, none, .bin .num .geq (.t 23) (.c (.int .i64 0))⟩, ⟨some 25, none, .mov (.t 24)⟩, ⟨some 26, some (25, true), .fieldAddr 0 (.t 5)⟩, ⟨some 27, some (25, true), .load1 (.t 26)⟩, ⟨some 28, some (25, true), .mov (.t 8)⟩, ⟨some 29, some (25, true), .lenS (.t 28)⟩, ⟨some 30, some (25, true), .bin .num .lss (.t 27) (.t 29)⟩, ⟨some 31, none, .pick (.t 25) (.t 30) (.c (.bool false))⟩, ⟨some 21, none, .mov (.t 31)⟩]) <|
    .cond (.t 21) (.ops [⟨some 32, none, .mov (.t 8)⟩, ⟨some 33, none, .fieldAddr 0 (.t 5)⟩, ⟨some 34, none, .load1 (.t 33)⟩, ⟨some 35, none, .mov (.t 8)⟩, ⟨some 36, none, .fieldAddr 0 (.t 5)⟩, ⟨some 37, none, .load1 (.t 36)⟩, ⟨some 38, none, .idxAddrS 5 (.t 35) (.t 37)⟩, ⟨some 39, none, .loadN 5 (.t 38)⟩, ⟨some 40, none, .fieldAddr 1 (.t 5)⟩, ⟨some 41, none, .load1 (.t 40)⟩, ⟨some 42, none, .fieldAddr 2 (.t 5)⟩, ⟨some 43, none, .load1 (.t 42)⟩, ⟨some 44, none, .call .pure 31 [(.t 39), (.t 41), (.t 43)]⟩, ⟨some 45, none, .idxAddrS 5 (.t 32) (.t 34)⟩, ⟨none, none, .storeN 5 (.t 45) (.t 44)⟩]) (.skip)))) <|
  .seq (.ops [⟨some 46, none, .loadN 5 (.t 3)⟩, ⟨some 47, none, .mov (.t 8)⟩, ⟨none, none, .storeN 5 (.t 6) (.t 46)⟩, ⟨some 7, none, .mov (.t 47)⟩]) <|
  .ret
def v14 : VFunc := ⟨48, [.cellN 5 6, .tmp 7], c14⟩
/-- berthing/berthingref28.Apply -/
def c15 : VCode :=
  .seq (.ops [⟨some 3, none, .box (.t 0)⟩, ⟨some 5, none, .box (.t 2)⟩, ⟨some 6, none, .alloc [(.int .i64 0), (.int .i64 0), (.int .i64 0), (.int .i64 0), (.int .i64 0)]⟩, ⟨some 7, none, .mov (.c (.sl .nil 0 []))⟩]) <|
  .seq (.ops [⟨some 10, none, .buildSlice false 5 0 [] []⟩, ⟨some 11, none, .mov (.t 1)⟩, ⟨some 12, none, .append true false 5 40 (.t 10) (.t 11)⟩, ⟨some 8, none, .mov (.t 12)⟩]) <|
  .seq (.seq (.ops [⟨some 13, none, .fieldAddr 0 (.t 5)⟩, ⟨some 14, none, .load1 (.t 13)⟩, ⟨some 15, none, .bin .num .eql (.t 14) (.c (.int .i64 (-1)))⟩]) <|
  .cond (.t 15) (.seq (.ops [⟨some 16, none, .loadN 5 (.t 3)⟩, ⟨some 17, none, .fieldAddr 1 (.t 5)⟩, ⟨some 18, none, .load1 (.t 17)⟩, ⟨some 19, none, .fieldAddr 2 (.t 5)⟩, ⟨some 20, none, .load1 (.t 19)⟩, ⟨some 21, none, .call .pure 32 [(.t 16), (.t 18), (.t 20)]⟩, ⟨some 22, none, .mov (.t 8)⟩, ⟨none, none, .storeN 5 (.t 6) (.t 21)⟩, ⟨some 7, none, .mov (.t 22)⟩]) <|
   .ret) (.skip)) <|
  .seq (.seq (.ops [⟨some 23, none, .mov (.t 8)⟩, ⟨some 24, none, .lenS (.t 23)⟩, ⟨some 25, none, .mov (.c (.int .i64 0))⟩]) <|
  .block 0 (.loop (.seq (.ops [⟨some 26, none, .bin .num .lss (.t 25) (.t 24)⟩]) <|
    .seq (.cond (.t 26) (.skip) (.exit 0)) <|
    .seq (.block 1 (.seq (.ops [⟨some 27, none, .mov (.t 25)⟩, ⟨some 9, none, .mov (.t 27)⟩]) <|
     .seq (.ops [⟨some 28, none, .mov (.t 9)⟩, ⟨some 29, none, .fieldAddr 0 (.t 5)⟩, ⟨some 30, none, .load1 (.t 29)⟩, ⟨some 31, none, .bin .num .eql (.t 28) (.t 30)⟩]) <|
     .cond (.t 31) (.ops [⟨some 32, none, .mov (.t 8)⟩, ⟨some 33, none, .mov (.t 9)⟩, ⟨some 34, none, .mov (.t 8)⟩, ⟨some 35, none, .mov (.t 9)⟩, ⟨some 36, none, .idxAddrS 5 (.t 34) (.t 35)⟩, ⟨some 37, none, .loadN 5 (.t 36)⟩, ⟨some 38, none, .fieldAddr 1 (.t 5)⟩, ⟨some 39, none, .load1 (.t 38)⟩, ⟨some 40, none, .fieldAddr 2 (.t 5)⟩, ⟨some 41, none, .load1 (.t 40)⟩, ⟨some 42, none, .call .pure 32 [(.t 37), (.t 39), (.t 41)]⟩, ⟨some 43, none, .idxAddrS 5 (.t 32) (.t 33)⟩, ⟨none, none, .storeN 5 (.t 43) (.t 42)⟩]) (.skip))) <|
    .ops [⟨some 44, none, .bin .num .add (.t 25) (.c (.int .i64 1))⟩, ⟨some 25, none, .mov (.t 44)⟩]))) <|
  .seq (.ops [⟨some 45, none, .loadN 5 (.t 3)⟩, ⟨some 46, none, .mov (.t 8)⟩, ⟨none, none, .storeN 5 (.t 6) (.t 45)⟩, ⟨some 7, none, .mov (.t 46)⟩]) <|
  .ret
def v15 : VFunc := ⟨47, [.cellN 5 6, .tmp 7], c15⟩
/-- berthing/berthinglaw28.same -/
def c16 : VCode :=
  .seq (.ops [⟨some 4, none, .mov (.c (.bool false))⟩]) <|
  .seq (.seq (.ops [⟨some 6, none, .mov (.t 0)⟩, ⟨some 7, none, .lenS (.t 6)⟩, ⟨some 8, none, .mov (.t 1)⟩, ⟨some 9, none, .lenS (.t 8)⟩, ⟨some 10, none, .bin .num .neq (.t 7) (.t 9)⟩]) <|
  .cond (.t 10) (.seq (.ops [⟨some 4, none, .mov (.c (.bool false))⟩]) <|
   .ret) (.skip)) <|
  .seq (.seq (.ops [⟨some 11, none, .mov (.t 0)⟩, ⟨some 12, none, .lenS (.t 11)⟩, ⟨some 13, none, .mov (.c (.int .i64 0))⟩]) <|
  .block 0 (.loop (.seq (.ops [⟨some 14, none, .bin .num .lss (.t 13) (.t 12)⟩]) <|
    .seq (.cond (.t 14) (.skip) (.exit 0)) <|
    .seq (.block 1 (.seq (.ops [⟨some 15, none, .mov (.t 13)⟩, ⟨some 5, none, .mov (.t 15)⟩]) <|
     .seq (.ops [⟨some 16, none, .mov (.t 0)⟩, ⟨some 17, none, .mov (.t 5)⟩, ⟨some 18, none, .idxAddrS 5 (.t 16) (.t 17)⟩, ⟨some 19, none, .loadN 5 (.t 18)⟩, ⟨some 20, none, .mov (.t 1)⟩, ⟨some 21, none, .mov (.t 5)⟩, ⟨some 22, none, .idxAddrS 5 (.t 20) (.t 21)⟩, ⟨some 23, none, .loadN 5 (.t 22)⟩, ⟨some 24, none, .bin (.agg [.i, .i, .i, .i, .i]) .neq (.t 19) (.t 23)⟩]) <|
     .cond (.t 24) (.seq (.ops [⟨some 4, none, .mov (.c (.bool false))⟩]) <|
      .ret) (.skip))) <|
    .ops [⟨some 25, none, .bin .num .add (.t 13) (.c (.int .i64 1))⟩, ⟨some 13, none, .mov (.t 25)⟩]))) <|
  .seq (.ops [⟨some 4, none, .mov (.c (.bool true))⟩]) <|
  .ret
def v16 : VFunc := ⟨26, [.tmp 4], c16⟩
/-- berthing/berthingref17.Write -/
def c17 : VCode :=
  .seq (.ops [⟨some 6, none, .box (.t 0)⟩, ⟨some 7, none, .box (.t 1)⟩, ⟨some 12, none, .mov (.c (.int .i64 0))⟩]) <|
  .seq (.seq (.ops [⟨some 13, none, .mov (.t 4)⟩, ⟨some 14, none, .mov (.t 5)⟩, ⟨some 15, none, .call .pure 33 [(.t 13), (.t 14)]⟩, ⟨some 16, none, .un .not (.t 15)⟩]) <|
  .cond (.t 16) (.seq (.ops [⟨some 12, none, .mov (.c (.int .i64 2))⟩]) <|
   .ret) (.skip)) <|
  .seq (.seq (.ops [⟨some 17, none, .mov (.t 4)⟩, ⟨some 18, none, .bin .num .neq (.t 17) (.c (.int .i64 1))⟩, ⟨some 19, none, .mov (.t 18)⟩, ⟨some 20, some (19, true), .loadN 5 (.t 6)⟩, ⟨some 21, some (19, true), .mov (.t 2)⟩, ⟨some 22, some (19, true), .mov (.t 4)⟩, ⟨some 23, some (19, true), .mov (.t 5)⟩, ⟨some 24, some (19, true), .call .pure 34 [(.t 20), (.t 21), (.t 22), (.t 23)]⟩, ⟨some 25, none, .pick (.t 19) (.t 24) (.c (.bool false))⟩]) <|
  .cond (.t 25) (.seq (.ops [⟨some 12, none, .mov (.c (.int .i64 23))⟩]) <|
   .ret) (.skip)) <|
  .seq (.seq (.ops [⟨some 26, none, .mov (.t 4)⟩, ⟨some 27, none, .bin .num .eql (.t 26) (.c (.int .i64 2))⟩, ⟨some 28, none, .mov (.t 27)⟩, ⟨some 29, some (28, true), .mov (.t 5)⟩, ⟨some 30, some (28, true), .fieldAddr 3 (.t 7)⟩, ⟨some 31, some (28, true), .load1 (.t 30)⟩, ⟨some 32, some (28, true), .bin .num .gtr (.t 29) (.t 31)⟩, ⟨some 33, none, .pick (.t 28) (.t 32) (.c (.bool false))⟩, ⟨some 34, none, .mov (.t 33)⟩, ⟨some 35, some (34, false), .mov (.t 4)⟩, ⟨some 36, some (34, false), .bin .num .eql (.t 35) (.c (.int .i64 3))⟩, ⟨some 37, some (34, false), .mov (.t 36)⟩, ⟨some 38, some (37, true), .mov (.t 5)⟩, ⟨some 39, some (37, true), .fieldAddr 2 (.t 7)⟩, ⟨some 40, some (37, true), .load1 (.t 39)⟩, ⟨some 41, some (37, true), .bin .num .lss (.t 38) (.t 40)⟩, ⟨some 42, some (34, false), .pick (.t 37) (.t 41) (.c (.bool false))⟩, ⟨some 43, none, .pick (.t 34) (.c (.bool true)) (.t 42)⟩]) <|
  .cond (.t 43) (.seq (.ops [⟨some 12, none, .mov (.c (.int .i64 23))⟩]) <|
   .ret) (.skip)) <|
  .seq (.seq (.ops [⟨some 44, none, .mov (.t 4)⟩, ⟨some 45, none, .bin .num .eql (.t 44) (.c (.int .i64 3))⟩, ⟨some 46, none, .mov (.t 45)⟩, ⟨some 47, some (46, true), .mov (.t 5)⟩, ⟨some 48, some (46, true), .mov (.t 3)⟩, ⟨some 49, some (46, true), .bin .num .lss (.t 47) (.t 48)⟩, ⟨some 50, none, .pick (.t 46) (.t 49) (.c (.bool false))⟩]) <|
  .cond (.t 50) (.seq (.ops [⟨some 12, none, .mov (.c (.int .i64 24))⟩]) <|
   .ret) (.skip)) <|
  .seq (.ops [⟨some 12, none, .mov (.c (.int .i64 0))⟩]) <|
  .ret
def v17 : VFunc := ⟨51, [.tmp 12], c17⟩
/-- berthing/berthingref18.Root -/
def c18 : VCode :=
  .seq (.ops [⟨some 0, none, .alloc [(.int .i64 0), (.int .i64 0), (.int .i64 0), (.int .i64 0), (.int .i64 0)]⟩]) <|
  .seq (.ops [⟨some 1, none, .build [(.int .i64 0), (.int .i64 0), (.int .i64 0), (.int .i64 0), (.int .i64 0)] [(0, 1, (.c (.int .i64 4611686018427387904))), (1, 1, (.c (.int .i64 100))), (2, 1, (.c (.int .i64 4611686018427387904))), (3, 1, (.c (.int .i64 4611686018427387904))), (4, 1, (.c (.int .i64 4611686018427387904)))]⟩, ⟨none, none, .storeN 5 (.t 0) (.t 1)⟩]) <|
  .ret
def v18 : VFunc := ⟨2, [.cellN 5 0], c18⟩
/-- berthing/berthinglaw28.first$1 -/
def c19 : VCode :=
  .seq (.ops [⟨some 2, none, .alloc [(.int .i64 0), (.int .i64 0), (.int .i64 0), (.int .i64 0), (.int .i64 0)]⟩]) <|
  .seq (.ops [⟨some 3, none, .mov (.t 0)⟩, ⟨some 4, none, .build [(.int .i64 0), (.int .i64 0), (.int .i64 0), (.int .i64 0), (.int .i64 0)] [(0, 1, (.t 3)), (1, 1, (.c (.int .i64 1))), (3, 1, (.c (.int .i64 9)))]⟩, ⟨none, none, .storeN 5 (.t 2) (.t 4)⟩]) <|
  .ret
def v19 : VFunc := ⟨5, [.cellN 5 2], c19⟩
/-- berthing/plan.some -/
def c20 : VCode :=
  .seq (.ops [⟨some 6, none, .box (.t 2)⟩, ⟨some 8, none, .alloc [(.int .i64 0), (.int .i64 0), (.int .i64 0)]⟩, ⟨some 9, none, .mov (.c (.bool false))⟩]) <|
  .seq (.seq (.ops [⟨some 13, none, .mov (.t 0)⟩, ⟨some 14, none, .lenS (.t 13)⟩, ⟨some 15, none, .mov (.c (.int .i64 0))⟩]) <|
  .block 0 (.loop (.seq (.ops [⟨some 16, none, .bin .num .lss (.t 15) (.t 14)⟩]) <|
    .seq (.cond (.t 16) (.skip) (.exit 0)) <|
    .seq (.block 1 (.seq (.ops [⟨some 17, none, .mov (.t 15)⟩, ⟨some 10, none, .mov (.t 17)⟩]) <|
     .seq (.draw [(11, [(.int .i64 0), (.int .i64 0), (.int .i64 0)])] [⟨some 19, none, .mov (.t 10)⟩, ⟨some 20, none, .mov (.t 0)⟩, ⟨some 21, none, .mov (.t 10)⟩, ⟨some 22, none, .idxAddrS 5 (.t 20) (.t 21)⟩, ⟨some 23, none, .loadN 5 (.t 22)⟩, ⟨some 24, none, .mov (.t 1)⟩, ⟨some 25, none, .mov (.t 10)⟩, ⟨some 26, none, .idxAddrS 5 (.t 24) (.t 25)⟩, ⟨some 27, none, .loadN 5 (.t 26)⟩, ⟨some 28, none, .loadN 4 (.t 6)⟩, ⟨some 29, none, .mov (.t 3)⟩, ⟨some 30, none, .call .pure 23 [(.t 19), (.t 23), (.t 27), (.t 28), (.t 29)]⟩, ⟨some 18, none, .mov (.t 30)⟩, ⟨some 31, none, .extract 0 (.t 18)⟩, ⟨some 32, none, .extract 1 (.t 18)⟩, ⟨none, none, .idle⟩, ⟨none, none, .storeN 3 (.t 11) (.t 31)⟩, ⟨some 12, none, .mov (.t 32)⟩] []) <|
     .seq (.ops [⟨some 33, none, .mov (.t 12)⟩]) <|
     .cond (.t 33) (.seq (.ops [⟨some 34, none, .loadN 3 (.t 11)⟩, ⟨none, none, .storeN 3 (.t 8) (.t 34)⟩, ⟨some 9, none, .mov (.c (.bool true))⟩]) <|
      .ret) (.skip))) <|
    .ops [⟨some 35, none, .bin .num .add (.t 15) (.c (.int .i64 1))⟩, ⟨some 15, none, .mov (.t 35)⟩]))) <|
  .seq (.ops [⟨some 36, none, .build [(.int .i64 0), (.int .i64 0), (.int .i64 0)] []⟩, ⟨none, none, .storeN 3 (.t 8) (.t 36)⟩, ⟨some 9, none, .mov (.c (.bool false))⟩]) <|
  .ret
def v20 : VFunc := ⟨37, [.cellN 3 8, .tmp 9], c20⟩
/-- berthing/plan.down -/
def c21 : VCode :=
  .seq (.ops [⟨some 0, none, .alloc [(.int .i64 0), (.int .i64 0), (.int .i64 0), (.int .i64 0)]⟩]) <|
  .seq (.ops [⟨some 1, none, .build [(.int .i64 0), (.int .i64 0), (.int .i64 0), (.int .i64 0)] [(0, 1, (.c (.int .i64 2))), (1, 1, (.c (.int .i64 3))), (2, 1, (.c (.int .i64 0))), (3, 1, (.c (.int .i64 4)))]⟩, ⟨none, none, .storeN 4 (.t 0) (.t 1)⟩]) <|
  .ret
def v21 : VFunc := ⟨2, [.cellN 4 0], c21⟩
/-- berthing/plan.weight -/
def c22 : VCode :=
  .seq (.ops [⟨some 4, none, .box (.t 0)⟩, ⟨some 5, none, .box (.t 1)⟩, ⟨some 8, none, .alloc [(.int .i64 0), (.int .i64 0), (.int .i64 0)]⟩, ⟨some 9, none, .mov (.c (.bool false))⟩]) <|
  .seq (.seq (.ops [⟨some 11, none, .mov (.t 2)⟩, ⟨some 12, none, .lenS (.t 11)⟩, ⟨some 13, none, .mov (.c (.int .i64 0))⟩]) <|
  .block 0 (.loop (.seq (.ops [⟨some 14, none, .bin .num .lss (.t 13) (.t 12)⟩]) <|
    .seq (.cond (.t 14) (.skip) (.exit 0)) <|
    .seq (.block 1 (.seq (.ops [⟨some 15, none, .mov (.t 13)⟩, ⟨some 10, none, .mov (.t 15)⟩]) <|
     .seq (.ops [⟨some 16, none, .mov (.t 2)⟩, ⟨some 17, none, .mov (.t 10)⟩, ⟨some 18, none, .idxAddrS 5 (.t 16) (.t 17)⟩, ⟨some 19, none, .fieldAddr 1 (.t 18)⟩, ⟨some 20, none, .load1 (.t 19)⟩, ⟨some 21, none, .mov (.t 3)⟩, ⟨some 22, none, .mov (.t 10)⟩, ⟨some 23, none, .idxAddrS 5 (.t 21) (.t 22)⟩, ⟨some 24, none, .fieldAddr 1 (.t 23)⟩, ⟨some 25, none, .load1 (.t 24)⟩, ⟨some 26, none, .bin .num .neq (.t 20) (.t 25)⟩]) <|
     .cond (.t 26) (.seq (.ops [⟨some 27, none, .mov (.t 10)⟩, ⟨some 28, none, .mov (.t 3)⟩, ⟨some 29, none, .mov (.t 10)⟩, ⟨some 30, none, .idxAddrS 5 (.t 28) (.t 29)⟩, ⟨some 31, none, .fieldAddr 1 (.t 30)⟩, ⟨some 32, none, .load1 (.t 31)⟩, ⟨some 33, none, .build [(.int .i64 0), (.int .i64 0), (.int .i64 0)] [(0, 1, (.t 27)), (1, 1, (.c (.int .i64 1))), (2, 1, (.t 32))]⟩, ⟨none, none, .storeN 3 (.t 8) (.t 33)⟩, ⟨some 9, none, .mov (.c (.bool true))⟩]) <|
      .ret) (.skip))) <|
    .ops [⟨some 34, none, .bin .num .add (.t 13) (.c (.int .i64 1))⟩, ⟨some 13, none, .mov (.t 34)⟩]))) <|
  .seq (.draw [] [⟨some 35, none, .fieldAddr 1 (.t 5)⟩, ⟨some 36, none, .load1 (.t 35)⟩, ⟨some 37, none, .build [(.int .i64 0), (.int .i64 0), (.int .i64 0)] [(0, 1, (.c (.int .i64 (-1)))), (1, 1, (.c (.int .i64 1))), (2, 1, (.t 36))]⟩, ⟨some 38, none, .fieldAddr 1 (.t 4)⟩, ⟨some 39, none, .load1 (.t 38)⟩, ⟨some 40, none, .fieldAddr 1 (.t 5)⟩, ⟨some 41, none, .load1 (.t 40)⟩, ⟨some 42, none, .bin .num .neq (.t 39) (.t 41)⟩, ⟨none, none, .storeN 3 (.t 8) (.t 37)⟩, ⟨some 9, none, .mov (.t 42)⟩] [(4, 8), (6, 8)]) <|
  .ret
def v22 : VFunc := ⟨43, [.cellN 3 8, .tmp 9], c22⟩
/-- berthing/plan.first -/
def c23 : VCode :=
  .seq (.ops [⟨some 6, none, .box (.t 1)⟩, ⟨some 7, none, .box (.t 2)⟩, ⟨some 8, none, .box (.t 3)⟩, ⟨some 10, none, .alloc [(.int .i64 0), (.int .i64 0), (.int .i64 0)]⟩, ⟨some 11, none, .mov (.c (.bool false))⟩]) <|
  .seq (.seq (.ops [⟨some 16, none, .loadN 4 (.t 8)⟩, ⟨some 17, none, .mov (.c (.int .i64 0))⟩]) <|
  .block 0 (.loop (.seq (.ops [⟨some 18, none, .bin .num .lss (.t 17) (.c (.int .i64 4))⟩]) <|
    .seq (.cond (.t 18) (.skip) (.exit 0)) <|
    .seq (.block 1 (.seq (.ops [⟨some 19, none, .idxA1 4 (.t 16) (.t 17)⟩, ⟨some 13, none, .mov (.t 19)⟩]) <|
     .seq (.ops [⟨some 20, none, .loadN 5 (.t 6)⟩, ⟨some 21, none, .mov (.t 13)⟩, ⟨some 22, none, .call .pure 35 [(.t 20), (.t 21)]⟩, ⟨some 23, none, .loadN 5 (.t 7)⟩, ⟨some 24, none, .mov (.t 13)⟩, ⟨some 25, none, .call .pure 35 [(.t 23), (.t 24)]⟩, ⟨some 14, none, .mov (.t 22)⟩, ⟨some 15, none, .mov (.t 25)⟩]) <|
     .seq (.ops [⟨some 26, none, .mov (.t 4)⟩, ⟨some 27, none, .bin .num .eql (.t 26) (.c (.int .i64 0))⟩, ⟨some 28, none, .mov (.t 27)⟩, ⟨some 29, some (28, true), .mov (.t 14)⟩, ⟨some 30, some (28, true), .mov (.t 15)⟩, ⟨some 31, some (28, true), .bin .num .gtr (.t 29) (.t 30)⟩, ⟨some 32, none, .pick (.t 28) (.t 31) (.c (.bool false))⟩, ⟨some 33, none, .mov (.t 32)⟩, ⟨some 34, some (33, false), .mov (.t 4)⟩, ⟨some 35, some (33, false), .bin .num .eql (.t 34) (.c (.int .i64 1))⟩, ⟨some 36, some (33, false), .mov (.t 35)⟩, ⟨some 37, some (36, true), .mov (.t 14)⟩, ⟨some 38, some (36, true), .mov (.t 15)⟩, ⟨some 39, some (36, true), .bin .num .lss (.t 37) (.t 38)⟩, ⟨some 40, some (33, false), .pick (.t 36) (.t 39) (.c (.bool false))⟩, ⟨some 41, none, .pick (.t 33) (.c (.bool true)) (.t 40)⟩]) <|
     .cond (.t 41) (.seq (.ops [⟨some 42, none, .mov (.t 0)⟩, ⟨some 43, none, .mov (.t 13)⟩, ⟨some 44, none, .mov (.t 15)⟩, ⟨some 45, none, .build [(.int .i64 0), (.int .i64 0), (.int .i64 0)] [(0, 1, (.t 42)), (1, 1, (.t 43)), (2, 1, (.t 44))]⟩, ⟨none, none, .storeN 3 (.t 10) (.t 45)⟩, ⟨some 11, none, .mov (.c (.bool true))⟩]) <|
      .ret) (.skip))) <|
    .ops [⟨some 46, none, .bin .num .add (.t 17) (.c (.int .i64 1))⟩, ⟨some 17, none, .mov (.t 46)⟩]))) <|
  .seq (.ops [⟨some 47, none, .build [(.int .i64 0), (.int .i64 0), (.int .i64 0)] []⟩, ⟨none, none, .storeN 3 (.t 10) (.t 47)⟩, ⟨some 11, none, .mov (.c (.bool false))⟩]) <|
  .ret
def v23 : VFunc := ⟨48, [.cellN 3 10, .tmp 11], c23⟩
/-- berthing/plan.up -/
def c24 : VCode :=
  .seq (.ops [⟨some 0, none, .alloc [(.int .i64 0), (.int .i64 0), (.int .i64 0), (.int .i64 0)]⟩]) <|
  .seq (.ops [⟨some 1, none, .build [(.int .i64 0), (.int .i64 0), (.int .i64 0), (.int .i64 0)] [(0, 1, (.c (.int .i64 3))), (1, 1, (.c (.int .i64 2))), (2, 1, (.c (.int .i64 0))), (3, 1, (.c (.int .i64 4)))]⟩, ⟨none, none, .storeN 4 (.t 0) (.t 1)⟩]) <|
  .ret
def v24 : VFunc := ⟨2, [.cellN 4 0], c24⟩
/-- berthing/berthingref06.At -/
def c25 : VCode :=
  .seq (.ops [⟨some 2, none, .box (.t 0)⟩, ⟨some 4, none, .mov (.c (.int .i64 0))⟩]) <|
  .seq (.seq (.ops [⟨some 5, none, .mov (.t 1)⟩]) <|
  .block 0 (.seq (.ops [⟨some 7, none, .bin .num .eql (.t 5) (.c (.int .i64 0))⟩, ⟨some 6, none, .mov (.t 7)⟩]) <|
   .cond (.t 6) (.seq (.ops [⟨some 8, none, .fieldAddr 0 (.t 2)⟩, ⟨some 9, none, .load1 (.t 8)⟩, ⟨some 4, none, .mov (.t 9)⟩]) <|
    .ret) (.seq (.ops [⟨some 11, none, .bin .num .eql (.t 5) (.c (.int .i64 1))⟩, ⟨some 10, none, .mov (.t 11)⟩]) <|
    .cond (.t 10) (.seq (.ops [⟨some 12, none, .fieldAddr 1 (.t 2)⟩, ⟨some 13, none, .load1 (.t 12)⟩, ⟨some 4, none, .mov (.t 13)⟩]) <|
     .ret) (.seq (.ops [⟨some 15, none, .bin .num .eql (.t 5) (.c (.int .i64 2))⟩, ⟨some 14, none, .mov (.t 15)⟩]) <|
     .cond (.t 14) (.seq (.ops [⟨some 16, none, .fieldAddr 2 (.t 2)⟩, ⟨some 17, none, .load1 (.t 16)⟩, ⟨some 4, none, .mov (.t 17)⟩]) <|
      .ret) (.seq (.ops [⟨some 19, none, .bin .num .eql (.t 5) (.c (.int .i64 3))⟩, ⟨some 18, none, .mov (.t 19)⟩]) <|
      .cond (.t 18) (.seq (.ops [⟨some 20, none, .fieldAddr 3 (.t 2)⟩, ⟨some 21, none, .load1 (.t 20)⟩, ⟨some 4, none, .mov (.t 21)⟩]) <|
       .ret) (.seq (.ops [⟨some 23, none, .bin .num .eql (.t 5) (.c (.int .i64 4))⟩, ⟨some 22, none, .mov (.t 23)⟩]) <|
       .cond (.t 22) (.seq (.ops [⟨some 24, none, .fieldAddr 4 (.t 2)⟩, ⟨some 25, none, .load1 (.t 24)⟩, ⟨some 4, none, .mov (.t 25)⟩]) <|
        .ret) (.skip))))))) <|
  .seq (.ops [⟨some 4, none, .mov (.c (.int .i64 0))⟩]) <|
  .ret
def v25 : VFunc := ⟨26, [.tmp 4], c25⟩
/-- berthing/plan.Steps -/
def c26 : VCode :=
  .seq (.ops [⟨some 4, none, .box (.t 0)⟩, ⟨some 5, none, .box (.t 1)⟩, ⟨some 8, none, .mov (.c .nilf)⟩]) <|
  .seq (.ops [⟨some 11, none, .mov (.t 2)⟩, ⟨some 12, none, .call .pure 30 [(.t 11)]⟩, ⟨some 13, none, .mov (.t 3)⟩, ⟨some 14, none, .call .pure 30 [(.t 13)]⟩, ⟨some 9, none, .alloc [(.sl .nil 0 [])]⟩, ⟨some 10, none, .alloc [(.sl .nil 0 [])]⟩, ⟨none, none, .store1 (.t 9) (.t 12)⟩, ⟨none, none, .store1 (.t 10) (.t 14)⟩]) <|
  .seq (.ops [⟨some 15, none, .mkFn 36 [] [(.t 4), (.t 9), (.t 5), (.t 10)]⟩, ⟨some 8, none, .mov (.t 15)⟩]) <|
  .ret
def v26 : VFunc := ⟨16, [.tmp 8], c26⟩
/-- berthing/knobs.Right -/
def c27 : VCode :=
  .seq (.ops [⟨some 1, none, .box (.t 0)⟩, ⟨some 2, none, .mov (.c (.bool false))⟩]) <|
  .seq (.ops [⟨some 3, none, .fieldAddr 0 (.t 1)⟩, ⟨some 4, none, .load1 (.t 3)⟩, ⟨some 5, none, .call .pure 37 [(.t 4)]⟩, ⟨some 6, none, .mov (.t 5)⟩, ⟨some 7, some (6, false), .fieldAddr 0 (.t 1)⟩, ⟨some 8, some (6, false), .load1 (.t 7)⟩, ⟨some 9, some (6, false), .bin .num .eql (.t 8) (.c (.int .i64 4611686018427387904))⟩, ⟨some 10, none, .pick (.t 6) (.c (.bool true)) (.t 9)⟩, ⟨some 11, none, .mov (.t 10)⟩, ⟨some 12, some (11, true), .fieldAddr 3 (.t 1)⟩, ⟨some 13, some (11, true), .load1 (.t 12)⟩, ⟨some 14, some (11, true), .call .pure 37 [(.t 13)]⟩, ⟨some 15, some (11, true), .mov (.t 14)⟩, ⟨some 16, some (15, false), .fieldAddr 3 (.t 1)⟩, ⟨some 17, some (15, false), .load1 (.t 16)⟩, ⟨some 18, some (15, false), .bin .num .eql (.t 17) (.c (.int .i64 4611686018427387904))⟩, ⟨some 19, some (11, true), .pick (.t 15) (.c (.bool true)) (.t 18)⟩, ⟨some 20, none, .pick (.t 11) (.t 19) (.c (.bool false))⟩, ⟨some 21, none, .mov (.t 20)⟩, ⟨some 22, some (21, true), .fieldAddr 1 (.t 1)⟩, ⟨some 23, some (21, true), .load1 (.t 22)⟩, ⟨some 24, some (21, true), .bin .num .geq (.t 23) (.c (.int .i64 1))⟩, ⟨some 25, none, .pick (.t 21) (.t 24) (.c (.bool false))⟩, ⟨some 26, none, .mov (.t 25)⟩, ⟨some 27, some (26, true), .fieldAddr 1 (.t 1)⟩, ⟨some 28, some (26, true), .load1 (.t 27)⟩, ⟨some 29, some (26, true), .bin .num .leq (.t 28) (.c (.int .i64 10000))⟩, ⟨some 30, none, .pick (.t 26) (.t 29) (.c (.bool false))⟩, ⟨some 31, none, .mov (.t 30)⟩, ⟨some 32, some (31, true), .fieldAddr 2 (.t 1)⟩, ⟨some 33, some (31, true), .load1 (.t 32)⟩, ⟨some 34, some (31, true), .call .pure 37 [(.t 33)]⟩, ⟨some 35, none, .pick (.t 31) (.t 34) (.c (.bool false))⟩, ⟨some 36, none, .mov (.t 35)⟩, ⟨some 37, some (36, true), .fieldAddr 4 (.t 1)⟩, ⟨some 38, some (36, true), .load1 (.t 37)⟩, ⟨some 39, some (36, true), .call .pure 37 [(.t 38)]⟩, ⟨some 40, none, .pick (.t 36) (.t 39) (.c (.bool false))⟩, ⟨some 41, none, .mov (.t 40)⟩, ⟨some 42, some (41, true), .fieldAddr 2 (.t 1)⟩, ⟨some 43, some (41, true), .load1 (.t 42)⟩, ⟨some 44, some (41, true), .fieldAddr 3 (.t 1)⟩, ⟨some 45, some (41, true), .load1 (.t 44)⟩, ⟨some 46, some (41, true), .bin .num .leq (.t 43) (.t 45)⟩, ⟨some 47, none, .pick (.t 41) (.t 46) (.c (.bool false))⟩, ⟨some 2, none, .mov (.t 47)⟩]) <|
  .ret
def v27 : VFunc := ⟨48, [.tmp 2], c27⟩
/-- berthing/berthingref06.Right -/
def c28 : VCode :=
  .seq (.ops [⟨some 1, none, .box (.t 0)⟩, ⟨some 2, none, .mov (.c (.bool false))⟩]) <|
  .seq (.ops [⟨some 3, none, .mov (.c (.int .i64 9007199254740992))⟩]) <|
  .seq (.ops [⟨some 6, none, .fieldAddr 0 (.t 1)⟩, ⟨some 7, none, .load1 (.t 6)⟩, ⟨some 8, none, .bin .num .geq (.t 7) (.c (.int .i64 0))⟩, ⟨some 9, none, .mov (.t 8)⟩, ⟨some 10, some (9, true), .fieldAddr 0 (.t 1)⟩, ⟨some 11, some (9, true), .load1 (.t 10)⟩, ⟨some 12, some (9, true), .mov (.t 3)⟩, ⟨some 13, some (9, true), .bin .num .leq (.t 11) (.t 12)⟩, ⟨some 14, none, .pick (.t 9) (.t 13) (.c (.bool false))⟩, ⟨some 15, none, .mov (.t 14)⟩, ⟨some 16, some (15, false), .fieldAddr 0 (.t 1)⟩, ⟨some 17, some (15, false), .load1 (.t 16)⟩, ⟨some 18, some (15, false), .bin .num .eql (.t 17) (.c (.int .i64 4611686018427387904))⟩, ⟨some 19, none, .pick (.t 15) (.c (.bool true)) (.t 18)⟩, ⟨some 4, none, .mov (.t 19)⟩]) <|
  .seq (.ops [⟨some 20, none, .fieldAddr 3 (.t 1)⟩, ⟨some 21, none, .load1 (.t 20)⟩, ⟨some 22, none, .bin .num .geq (.t 21) (.c (.int .i64 0))⟩, ⟨some 23, none, .mov (.t 22)⟩, ⟨some 24, some (23, true), .fieldAddr 3 (.t 1)⟩, ⟨some 25, some (23, true), .load1 (.t 24)⟩, ⟨some 26, some (23, true), .mov (.t 3)⟩, ⟨some 27, some (23, true), .bin .num .leq (.t 25) (.t 26)⟩, ⟨some 28, none, .pick (.t 23) (.t 27) (.c (.bool false))⟩, ⟨some 29, none, .mov (.t 28)⟩, ⟨some 30, some (29, false), .fieldAddr 3 (.t 1)⟩, ⟨some 31, some (29, false), .load1 (.t 30)⟩, ⟨some 32, some (29, false), .bin .num .eql (.t 31) (.c (.int .i64 4611686018427387904))⟩, ⟨some 33, none, .pick (.t 29) (.c (.bool true)) (.t 32)⟩, ⟨some 5, none, .mov (.t 33)⟩]) <|
  .seq (.ops [⟨some 34, none, .mov (.t 4)⟩, ⟨some 35, none, .mov (.t 34)⟩, ⟨some 36, some (35, true), .mov (.t 5)⟩, ⟨some 37, none, .pick (.t 35) (.t 36) (.c (.bool false))⟩, ⟨some 38, none, .mov (.t 37)⟩, ⟨some 39, some (38, true), .fieldAddr 1 (.t 1)⟩, ⟨some 40, some (38, true), .load1 (.t 39)⟩, ⟨some 41, some (38, true), .bin .num .gtr (.t 40) (.c (.int .i64 0))⟩, ⟨some 42, none, .pick (.t 38) (.t 41) (.c (.bool false))⟩, ⟨some 43, none, .mov (.t 42)⟩, ⟨some 44, some (43, true), .fieldAddr 1 (.t 1)⟩, ⟨some 45, some (43, true), .load1 (.t 44)⟩, ⟨some 46, some (43, true), .bin .num .lss (.t 45) (.c (.int .i64 10001))⟩, ⟨some 47, none, .pick (.t 43) (.t 46) (.c (.bool false))⟩, ⟨some 48, none, .mov (.t 47)⟩, ⟨some 49, some (48, true), .fieldAddr 2 (.t 1)⟩, ⟨some 50, some (48, true), .load1 (.t 49)⟩, ⟨some 51, some (48, true), .bin .num .geq (.t 50) (.c (.int .i64 0))⟩, ⟨some 52, none, .pick (.t 48) (.t 51) (.c (.bool false))⟩, ⟨some 53, none, .mov (.t 52)⟩, ⟨some 54, some (53, true), .fieldAddr 2 (.t 1)⟩, ⟨some 55, some (53, true), .load1 (.t 54)⟩, ⟨some 56, some (53, true), .mov (.t 3)⟩, ⟨some 57, some (53, true), .bin .num .leq (.t 55) (.t 56)⟩, ⟨some 58, none, .pick (.t 53) (.t 57) (.c (.bool false))⟩, ⟨some 59, none, .mov (.t 58)⟩, ⟨some 60, some (59, true), .fieldAddr 4 (.t 1)⟩, ⟨some 61, some (59, true), .load1 (.t 60)⟩, ⟨some 62, some (59, true), .bin .num .geq (.t 61) (.c (.int .i64 0))⟩, ⟨some 63, none, .pick (.t 59) (.t 62) (.c (.bool false))⟩, ⟨some 64, none, .mov (.t 63)⟩, ⟨some 65, some (64, true), .fieldAddr 4 (.t 1)⟩, ⟨some 66, some (64, true), .load1 (.t 65)⟩, ⟨some 67, some (64, true), .mov (.t 3)⟩, ⟨some 68, some (64, true), .bin .num .leq (.t 66) (.t 67)⟩, ⟨some 69, none, .pick (.t 64) (.t 68) (.c (.bool false))⟩, ⟨some 70, none, .mov (.t 69)⟩, ⟨some 71, some (70, true), .fieldAddr 3 (.t 1)⟩, ⟨some 72, some (70, true), .load1 (.t 71)⟩, ⟨some 73, some (70, true), .fieldAddr 2 (.t 1)⟩, ⟨some 74, some (70, true), .load1 (.t 73)⟩, ⟨some 75, some (70, true), .bin .num .geq (.t 72) (.t 74)⟩, ⟨some 76, none, .pick (.t 70) (.t 75) (.c (.bool false))⟩, ⟨some 2, none, .mov (.t 76)⟩]) <|
  .ret
def v28 : VFunc := ⟨77, [.tmp 2], c28⟩
/-- berthing/checked.Held -/
def c29 : VCode :=
  .seq (.ops [⟨some 6, none, .mov (.c (.int .i64 0))⟩]) <|
  .seq (.block 0 (.seq (.ops [⟨some 8, none, .mov (.t 0)⟩, ⟨some 9, none, .mov (.t 1)⟩, ⟨some 10, none, .bin .num .lss (.t 8) (.t 9)⟩, ⟨some 7, none, .mov (.t 10)⟩]) <|
   .cond (.t 7) (.seq (.ops [⟨some 11, none, .mov (.t 1)⟩, ⟨some 6, none, .mov (.t 11)⟩]) <|
    .ret) (.seq (.ops [⟨some 13, none, .mov (.t 0)⟩, ⟨some 14, none, .mov (.t 2)⟩, ⟨some 15, none, .bin .num .gtr (.t 13) (.t 14)⟩, ⟨some 12, none, .mov (.t 15)⟩]) <|
    .cond (.t 12) (.seq (.ops [⟨some 16, none, .mov (.t 2)⟩, ⟨some 6, none, .mov (.t 16)⟩]) <|
     .ret) (.skip)))) <|
  .seq (.ops [⟨some 17, none, .mov (.t 0)⟩, ⟨some 6, none, .mov (.t 17)⟩]) <|
  .ret
def v29 : VFunc := ⟨18, [.tmp 6], c29⟩
/-- slices.Clone[[]berthing/api.Knobs,berthing/api.Knobs] -/
def c30 : VCode :=
  .seq (.ops [⟨some 2, none, .mov (.c (.sl .nil 0 []))⟩]) <|
  .seq (.seq (.ops [⟨some 3, none, .mov (.t 0)⟩, ⟨some 4, none, .bin .sl .eql (.t 3) (.c (.sl .nil 0 []))⟩]) <|
  .cond (.t 4) (.seq (.ops [⟨some 2, none, .mov (.c (.sl .nil 0 []))⟩]) <|
   .ret) (.skip)) <|
  .seq (.ops [⟨some 5, none, .buildSlice false 5 0 [] []⟩, ⟨some 6, none, .mov (.t 0)⟩, ⟨some 7, none, .append false false 5 40 (.t 5) (.t 6)⟩, ⟨some 2, none, .mov (.t 7)⟩]) <|
  .ret
def v30 : VFunc := ⟨8, [.tmp 2], c30⟩
/-- berthing/knobs.With -/
def c31 : VCode :=
  .seq (.ops [⟨some 3, none, .box (.t 0)⟩, ⟨some 6, none, .alloc [(.int .i64 0), (.int .i64 0), (.int .i64 0), (.int .i64 0), (.int .i64 0)]⟩]) <|
  .seq (.seq (.ops [⟨some 8, none, .mov (.t 1)⟩, ⟨some 9, none, .bin .num .lss (.t 8) (.c (.int .i64 0))⟩, ⟨some 10, none, .mov (.t 9)⟩, ⟨some 11, some (10, false), .mov (.t 1)⟩, ⟨some 12, some (10, false), .bin .num .gtr (.t 11) (.c (.int .i64 4))⟩, ⟨some 13, none, .pick (.t 10) (.c (.bool true)) (.t 12)⟩]) <|
  .cond (.t 13) (.seq (.ops [⟨some 14, none, .loadN 5 (.t 3)⟩, ⟨none, none, .storeN 5 (.t 6) (.t 14)⟩]) <|
   .ret) (.skip)) <|
  .seq (.ops [⟨some 15, none, .loadN 5 (.t 3)⟩, ⟨some 16, none, .call .pure 38 [(.t 15)]⟩, ⟨some 7, none, .alloc [(.int .i64 0), (.int .i64 0), (.int .i64 0), (.int .i64 0), (.int .i64 0)]⟩, ⟨none, none, .storeN 5 (.t 7) (.t 16)⟩]) <|
  .seq (.ops [⟨some 17, none, .mov (.t 1)⟩, ⟨some 18, none, .mov (.t 2)⟩, ⟨some 19, none, .idxAddrA 5 1 (.t 7) (.t 17)⟩, ⟨none, none, .store1 (.t 19) (.t 18)⟩]) <|
  .seq (.ops [⟨some 20, none, .idxAddrA 5 1 (.t 7) (.c (.int .i64 0))⟩, ⟨some 21, none, .load1 (.t 20)⟩, ⟨some 22, none, .idxAddrA 5 1 (.t 7) (.c (.int .i64 1))⟩, ⟨some 23, none, .load1 (.t 22)⟩, ⟨some 24, none, .idxAddrA 5 1 (.t 7) (.c (.int .i64 2))⟩, ⟨some 25, none, .load1 (.t 24)⟩, ⟨some 26, none, .idxAddrA 5 1 (.t 7) (.c (.int .i64 3))⟩, ⟨some 27, none, .load1 (.t 26)⟩, ⟨some 28, none, .idxAddrA 5 1 (.t 7) (.c (.int .i64 4))⟩, ⟨some 29, none, .load1 (.t 28)⟩, ⟨some 30, none, .build [(.int .i64 0), (.int .i64 0), (.int .i64 0), (.int .i64 0), (.int .i64 0)] [(0, 1, (.t 21)), (1, 1, (.t 23)), (2, 1, (.t 25)), (3, 1, (.t 27)), (4, 1, (.t 29))]⟩, ⟨none, none, .storeN 5 (.t 6) (.t 30)⟩]) <|
  .ret
def v31 : VFunc := ⟨31, [.cellN 5 6], c31⟩
/-- berthing/berthingref06.With -/
def c32 : VCode :=
  .seq (.ops [⟨some 3, none, .box (.t 0)⟩, ⟨some 6, none, .alloc [(.int .i64 0), (.int .i64 0), (.int .i64 0), (.int .i64 0), (.int .i64 0)]⟩]) <|
  .seq (.seq (.ops [⟨some 7, none, .mov (.t 1)⟩]) <|
  .block 0 (.seq (.ops [⟨some 9, none, .bin .num .eql (.t 7) (.c (.int .i64 0))⟩, ⟨some 8, none, .mov (.t 9)⟩]) <|
   .cond (.t 8) (.ops [⟨some 10, none, .mov (.t 2)⟩, ⟨some 11, none, .fieldAddr 0 (.t 3)⟩, ⟨none, none, .store1 (.t 11) (.t 10)⟩]) (.seq (.ops [⟨some 13, none, .bin .num .eql (.t 7) (.c (.int .i64 1))⟩, ⟨some 12, none, .mov (.t 13)⟩]) <|
    .cond (.t 12) (.ops [⟨some 14, none, .mov (.t 2)⟩, ⟨some 15, none, .fieldAddr 1 (.t 3)⟩, ⟨none, none, .store1 (.t 15) (.t 14)⟩]) (.seq (.ops [⟨some 17, none, .bin .num .eql (.t 7) (.c (.int .i64 2))⟩, ⟨some 16, none, .mov (.t 17)⟩]) <|
     .cond (.t 16) (.ops [⟨some 18, none, .mov (.t 2)⟩, ⟨some 19, none, .fieldAddr 2 (.t 3)⟩, ⟨none, none, .store1 (.t 19) (.t 18)⟩]) (.seq (.ops [⟨some 21, none, .bin .num .eql (.t 7) (.c (.int .i64 3))⟩, ⟨some 20, none, .mov (.t 21)⟩]) <|
      .cond (.t 20) (.ops [⟨some 22, none, .mov (.t 2)⟩, ⟨some 23, none, .fieldAddr 3 (.t 3)⟩, ⟨none, none, .store1 (.t 23) (.t 22)⟩]) (.seq (.ops [⟨some 25, none, .bin .num .eql (.t 7) (.c (.int .i64 4))⟩, ⟨some 24, none, .mov (.t 25)⟩]) <|
       .cond (.t 24) (.ops [⟨some 26, none, .mov (.t 2)⟩, ⟨some 27, none, .fieldAddr 4 (.t 3)⟩, ⟨none, none, .store1 (.t 27) (.t 26)⟩]) (.skip))))))) <|
  .seq (.ops [⟨some 28, none, .loadN 5 (.t 3)⟩, ⟨none, none, .storeN 5 (.t 6) (.t 28)⟩]) <|
  .ret
def v32 : VFunc := ⟨29, [.cellN 5 6], c32⟩
/-- berthing/berthingref17.Number -/
def c33 : VCode :=
  .seq (.ops [⟨some 4, none, .mov (.c (.bool false))⟩]) <|
  .seq (.seq (.ops [⟨some 6, none, .mov (.t 0)⟩, ⟨some 7, none, .bin .num .eql (.t 6) (.c (.int .i64 1))⟩]) <|
  .cond (.t 7) (.seq (.ops [⟨some 8, none, .mov (.t 1)⟩, ⟨some 9, none, .bin .num .gtr (.t 8) (.c (.int .i64 0))⟩, ⟨some 10, none, .mov (.t 9)⟩, ⟨some 11, some (10, true), .mov (.t 1)⟩, ⟨some 12, some (10, true), .bin .num .lss (.t 11) (.c (.int .i64 10001))⟩, ⟨some 13, none, .pick (.t 10) (.t 12) (.c (.bool false))⟩, ⟨some 4, none, .mov (.t 13)⟩]) <|
   .ret) (.skip)) <|
  .seq (.ops [⟨some 14, none, .mov (.t 1)⟩, ⟨some 15, none, .bin .num .geq (.t 14) (.c (.int .i64 0))⟩, ⟨some 16, none, .mov (.t 15)⟩, ⟨some 17, some (16, true), .mov (.t 1)⟩, ⟨some 18, some (16, true), .bin .num .leq (.t 17) (.c (.int .i64 9007199254740992))⟩, ⟨some 19, none, .pick (.t 16) (.t 18) (.c (.bool false))⟩, ⟨some 5, none, .mov (.t 19)⟩]) <|
  .seq (.seq (.ops [⟨some 20, none, .mov (.t 0)⟩, ⟨some 21, none, .bin .num .eql (.t 20) (.c (.int .i64 0))⟩, ⟨some 22, none, .mov (.t 21)⟩, ⟨some 23, some (22, false), .mov (.t 0)⟩, ⟨some 24, some (22, false), .bin .num .eql (.t 23) (.c (.int .i64 3))⟩, ⟨some 25, none, .pick (.t 22) (.c (.bool true)) (.t 24)⟩]) <|
  .cond (.t 25) (.seq (.ops [⟨some 26, none, .mov (.t 5)⟩, ⟨some 27, none, .mov (.t 26)⟩, ⟨some 28, some (27, false), .mov (.t 1)⟩, ⟨some 29, some (27, false), .bin .num .eql (.t 28) (.c (.int .i64 4611686018427387904))⟩, ⟨some 30, none, .pick (.t 27) (.c (.bool true)) (.t 29)⟩, ⟨some 4, none, .mov (.t 30)⟩]) <|
   .ret) (.skip)) <|
  .seq (.ops [⟨some 31, none, .mov (.t 0)⟩, ⟨some 32, none, .bin .num .eql (.t 31) (.c (.int .i64 2))⟩, ⟨some 33, none, .mov (.t 32)⟩, ⟨some 34, some (33, false), .mov (.t 0)⟩, ⟨some 35, some (33, false), .bin .num .eql (.t 34) (.c (.int .i64 4))⟩, ⟨some 36, none, .pick (.t 33) (.c (.bool true)) (.t 35)⟩, ⟨some 37, none, .mov (.t 36)⟩, ⟨some 38, some (37, true), .mov (.t 5)⟩, ⟨some 39, none, .pick (.t 37) (.t 38) (.c (.bool false))⟩, ⟨some 4, none, .mov (.t 39)⟩]) <|
  .ret
def v33 : VFunc := ⟨40, [.tmp 4], c33⟩
/-- berthing/berthingref17.wrong -/
def c34 : VCode :=
  .seq (.ops [⟨some 4, none, .box (.t 0)⟩, ⟨some 8, none, .mov (.c (.bool false))⟩]) <|
  .seq (.seq (.ops [⟨some 11, none, .mov (.t 1)⟩, ⟨some 12, none, .lenS (.t 11)⟩, ⟨some 13, none, .mov (.c (.int .i64 0))⟩]) <|
  .block 0 (.loop (.seq (.ops [⟨some 14, none, .bin .num .lss (.t 13) (.t 12)⟩]) <|
    .seq (.cond (.t 14) (.skip) (.exit 0)) <|
    .seq (.block 1 (.seq (.ops [⟨some 15, none, .idxAddrS 5 (.t 11) (.t 13)⟩, ⟨some 16, none, .loadN 5 (.t 15)⟩, ⟨some 10, none, .alloc [(.int .i64 0), (.int .i64 0), (.int .i64 0), (.int .i64 0), (.int .i64 0)]⟩, ⟨none, none, .storeN 5 (.t 10) (.t 16)⟩]) <|
     .seq (.ops [⟨some 17, none, .loadN 5 (.t 10)⟩, ⟨some 18, none, .mov (.t 2)⟩, ⟨some 19, none, .call .pure 25 [(.t 17), (.t 18)]⟩, ⟨some 20, none, .mov (.t 3)⟩, ⟨some 21, none, .bin .num .gtr (.t 19) (.t 20)⟩]) <|
     .cond (.t 21) (.seq (.ops [⟨some 8, none, .mov (.c (.bool true))⟩]) <|
      .ret) (.skip))) <|
    .ops [⟨some 22, none, .bin .num .add (.t 13) (.c (.int .i64 1))⟩, ⟨some 13, none, .mov (.t 22)⟩]))) <|
  .seq (.ops [⟨some 23, none, .mov (.t 3)⟩, ⟨some 24, none, .loadN 5 (.t 4)⟩, ⟨some 25, none, .mov (.t 2)⟩, ⟨some 26, none, .call .pure 25 [(.t 24), (.t 25)]⟩, ⟨some 27, none, .bin .num .gtr (.t 23) (.t 26)⟩, ⟨some 8, none, .mov (.t 27)⟩]) <|
  .ret
def v34 : VFunc := ⟨28, [.tmp 8], c34⟩
/-- berthing/knobs.At -/
def c35 : VCode :=
  .seq (.ops [⟨some 2, none, .box (.t 0)⟩, ⟨some 4, none, .mov (.c (.int .i64 0))⟩]) <|
  .seq (.seq (.ops [⟨some 5, none, .mov (.t 1)⟩, ⟨some 6, none, .bin .num .lss (.t 5) (.c (.int .i64 0))⟩, ⟨some 7, none, .mov (.t 6)⟩, ⟨some 8, some (7, false), .mov (.t 1)⟩, ⟨some 9, some (7, false), .bin .num .gtr (.t 8) (.c (.int .i64 4))⟩, ⟨some 10, none, .pick (.t 7) (.c (.bool true)) (.t 9)⟩]) <|
  .cond (.t 10) (.seq (.ops [⟨some 4, none, .mov (.c (.int .i64 0))⟩]) <|
   .ret) (.skip)) <|
  .seq (.ops [⟨some 11, none, .loadN 5 (.t 2)⟩, ⟨some 12, none, .call .pure 38 [(.t 11)]⟩, ⟨some 13, none, .mov (.t 1)⟩, ⟨some 14, none, .idxA1 5 (.t 12) (.t 13)⟩, ⟨some 4, none, .mov (.t 14)⟩]) <|
  .ret
def v35 : VFunc := ⟨15, [.tmp 4], c35⟩
/-- berthing/plan.Steps$1 -/
def c36 : VCode :=
  .seq (.draw [(6, [(.int .i64 0), (.int .i64 0), (.int .i64 0), (.int .i64 0), (.int .i64 0)])] [⟨some 10, none, .loadN 5 (.t 1)⟩, ⟨some 11, none, .load1 (.t 2)⟩, ⟨none, none, .idle⟩, ⟨none, none, .storeN 5 (.t 6) (.t 10)⟩, ⟨some 7, none, .mov (.t 11)⟩] [(1, 3)]) <|
  .block 0 (.loop (.block 1 (.seq (.ops [⟨some 13, none, .loadN 5 (.t 6)⟩, ⟨some 14, none, .loadN 5 (.t 3)⟩, ⟨some 15, none, .mov (.t 7)⟩, ⟨some 16, none, .load1 (.t 4)⟩, ⟨some 17, none, .call .pure 7 [(.t 13), (.t 14), (.t 15), (.t 16)]⟩, ⟨some 12, none, .mov (.t 17)⟩, ⟨some 18, none, .extract 0 (.t 12)⟩, ⟨some 19, none, .extract 1 (.t 12)⟩, ⟨some 8, none, .alloc [(.int .i64 0), (.int .i64 0), (.int .i64 0)]⟩, ⟨none, none, .storeN 3 (.t 8) (.t 18)⟩, ⟨some 9, none, .mov (.t 19)⟩]) <|
     .seq (.seq (.ops [⟨some 20, none, .mov (.t 9)⟩, ⟨some 21, none, .un .not (.t 20)⟩, ⟨some 22, none, .mov (.t 21)⟩, ⟨some 23, some (22, false), .mov (.t 0)⟩, ⟨some 24, some (22, false), .loadN 3 (.t 8)⟩, ⟨some 25, some (22, false), .callV (.t 23) [(.t 24)]⟩, ⟨some 26, some (22, false), .un .not (.t 25)⟩, ⟨some 27, none, .pick (.t 22) (.c (.bool true)) (.t 26)⟩]) <|
     .cond (.t 27) (.ret) (.skip)) <|
     .ops [⟨some 29, none, .loadN 5 (.t 6)⟩, ⟨some 30, none, .mov (.t 7)⟩, ⟨some 31, none, .loadN 3 (.t 8)⟩, ⟨some 32, none, .call .pure 14 [(.t 29), (.t 30), (.t 31)]⟩, ⟨some 28, none, .mov (.t 32)⟩, ⟨some 33, none, .extract 0 (.t 28)⟩, ⟨some 34, none, .extract 1 (.t 28)⟩, ⟨none, none, .storeN 5 (.t 6) (.t 33)⟩, ⟨some 7, none, .mov (.t 34)⟩])))
def v36 : VFunc := ⟨35, [], c36⟩
/-- berthing/knobs.sum -/
def c37 : VCode :=
  .seq (.ops [⟨some 2, none, .mov (.c (.bool false))⟩]) <|
  .seq (.ops [⟨some 3, none, .mov (.t 0)⟩, ⟨some 4, none, .bin .num .geq (.t 3) (.c (.int .i64 0))⟩, ⟨some 5, none, .mov (.t 4)⟩, ⟨some 6, some (5, true), .mov (.t 0)⟩, ⟨some 7, some (5, true), .bin .num .leq (.t 6) (.c (.int .i64 9007199254740992))⟩, ⟨some 8, none, .pick (.t 5) (.t 7) (.c (.bool false))⟩, ⟨some 2, none, .mov (.t 8)⟩]) <|
  .ret
def v37 : VFunc := ⟨9, [.tmp 2], c37⟩
/-- berthing/knobs.parts -/
def c38 : VCode :=
  .seq (.ops [⟨some 1, none, .box (.t 0)⟩, ⟨some 2, none, .alloc [(.int .i64 0), (.int .i64 0), (.int .i64 0), (.int .i64 0), (.int .i64 0)]⟩]) <|
  .seq (.ops [⟨some 3, none, .fieldAddr 0 (.t 1)⟩, ⟨some 4, none, .load1 (.t 3)⟩, ⟨some 5, none, .fieldAddr 1 (.t 1)⟩, ⟨some 6, none, .load1 (.t 5)⟩, ⟨some 7, none, .fieldAddr 2 (.t 1)⟩, ⟨some 8, none, .load1 (.t 7)⟩, ⟨some 9, none, .fieldAddr 3 (.t 1)⟩, ⟨some 10, none, .load1 (.t 9)⟩, ⟨some 11, none, .fieldAddr 4 (.t 1)⟩, ⟨some 12, none, .load1 (.t 11)⟩, ⟨some 13, none, .build [(.int .i64 0), (.int .i64 0), (.int .i64 0), (.int .i64 0), (.int .i64 0)] [(0, 1, (.t 4)), (1, 1, (.t 6)), (2, 1, (.t 8)), (3, 1, (.t 10)), (4, 1, (.t 12))]⟩, ⟨none, none, .storeN 5 (.t 2) (.t 13)⟩]) <|
  .ret
def v38 : VFunc := ⟨14, [.cellN 5 2], c38⟩
def ft : FuncId → Option VFunc := fun f => bif Nat.beq f 3 then some v3 else bif Nat.beq f 4 then some v4 else bif Nat.beq f 5 then some v5 else bif Nat.beq f 6 then some v6 else bif Nat.beq f 7 then some v7 else bif Nat.beq f 8 then some v8 else bif Nat.beq f 9 then some v9 else bif Nat.beq f 10 then some v10 else bif Nat.beq f 11 then some v11 else bif Nat.beq f 12 then some v12 else bif Nat.beq f 13 then some v13 else bif Nat.beq f 14 then some v14 else bif Nat.beq f 15 then some v15 else bif Nat.beq f 16 then some v16 else bif Nat.beq f 17 then some v17 else bif Nat.beq f 18 then some v18 else bif Nat.beq f 19 then some v19 else bif Nat.beq f 20 then some v20 else bif Nat.beq f 21 then some v21 else bif Nat.beq f 22 then some v22 else bif Nat.beq f 23 then some v23 else bif Nat.beq f 24 then some v24 else bif Nat.beq f 25 then some v25 else bif Nat.beq f 26 then some v26 else bif Nat.beq f 27 then some v27 else bif Nat.beq f 28 then some v28 else bif Nat.beq f 29 then some v29 else bif Nat.beq f 30 then some v30 else bif Nat.beq f 31 then some v31 else bif Nat.beq f 32 then some v32 else bif Nat.beq f 33 then some v33 else bif Nat.beq f 34 then some v34 else bif Nat.beq f 35 then some v35 else bif Nat.beq f 36 then some v36 else bif Nat.beq f 37 then some v37 else bif Nat.beq f 38 then some v38 else none
def env : Env := ⟨ft, md⟩
theorem is3 : FnComp ⟨Try.prog, md⟩ 3 v3 := ⟨Try.f3, _, fun t => ⟨false, md⟩, Try.func3, rfl, by kernel_rfl, by kernel_rfl, by kernel_rfl⟩
theorem is4 : FnComp ⟨Try.prog, md⟩ 4 v4 := ⟨Try.f4, _, fun t => ⟨false, md⟩, Try.func4, rfl, by kernel_rfl, by kernel_rfl, by kernel_rfl⟩
theorem is5 : FnComp ⟨Try.prog, md⟩ 5 v5 := ⟨Try.f5, _, fun t => ⟨false, md⟩, Try.func5, rfl, by kernel_rfl, by kernel_rfl, by kernel_rfl⟩
theorem is6 : FnComp ⟨Try.prog, md⟩ 6 v6 := ⟨Try.f6, _, fun t => ⟨false, md⟩, Try.func6, rfl, by kernel_rfl, by kernel_rfl, by kernel_rfl⟩
theorem is7 : FnComp ⟨Try.prog, md⟩ 7 v7 := ⟨Try.f7, _, fun t => ⟨false, md⟩, Try.func7, rfl, by kernel_rfl, by kernel_rfl, by kernel_rfl⟩
theorem is8 : FnComp ⟨Try.prog, md⟩ 8 v8 := ⟨Try.f8, _, fun t => ⟨false, md⟩, Try.func8, rfl, by kernel_rfl, by kernel_rfl, by kernel_rfl⟩
theorem is9 : FnComp ⟨Try.prog, md⟩ 9 v9 := ⟨Try.f9, _, fun t => ⟨false, md⟩, Try.func9, rfl, by kernel_rfl, by kernel_rfl, by kernel_rfl⟩
theorem is10 : FnComp ⟨Try.prog, md⟩ 10 v10 := ⟨Try.f10, _, fun t => ⟨false, md⟩, Try.func10, rfl, by kernel_rfl, by kernel_rfl, by kernel_rfl⟩
theorem is11 : FnComp ⟨Try.prog, md⟩ 11 v11 := ⟨Try.f11, _, fun t => ⟨false, md⟩, Try.func11, rfl, by kernel_rfl, by kernel_rfl, by kernel_rfl⟩
theorem is12 : FnComp ⟨Try.prog, md⟩ 12 v12 := ⟨Try.f12, _, fun t => ⟨false, md⟩, Try.func12, rfl, by kernel_rfl, by kernel_rfl, by kernel_rfl⟩
theorem is13 : FnComp ⟨Try.prog, md⟩ 13 v13 := ⟨Try.f13, _, fun t => ⟨false, md⟩, Try.func13, rfl, by kernel_rfl, by kernel_rfl, by kernel_rfl⟩
theorem is14 : FnComp ⟨Try.prog, md⟩ 14 v14 := ⟨Try.f14, _, fun t => ⟨Nat.beq t 10 || false, md⟩, Try.func14, rfl, by kernel_rfl, by kernel_rfl, by kernel_rfl⟩
theorem is15 : FnComp ⟨Try.prog, md⟩ 15 v15 := ⟨Try.f15, _, fun t => ⟨Nat.beq t 12 || false, md⟩, Try.func15, rfl, by kernel_rfl, by kernel_rfl, by kernel_rfl⟩
theorem is16 : FnComp ⟨Try.prog, md⟩ 16 v16 := ⟨Try.f16, _, fun t => ⟨false, md⟩, Try.func16, rfl, by kernel_rfl, by kernel_rfl, by kernel_rfl⟩
theorem is17 : FnComp ⟨Try.prog, md⟩ 17 v17 := ⟨Try.f17, _, fun t => ⟨false, md⟩, Try.func17, rfl, by kernel_rfl, by kernel_rfl, by kernel_rfl⟩
theorem is18 : FnComp ⟨Try.prog, md⟩ 18 v18 := ⟨Try.f18, _, fun t => ⟨false, md⟩, Try.func18, rfl, by kernel_rfl, by kernel_rfl, by kernel_rfl⟩
theorem is19 : FnComp ⟨Try.prog, md⟩ 19 v19 := ⟨Try.f19, _, fun t => ⟨false, md⟩, Try.func19, rfl, by kernel_rfl, by kernel_rfl, by kernel_rfl⟩
theorem is20 : FnComp ⟨Try.prog, md⟩ 20 v20 := ⟨Try.f20, _, fun t => ⟨false, md⟩, Try.func20, rfl, by kernel_rfl, by kernel_rfl, by kernel_rfl⟩
theorem is21 : FnComp ⟨Try.prog, md⟩ 21 v21 := ⟨Try.f21, _, fun t => ⟨false, md⟩, Try.func21, rfl, by kernel_rfl, by kernel_rfl, by kernel_rfl⟩
theorem is22 : FnComp ⟨Try.prog, md⟩ 22 v22 := ⟨Try.f22, _, fun t => ⟨false, md⟩, Try.func22, rfl, by kernel_rfl, by kernel_rfl, by kernel_rfl⟩
theorem is23 : FnComp ⟨Try.prog, md⟩ 23 v23 := ⟨Try.f23, _, fun t => ⟨false, md⟩, Try.func23, rfl, by kernel_rfl, by kernel_rfl, by kernel_rfl⟩
theorem is24 : FnComp ⟨Try.prog, md⟩ 24 v24 := ⟨Try.f24, _, fun t => ⟨false, md⟩, Try.func24, rfl, by kernel_rfl, by kernel_rfl, by kernel_rfl⟩
theorem is25 : FnComp ⟨Try.prog, md⟩ 25 v25 := ⟨Try.f25, _, fun t => ⟨false, md⟩, Try.func25, rfl, by kernel_rfl, by kernel_rfl, by kernel_rfl⟩
theorem is26 : FnComp ⟨Try.prog, md⟩ 26 v26 := ⟨Try.f26, _, fun t => ⟨false, md⟩, Try.func26, rfl, by kernel_rfl, by kernel_rfl, by kernel_rfl⟩
theorem is27 : FnComp ⟨Try.prog, md⟩ 27 v27 := ⟨Try.f27, _, fun t => ⟨false, md⟩, Try.func27, rfl, by kernel_rfl, by kernel_rfl, by kernel_rfl⟩
theorem is28 : FnComp ⟨Try.prog, md⟩ 28 v28 := ⟨Try.f28, _, fun t => ⟨false, md⟩, Try.func28, rfl, by kernel_rfl, by kernel_rfl, by kernel_rfl⟩
theorem is29 : FnComp ⟨Try.prog, md⟩ 29 v29 := ⟨Try.f29, _, fun t => ⟨false, md⟩, Try.func29, rfl, by kernel_rfl, by kernel_rfl, by kernel_rfl⟩
theorem is30 : FnComp ⟨Try.prog, md⟩ 30 v30 := ⟨Try.f30, _, fun t => ⟨false, md⟩, Try.func30, rfl, by kernel_rfl, by kernel_rfl, by kernel_rfl⟩
theorem is31 : FnComp ⟨Try.prog, md⟩ 31 v31 := ⟨Try.f31, _, fun t => ⟨false, md⟩, Try.func31, rfl, by kernel_rfl, by kernel_rfl, by kernel_rfl⟩
theorem is32 : FnComp ⟨Try.prog, md⟩ 32 v32 := ⟨Try.f32, _, fun t => ⟨false, md⟩, Try.func32, rfl, by kernel_rfl, by kernel_rfl, by kernel_rfl⟩
theorem is33 : FnComp ⟨Try.prog, md⟩ 33 v33 := ⟨Try.f33, _, fun t => ⟨false, md⟩, Try.func33, rfl, by kernel_rfl, by kernel_rfl, by kernel_rfl⟩
theorem is34 : FnComp ⟨Try.prog, md⟩ 34 v34 := ⟨Try.f34, _, fun t => ⟨false, md⟩, Try.func34, rfl, by kernel_rfl, by kernel_rfl, by kernel_rfl⟩
theorem is35 : FnComp ⟨Try.prog, md⟩ 35 v35 := ⟨Try.f35, _, fun t => ⟨false, md⟩, Try.func35, rfl, by kernel_rfl, by kernel_rfl, by kernel_rfl⟩
theorem is36 : FnComp ⟨Try.prog, md⟩ 36 v36 := ⟨Try.f36, _, fun t => ⟨false, md⟩, Try.func36, rfl, by kernel_rfl, by kernel_rfl, by kernel_rfl⟩
theorem is37 : FnComp ⟨Try.prog, md⟩ 37 v37 := ⟨Try.f37, _, fun t => ⟨false, md⟩, Try.func37, rfl, by kernel_rfl, by kernel_rfl, by kernel_rfl⟩
theorem is38 : FnComp ⟨Try.prog, md⟩ 38 v38 := ⟨Try.f38, _, fun t => ⟨false, md⟩, Try.func38, rfl, by kernel_rfl, by kernel_rfl, by kernel_rfl⟩

theorem envOK : EnvOK ⟨Try.prog, md⟩ env := ⟨rfl, by kernel_rfl, fun f vf h => by
  change ft f = some vf at h
  unfold ft at h
  rcases ft_cons h with ⟨h1, h2⟩ | h
  · rw [h1, h2]; exact is3
  rcases ft_cons h with ⟨h1, h2⟩ | h
  · rw [h1, h2]; exact is4
  rcases ft_cons h with ⟨h1, h2⟩ | h
  · rw [h1, h2]; exact is5
  rcases ft_cons h with ⟨h1, h2⟩ | h
  · rw [h1, h2]; exact is6
  rcases ft_cons h with ⟨h1, h2⟩ | h
  · rw [h1, h2]; exact is7
  rcases ft_cons h with ⟨h1, h2⟩ | h
  · rw [h1, h2]; exact is8
  rcases ft_cons h with ⟨h1, h2⟩ | h
  · rw [h1, h2]; exact is9
  rcases ft_cons h with ⟨h1, h2⟩ | h
  · rw [h1, h2]; exact is10
  rcases ft_cons h with ⟨h1, h2⟩ | h
  · rw [h1, h2]; exact is11
  rcases ft_cons h with ⟨h1, h2⟩ | h
  · rw [h1, h2]; exact is12
  rcases ft_cons h with ⟨h1, h2⟩ | h
  · rw [h1, h2]; exact is13
  rcases ft_cons h with ⟨h1, h2⟩ | h
  · rw [h1, h2]; exact is14
  rcases ft_cons h with ⟨h1, h2⟩ | h
  · rw [h1, h2]; exact is15
  rcases ft_cons h with ⟨h1, h2⟩ | h
  · rw [h1, h2]; exact is16
  rcases ft_cons h with ⟨h1, h2⟩ | h
  · rw [h1, h2]; exact is17
  rcases ft_cons h with ⟨h1, h2⟩ | h
  · rw [h1, h2]; exact is18
  rcases ft_cons h with ⟨h1, h2⟩ | h
  · rw [h1, h2]; exact is19
  rcases ft_cons h with ⟨h1, h2⟩ | h
  · rw [h1, h2]; exact is20
  rcases ft_cons h with ⟨h1, h2⟩ | h
  · rw [h1, h2]; exact is21
  rcases ft_cons h with ⟨h1, h2⟩ | h
  · rw [h1, h2]; exact is22
  rcases ft_cons h with ⟨h1, h2⟩ | h
  · rw [h1, h2]; exact is23
  rcases ft_cons h with ⟨h1, h2⟩ | h
  · rw [h1, h2]; exact is24
  rcases ft_cons h with ⟨h1, h2⟩ | h
  · rw [h1, h2]; exact is25
  rcases ft_cons h with ⟨h1, h2⟩ | h
  · rw [h1, h2]; exact is26
  rcases ft_cons h with ⟨h1, h2⟩ | h
  · rw [h1, h2]; exact is27
  rcases ft_cons h with ⟨h1, h2⟩ | h
  · rw [h1, h2]; exact is28
  rcases ft_cons h with ⟨h1, h2⟩ | h
  · rw [h1, h2]; exact is29
  rcases ft_cons h with ⟨h1, h2⟩ | h
  · rw [h1, h2]; exact is30
  rcases ft_cons h with ⟨h1, h2⟩ | h
  · rw [h1, h2]; exact is31
  rcases ft_cons h with ⟨h1, h2⟩ | h
  · rw [h1, h2]; exact is32
  rcases ft_cons h with ⟨h1, h2⟩ | h
  · rw [h1, h2]; exact is33
  rcases ft_cons h with ⟨h1, h2⟩ | h
  · rw [h1, h2]; exact is34
  rcases ft_cons h with ⟨h1, h2⟩ | h
  · rw [h1, h2]; exact is35
  rcases ft_cons h with ⟨h1, h2⟩ | h
  · rw [h1, h2]; exact is36
  rcases ft_cons h with ⟨h1, h2⟩ | h
  · rw [h1, h2]; exact is37
  rcases ft_cons h with ⟨h1, h2⟩ | h
  · rw [h1, h2]; exact is38
  cases h⟩
end Go.Proofs.Ytaiomdfajdeacaa
