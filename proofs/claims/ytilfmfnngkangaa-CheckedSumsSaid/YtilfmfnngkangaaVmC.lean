/-
  The functions of this seat as code of the abstract machine, and that they are so. Printed by a program.
-/
import Derived.Test.YtilfmfnngkangaaV7
import Derived.Test.YtilfmfnngkangaaChecked
import Derived.KernelRfl
set_option linter.all false
set_option linter.unusedVariables false
set_option linter.unusedSimpArgs false
set_option linter.unusedSectionVars false
namespace Go.Proofs.Ytilfmfnngkangaa
open Go Go.VM

def md : FuncId → VM.Mode := fun f => .pure
/-- berthing/berthinglaw03.CheckedAll -/
def c3 : VCode :=
  .seq (.ops [⟨some 2, none, .mov (.c (.bool false))⟩]) <|
  .seq (.seq (.ops [⟨some 9, none, .call 7 []⟩, ⟨some 10, none, .un .not (.t 9)⟩]) <|
  .cond (.t 10) (.seq (.ops [⟨some 2, none, .mov (.c (.bool false))⟩]) <|
   .ret) (.skip)) <|
  .seq (.seq (.ops [⟨some 11, none, .mov (.t 0)⟩, ⟨some 12, none, .lenS (.t 11)⟩, ⟨some 13, none, .bin .num .gtr (.t 12) (.c (.int .i64 200))⟩]) <|
  .cond (.t 13) (.seq (.ops [⟨some 2, none, .mov (.c (.bool true))⟩]) <|
   .ret) (.skip)) <|
  .seq (.ops [⟨some 15, none, .mov (.t 0)⟩, ⟨some 16, none, .call 8 [(.t 15)]⟩, ⟨some 14, none, .mov (.t 16)⟩, ⟨some 17, none, .extract 0 (.t 14)⟩, ⟨some 18, none, .extract 1 (.t 14)⟩, ⟨some 3, none, .mov (.t 17)⟩, ⟨some 4, none, .mov (.t 18)⟩]) <|
  .seq (.ops [⟨some 5, none, .mov (.c (.int .i64 0))⟩, ⟨some 6, none, .mov (.c (.bool true))⟩]) <|
  .seq (.seq (.ops [⟨some 19, none, .mov (.t 0)⟩, ⟨some 20, none, .lenS (.t 19)⟩, ⟨some 21, none, .mov (.c (.int .i64 0))⟩]) <|
  .block 0 (.loop (.seq (.ops [⟨some 22, none, .bin .num .lss (.t 21) (.t 20)⟩]) <|
    .seq (.cond (.t 22) (.skip) (.exit 0)) <|
    .seq (.block 1 (.seq (.ops [⟨some 23, none, .idxAddrS 1 (.t 19) (.t 21)⟩, ⟨some 24, none, .load1 (.t 23)⟩, ⟨some 8, none, .mov (.t 24)⟩]) <|
     .seq (.ops [⟨some 25, none, .mov (.t 6)⟩]) <|
     .cond (.t 25) (.ops [⟨some 27, none, .mov (.t 5)⟩, ⟨some 28, none, .call 9 [(.t 27)]⟩, ⟨some 29, none, .mov (.t 8)⟩, ⟨some 30, none, .call 9 [(.t 29)]⟩, ⟨some 31, none, .call 10 [(.t 28), (.t 30)]⟩, ⟨some 32, none, .call 11 [(.t 31)]⟩, ⟨some 26, none, .mov (.t 32)⟩, ⟨some 33, none, .extract 0 (.t 26)⟩, ⟨some 34, none, .extract 1 (.t 26)⟩, ⟨some 5, none, .mov (.t 33)⟩, ⟨some 6, none, .mov (.t 34)⟩]) (.skip))) <|
    .ops [⟨some 35, none, .bin .num .add (.t 21) (.c (.int .i64 1))⟩, ⟨some 21, none, .mov (.t 35)⟩]))) <|
  .seq (.ops [⟨some 36, none, .mov (.t 4)⟩, ⟨some 37, none, .mov (.t 6)⟩, ⟨some 38, none, .bin .bool .eql (.t 36) (.t 37)⟩, ⟨some 39, none, .mov (.t 38)⟩, ⟨some 40, some (39, true), .mov (.t 3)⟩, ⟨some 41, some (39, true), .mov (.t 5)⟩, ⟨some 42, some (39, true), .bin .num .eql (.t 40) (.t 41)⟩, ⟨some 43, none, .pick (.t 39) (.t 42) (.c (.bool false))⟩, ⟨some 2, none, .mov (.t 43)⟩]) <|
  .ret
def v3 : VFunc := ⟨44, [.tmp 2], c3⟩
/-- berthing/berthinglaw03.CheckedSums -/
def c4 : VCode :=
  .seq (.ops [⟨some 4, none, .mov (.c (.bool false))⟩]) <|
  .seq (.seq (.ops [⟨some 23, none, .call 7 []⟩, ⟨some 24, none, .un .not (.t 23)⟩]) <|
  .cond (.t 24) (.seq (.ops [⟨some 4, none, .mov (.c (.bool false))⟩]) <|
   .ret) (.skip)) <|
  .seq (.ops [⟨some 25, none, .mov (.t 0)⟩, ⟨some 26, none, .call 9 [(.t 25)]⟩, ⟨some 27, none, .mov (.t 1)⟩, ⟨some 28, none, .call 9 [(.t 27)]⟩, ⟨some 5, none, .alloc [(.bool false), (.int .u64 0), (.int .u64 0), (.int .u64 0), (.int .u64 0), (.int .u64 0), (.int .u64 0), (.int .u64 0), (.int .u64 0), (.int .u64 0), (.int .u64 0), (.int .u64 0), (.int .u64 0), (.int .u64 0), (.int .u64 0), (.int .u64 0), (.int .u64 0), (.int .u64 0), (.int .u64 0), (.int .u64 0), (.int .u64 0)]⟩, ⟨some 6, none, .alloc [(.bool false), (.int .u64 0), (.int .u64 0), (.int .u64 0), (.int .u64 0), (.int .u64 0), (.int .u64 0), (.int .u64 0), (.int .u64 0), (.int .u64 0), (.int .u64 0), (.int .u64 0), (.int .u64 0), (.int .u64 0), (.int .u64 0), (.int .u64 0), (.int .u64 0), (.int .u64 0), (.int .u64 0), (.int .u64 0), (.int .u64 0)]⟩, ⟨none, none, .storeN 21 (.t 5) (.t 26)⟩, ⟨none, none, .storeN 21 (.t 6) (.t 28)⟩]) <|
  .seq (.ops [⟨some 30, none, .mov (.t 0)⟩, ⟨some 31, none, .mov (.t 1)⟩, ⟨some 32, none, .call 12 [(.t 30), (.t 31)]⟩, ⟨some 29, none, .mov (.t 32)⟩, ⟨some 33, none, .extract 0 (.t 29)⟩, ⟨some 34, none, .extract 1 (.t 29)⟩, ⟨some 7, none, .mov (.t 33)⟩, ⟨some 8, none, .mov (.t 34)⟩]) <|
  .seq (.ops [⟨some 36, none, .loadN 21 (.t 5)⟩, ⟨some 37, none, .loadN 21 (.t 6)⟩, ⟨some 38, none, .call 10 [(.t 36), (.t 37)]⟩, ⟨some 39, none, .call 11 [(.t 38)]⟩, ⟨some 35, none, .mov (.t 39)⟩, ⟨some 40, none, .extract 0 (.t 35)⟩, ⟨some 41, none, .extract 1 (.t 35)⟩, ⟨some 9, none, .mov (.t 40)⟩, ⟨some 10, none, .mov (.t 41)⟩]) <|
  .seq (.ops [⟨some 43, none, .mov (.t 0)⟩, ⟨some 44, none, .mov (.t 1)⟩, ⟨some 45, none, .call 13 [(.t 43), (.t 44)]⟩, ⟨some 42, none, .mov (.t 45)⟩, ⟨some 46, none, .extract 0 (.t 42)⟩, ⟨some 47, none, .extract 1 (.t 42)⟩, ⟨some 11, none, .mov (.t 46)⟩, ⟨some 12, none, .mov (.t 47)⟩]) <|
  .seq (.ops [⟨some 49, none, .loadN 21 (.t 5)⟩, ⟨some 50, none, .loadN 21 (.t 6)⟩, ⟨some 51, none, .call 14 [(.t 50)]⟩, ⟨some 52, none, .call 10 [(.t 49), (.t 51)]⟩, ⟨some 53, none, .call 11 [(.t 52)]⟩, ⟨some 48, none, .mov (.t 53)⟩, ⟨some 54, none, .extract 0 (.t 48)⟩, ⟨some 55, none, .extract 1 (.t 48)⟩, ⟨some 13, none, .mov (.t 54)⟩, ⟨some 14, none, .mov (.t 55)⟩]) <|
  .seq (.ops [⟨some 57, none, .mov (.t 0)⟩, ⟨some 58, none, .mov (.t 1)⟩, ⟨some 59, none, .call 15 [(.t 57), (.t 58)]⟩, ⟨some 56, none, .mov (.t 59)⟩, ⟨some 60, none, .extract 0 (.t 56)⟩, ⟨some 61, none, .extract 1 (.t 56)⟩, ⟨some 15, none, .mov (.t 60)⟩, ⟨some 16, none, .mov (.t 61)⟩]) <|
  .seq (.ops [⟨some 63, none, .loadN 21 (.t 5)⟩, ⟨some 64, none, .loadN 21 (.t 6)⟩, ⟨some 65, none, .call 16 [(.t 63), (.t 64)]⟩, ⟨some 66, none, .call 11 [(.t 65)]⟩, ⟨some 62, none, .mov (.t 66)⟩, ⟨some 67, none, .extract 0 (.t 62)⟩, ⟨some 68, none, .extract 1 (.t 62)⟩, ⟨some 17, none, .mov (.t 67)⟩, ⟨some 18, none, .mov (.t 68)⟩]) <|
  .seq (.ops [⟨some 70, none, .mov (.t 0)⟩, ⟨some 71, none, .mov (.t 1)⟩, ⟨some 72, none, .call 17 [(.t 70), (.t 71)]⟩, ⟨some 69, none, .mov (.t 72)⟩, ⟨some 73, none, .extract 0 (.t 69)⟩, ⟨some 74, none, .extract 1 (.t 69)⟩, ⟨some 19, none, .mov (.t 73)⟩, ⟨some 20, none, .mov (.t 74)⟩]) <|
  .seq (.ops [⟨some 21, none, .mov (.c (.int .i64 0))⟩, ⟨some 22, none, .mov (.c (.bool false))⟩]) <|
  .seq (.seq (.ops [⟨some 75, none, .mov (.t 1)⟩, ⟨some 76, none, .bin .num .gtr (.t 75) (.c (.int .i64 0))⟩]) <|
  .cond (.t 76) (.ops [⟨some 78, none, .mov (.t 0)⟩, ⟨some 79, none, .mov (.t 1)⟩, ⟨some 80, none, .call 18 [(.t 78), (.t 79)]⟩, ⟨some 81, none, .call 11 [(.t 80)]⟩, ⟨some 77, none, .mov (.t 81)⟩, ⟨some 82, none, .extract 0 (.t 77)⟩, ⟨some 83, none, .extract 1 (.t 77)⟩, ⟨some 21, none, .mov (.t 82)⟩, ⟨some 22, none, .mov (.t 83)⟩]) (.skip)) <|
  .seq (.ops [⟨some 84, none, .mov (.t 8)⟩, ⟨some 85, none, .mov (.t 10)⟩, ⟨some 86, none, .bin .bool .eql (.t 84) (.t 85)⟩, ⟨some 87, none, .mov (.t 86)⟩, ⟨some 88, some (87, true), .mov (.t 7)⟩, ⟨some 89, some (87, true), .mov (.t 9)⟩, ⟨some 90, some (87, true), .bin .num .eql (.t 88) (.t 89)⟩, ⟨some 91, none, .pick (.t 87) (.t 90) (.c (.bool false))⟩, ⟨some 92, none, .mov (.t 91)⟩, ⟨some 93, some (92, true), .mov (.t 12)⟩, ⟨some 94, some (92, true), .mov (.t 14)⟩, ⟨some 95, some (92, true), .bin .bool .eql (.t 93) (.t 94)⟩, ⟨some 96, none, .pick (.t 92) (.t 95) (.c (.bool false))⟩, ⟨some 97, none, .mov (.t 96)⟩, ⟨some 98, some (97, true), .mov (.t 11)⟩, ⟨some 99, some (97, true), .mov (.t 13)⟩, ⟨some 100, some (97, true), .bin .num .eql (.t 98) (.t 99)⟩, ⟨some 101, none, .pick (.t 97) (.t 100) (.c (.bool false))⟩, ⟨some 102, none, .mov (.t 101)⟩, ⟨some 103, some (102, true), .mov (.t 16)⟩, ⟨some 104, some (102, true), .mov (.t 18)⟩, ⟨some 105, some (102, true), .bin .bool .eql (.t 103) (.t 104)⟩, ⟨some 106, none, .pick (.t 102) (.t 105) (.c (.bool false))⟩, ⟨some 107, none, .mov (.t 106)⟩, ⟨some 108, some (107, true), .mov (.t 15)⟩, ⟨some 109, some (107, true), .mov (.t 17)⟩, ⟨some 110, some (107, true), .bin .num .eql (.t 108) (.t 109)⟩, ⟨some 111, none, .pick (.t 107) (.t 110) (.c (.bool false))⟩, ⟨some 112, none, .mov (.t 111)⟩, ⟨some 113, some (112, true), .mov (.t 20)⟩, ⟨some 114, some (112, true), .mov (.t 22)⟩, ⟨some 115, some (112, true), .bin .bool .eql (.t 113) (.t 114)⟩, ⟨some 116, none, .pick (.t 112) (.t 115) (.c (.bool false))⟩, ⟨some 117, none, .mov (.t 116)⟩, ⟨some 118, some (117, true), .mov (.t 19)⟩, ⟨some 119, some (117, true), .mov (.t 21)⟩, ⟨some 120, some (117, true), .bin .num .eql (.t 118) (.t 119)⟩, ⟨some 121, none, .pick (.t 117) (.t 120) (.c (.bool false))⟩, ⟨some 4, none, .mov (.t 121)⟩]) <|
  .ret
def v4 : VFunc := ⟨122, [.tmp 4], c4⟩
/-- berthing/berthinglaw03.CheckedBack -/
def c5 : VCode :=
  .seq (.ops [⟨some 6, none, .mov (.c (.bool false))⟩]) <|
  .seq (.seq (.ops [⟨some 15, none, .call 7 []⟩, ⟨some 16, none, .un .not (.t 15)⟩]) <|
  .cond (.t 16) (.seq (.ops [⟨some 6, none, .mov (.c (.bool false))⟩]) <|
   .ret) (.skip)) <|
  .seq (.seq (.ops [⟨some 18, none, .mov (.t 0)⟩, ⟨some 19, none, .mov (.t 1)⟩, ⟨some 20, none, .call 12 [(.t 18), (.t 19)]⟩, ⟨some 17, none, .mov (.t 20)⟩, ⟨some 21, none, .extract 0 (.t 17)⟩, ⟨some 22, none, .extract 1 (.t 17)⟩, ⟨some 7, none, .mov (.t 21)⟩, ⟨some 8, none, .mov (.t 22)⟩]) <|
  .seq (.ops [⟨some 23, none, .mov (.t 8)⟩]) <|
  .cond (.t 23) (.seq (.ops [⟨some 25, none, .mov (.t 7)⟩, ⟨some 26, none, .mov (.t 1)⟩, ⟨some 27, none, .call 13 [(.t 25), (.t 26)]⟩, ⟨some 24, none, .mov (.t 27)⟩, ⟨some 28, none, .extract 0 (.t 24)⟩, ⟨some 29, none, .extract 1 (.t 24)⟩, ⟨some 9, none, .mov (.t 28)⟩, ⟨some 10, none, .mov (.t 29)⟩]) <|
   .seq (.ops [⟨some 30, none, .mov (.t 10)⟩, ⟨some 31, none, .un .not (.t 30)⟩, ⟨some 32, none, .mov (.t 31)⟩, ⟨some 33, some (32, false), .mov (.t 9)⟩, ⟨some 34, some (32, false), .mov (.t 0)⟩, ⟨some 35, some (32, false), .bin .num .neq (.t 33) (.t 34)⟩, ⟨some 36, none, .pick (.t 32) (.c (.bool true)) (.t 35)⟩]) <|
   .cond (.t 36) (.seq (.ops [⟨some 6, none, .mov (.c (.bool false))⟩]) <|
    .ret) (.skip)) (.skip)) <|
  .seq (.seq (.ops [⟨some 38, none, .mov (.t 0)⟩, ⟨some 39, none, .mov (.t 1)⟩, ⟨some 40, none, .call 17 [(.t 38), (.t 39)]⟩, ⟨some 37, none, .mov (.t 40)⟩, ⟨some 41, none, .extract 0 (.t 37)⟩, ⟨some 42, none, .extract 1 (.t 37)⟩, ⟨some 11, none, .mov (.t 41)⟩, ⟨some 12, none, .mov (.t 42)⟩]) <|
  .seq (.ops [⟨some 43, none, .mov (.t 12)⟩]) <|
  .cond (.t 43) (.seq (.ops [⟨some 45, none, .mov (.t 11)⟩, ⟨some 46, none, .mov (.t 0)⟩, ⟨some 47, none, .call 13 [(.t 45), (.t 46)]⟩, ⟨some 44, none, .mov (.t 47)⟩, ⟨some 48, none, .extract 0 (.t 44)⟩, ⟨some 49, none, .extract 1 (.t 44)⟩, ⟨some 13, none, .mov (.t 48)⟩, ⟨some 14, none, .mov (.t 49)⟩]) <|
   .seq (.ops [⟨some 50, none, .mov (.t 14)⟩, ⟨some 51, none, .un .not (.t 50)⟩, ⟨some 52, none, .mov (.t 51)⟩, ⟨some 53, some (52, false), .mov (.t 13)⟩, ⟨some 54, some (52, false), .bin .num .lss (.t 53) (.c (.int .i64 0))⟩, ⟨some 55, none, .pick (.t 52) (.c (.bool true)) (.t 54)⟩, ⟨some 56, none, .mov (.t 55)⟩, ⟨some 57, some (56, false), .mov (.t 13)⟩, ⟨some 58, some (56, false), .mov (.t 1)⟩, ⟨some 59, some (56, false), .bin .num .geq (.t 57) (.t 58)⟩, ⟨some 60, none, .pick (.t 56) (.c (.bool true)) (.t 59)⟩, ⟨some 61, none, .mov (.t 60)⟩, ⟨some 62, some (61, false), .mov (.t 11)⟩, ⟨some 63, some (61, false), .mov (.t 1)⟩, ⟨some 64, some (61, false), .bin .num .rem (.t 62) (.t 63)⟩, ⟨some 65, some (61, false), .bin .num .neq (.t 64) (.c (.int .i64 0))⟩, ⟨some 66, none, .pick (.t 61) (.c (.bool true)) (.t 65)⟩]) <|
   .cond (.t 66) (.seq (.ops [⟨some 6, none, .mov (.c (.bool false))⟩]) <|
    .ret) (.skip)) (.skip)) <|
  .seq (.ops [⟨some 67, none, .mov (.t 0)⟩, ⟨some 68, none, .call 20 [(.t 67)]⟩, ⟨some 69, none, .call 19 [(.t 68)]⟩, ⟨some 70, none, .mov (.t 0)⟩, ⟨some 71, none, .bin .num .eql (.t 69) (.t 70)⟩, ⟨some 72, none, .mov (.t 71)⟩, ⟨some 73, some (72, true), .mov (.t 2)⟩, ⟨some 74, some (72, true), .call 19 [(.t 73)]⟩, ⟨some 75, some (72, true), .call 20 [(.t 74)]⟩, ⟨some 76, some (72, true), .mov (.t 2)⟩, ⟨some 77, some (72, true), .bin .num .eql (.t 75) (.t 76)⟩, ⟨some 78, none, .pick (.t 72) (.t 77) (.c (.bool false))⟩, ⟨some 6, none, .mov (.t 78)⟩]) <|
  .ret
def v5 : VFunc := ⟨79, [.tmp 6], c5⟩
/-- berthing/berthinglaw03.CheckedNarrows -/
def c6 : VCode :=
  .seq (.ops [⟨some 1, none, .box (.t 0)⟩, ⟨some 2, none, .mov (.c (.bool false))⟩]) <|
  .seq (.seq (.ops [⟨some 16, none, .call 7 []⟩, ⟨some 17, none, .un .not (.t 16)⟩]) <|
  .cond (.t 17) (.seq (.ops [⟨some 2, none, .mov (.c (.bool false))⟩]) <|
   .ret) (.skip)) <|
  .seq (.ops [⟨some 18, none, .fieldAddr 0 (.t 1)⟩, ⟨some 19, none, .load1 (.t 18)⟩, ⟨some 20, none, .fieldAddr 1 (.t 1)⟩, ⟨some 21, none, .load1 (.t 20)⟩, ⟨some 22, none, .fieldAddr 2 (.t 1)⟩, ⟨some 23, none, .load1 (.t 22)⟩, ⟨some 24, none, .fieldAddr 3 (.t 1)⟩, ⟨some 25, none, .load1 (.t 24)⟩, ⟨some 3, none, .mov (.t 19)⟩, ⟨some 4, none, .mov (.t 21)⟩, ⟨some 5, none, .mov (.t 23)⟩, ⟨some 6, none, .mov (.t 25)⟩]) <|
  .seq (.ops [⟨some 27, none, .mov (.t 3)⟩, ⟨some 28, none, .call 21 [(.t 27)]⟩, ⟨some 26, none, .mov (.t 28)⟩, ⟨some 29, none, .extract 0 (.t 26)⟩, ⟨some 30, none, .extract 1 (.t 26)⟩, ⟨some 7, none, .mov (.t 29)⟩, ⟨some 8, none, .mov (.t 30)⟩]) <|
  .seq (.ops [⟨some 32, none, .mov (.t 3)⟩, ⟨some 33, none, .call 22 [(.t 32)]⟩, ⟨some 31, none, .mov (.t 33)⟩, ⟨some 34, none, .extract 0 (.t 31)⟩, ⟨some 35, none, .extract 1 (.t 31)⟩, ⟨some 9, none, .mov (.t 34)⟩, ⟨some 10, none, .mov (.t 35)⟩]) <|
  .seq (.ops [⟨some 37, none, .mov (.t 3)⟩, ⟨some 38, none, .call 23 [(.t 37)]⟩, ⟨some 36, none, .mov (.t 38)⟩, ⟨some 39, none, .extract 0 (.t 36)⟩, ⟨some 40, none, .extract 1 (.t 36)⟩, ⟨some 11, none, .mov (.t 39)⟩, ⟨some 12, none, .mov (.t 40)⟩]) <|
  .seq (.seq (.ops [⟨some 41, none, .mov (.t 8)⟩, ⟨some 42, none, .mov (.t 3)⟩, ⟨some 43, none, .bin .num .geq (.t 42) (.c (.int .i64 0))⟩, ⟨some 44, none, .mov (.t 43)⟩, ⟨some 45, some (44, true), .mov (.t 3)⟩, ⟨some 46, some (44, true), .bin .num .leq (.t 45) (.c (.int .i64 255))⟩, ⟨some 47, none, .pick (.t 44) (.t 46) (.c (.bool false))⟩, ⟨some 48, none, .bin .bool .neq (.t 41) (.t 47)⟩, ⟨some 49, none, .mov (.t 48)⟩, ⟨some 50, some (49, false), .mov (.t 10)⟩, ⟨some 51, some (49, false), .mov (.t 3)⟩, ⟨some 52, some (49, false), .bin .num .geq (.t 51) (.c (.int .i64 (-32768)))⟩, ⟨some 53, some (49, false), .mov (.t 52)⟩, ⟨some 54, some (53, true), .mov (.t 3)⟩, ⟨some 55, some (53, true), .bin .num .leq (.t 54) (.c (.int .i64 32767))⟩, ⟨some 56, some (49, false), .pick (.t 53) (.t 55) (.c (.bool false))⟩, ⟨some 57, some (49, false), .bin .bool .neq (.t 50) (.t 56)⟩, ⟨some 58, none, .pick (.t 49) (.c (.bool true)) (.t 57)⟩, ⟨some 59, none, .mov (.t 58)⟩, ⟨some 60, some (59, false), .mov (.t 12)⟩, ⟨some 61, some (59, false), .mov (.t 3)⟩, ⟨some 62, some (59, false), .bin .num .geq (.t 61) (.c (.int .i64 (-2147483648)))⟩, ⟨some 63, some (59, false), .mov (.t 62)⟩, ⟨some 64, some (63, true), .mov (.t 3)⟩, ⟨some 65, some (63, true), .bin .num .leq (.t 64) (.c (.int .i64 2147483647))⟩, ⟨some 66, some (59, false), .pick (.t 63) (.t 65) (.c (.bool false))⟩, ⟨some 67, some (59, false), .bin .bool .neq (.t 60) (.t 66)⟩, ⟨some 68, none, .pick (.t 59) (.c (.bool true)) (.t 67)⟩]) <|
  .cond (.t 68) (.seq (.ops [⟨some 2, none, .mov (.c (.bool false))⟩]) <|
   .ret) (.skip)) <|
  .seq (.seq (.ops [⟨some 69, none, .mov (.t 8)⟩, ⟨some 70, none, .mov (.t 69)⟩, ⟨some 71, some (70, true), .mov (.t 7)⟩, ⟨some 72, some (70, true), .conv .i64 (.t 71)⟩, ⟨some 73, some (70, true), .mov (.t 3)⟩, ⟨some 74, some (70, true), .bin .num .neq (.t 72) (.t 73)⟩, ⟨some 75, none, .pick (.t 70) (.t 74) (.c (.bool false))⟩, ⟨some 76, none, .mov (.t 75)⟩, ⟨some 77, some (76, false), .mov (.t 8)⟩, ⟨some 78, some (76, false), .un .not (.t 77)⟩, ⟨some 79, some (76, false), .mov (.t 78)⟩, ⟨some 80, some (79, true), .mov (.t 7)⟩, ⟨some 81, some (79, true), .bin .num .neq (.t 80) (.c (.int .u8 0))⟩, ⟨some 82, some (76, false), .pick (.t 79) (.t 81) (.c (.bool false))⟩, ⟨some 83, none, .pick (.t 76) (.c (.bool true)) (.t 82)⟩, ⟨some 84, none, .mov (.t 83)⟩, ⟨some 85, some (84, false), .mov (.t 10)⟩, ⟨some 86, some (84, false), .mov (.t 85)⟩, ⟨some 87, some (86, true), .mov (.t 9)⟩, ⟨some 88, some (86, true), .conv .i64 (.t 87)⟩, ⟨some 89, some (86, true), .mov (.t 3)⟩, ⟨some 90, some (86, true), .bin .num .neq (.t 88) (.t 89)⟩, ⟨some 91, some (84, false), .pick (.t 86) (.t 90) (.c (.bool false))⟩, ⟨some 92, none, .pick (.t 84) (.c (.bool true)) (.t 91)⟩, ⟨some 93, none, .mov (.t 92)⟩, ⟨some 94, some (93, false), .mov (.t 10)⟩, ⟨some 95, some (93, false), .un .not (.t 94)⟩, ⟨some 96, some (93, false), .mov (.t 95)⟩, ⟨some 97, some (96, true), .mov (.t 9)⟩, ⟨some 98, some (96, true), .bin .num .neq (.t 97) (.c (.int .i16 0))⟩, ⟨some 99, some (93, false), .pick (.t 96) (.t 98) (.c (.bool false))⟩, ⟨some 100, none, .pick (.t 93) (.c (.bool true)) (.t 99)⟩, ⟨some 101, none, .mov (.t 100)⟩, ⟨some 102, some (101, false), .mov (.t 12)⟩, ⟨some 103, some (101, false), .mov (.t 102)⟩, ⟨some 104, some (103, true), .mov (.t 11)⟩, ⟨some 105, some (103, true), .conv .i64 (.t 104)⟩, ⟨some 106, some (103, true), .mov (.t 3)⟩, ⟨some 107, some (103, true), .bin .num .neq (.t 105) (.t 106)⟩, ⟨some 108, some (101, false), .pick (.t 103) (.t 107) (.c (.bool false))⟩, ⟨some 109, none, .pick (.t 101) (.c (.bool true)) (.t 108)⟩, ⟨some 110, none, .mov (.t 109)⟩, ⟨some 111, some (110, false), .mov (.t 12)⟩, ⟨some 112, some (110, false), .un .not (.t 111)⟩, ⟨some 113, some (110, false), .mov (.t 112)⟩, ⟨some 114, some (113, true), .mov (.t 11)⟩, ⟨some 115, some (113, true), .bin .num .neq (.t 114) (.c (.int .i32 0))⟩, ⟨some 116, some (110, false), .pick (.t 113) (.t 115) (.c (.bool false))⟩, ⟨some 117, none, .pick (.t 110) (.c (.bool true)) (.t 116)⟩]) <|
  .cond (.t 117) (.seq (.ops [⟨some 2, none, .mov (.c (.bool false))⟩]) <|
   .ret) (.skip)) <|
  .seq (.ops [⟨some 13, none, .mov (.c (.int .u64 0))⟩]) <|
  .seq (.seq (.ops [⟨some 118, none, .mov (.t 3)⟩, ⟨some 119, none, .bin .num .lss (.t 118) (.c (.int .i64 0))⟩]) <|
  .cond (.t 119) (.ops [⟨some 120, none, .mov (.t 3)⟩, ⟨some 121, none, .bin .num .add (.t 120) (.c (.int .i64 1))⟩, ⟨some 122, none, .un .neg (.t 121)⟩, ⟨some 123, none, .conv .u64 (.t 122)⟩, ⟨some 124, none, .bin .num .mul (.c (.int .u64 2)) (.t 123)⟩, ⟨some 125, none, .bin .num .add (.t 124) (.c (.int .u64 1))⟩, ⟨some 13, none, .mov (.t 125)⟩]) (.ops [⟨some 126, none, .mov (.t 3)⟩, ⟨some 127, none, .conv .u64 (.t 126)⟩, ⟨some 128, none, .bin .num .mul (.c (.int .u64 2)) (.t 127)⟩, ⟨some 13, none, .mov (.t 128)⟩])) <|
  .seq (.ops [⟨some 129, none, .mov (.t 4)⟩, ⟨some 130, none, .bin .num .quo (.t 129) (.c (.int .u64 2))⟩, ⟨some 131, none, .conv .i64 (.t 130)⟩, ⟨some 14, none, .mov (.t 131)⟩]) <|
  .seq (.seq (.ops [⟨some 132, none, .mov (.t 4)⟩, ⟨some 133, none, .bin .num .rem (.t 132) (.c (.int .u64 2))⟩, ⟨some 134, none, .bin .num .eql (.t 133) (.c (.int .u64 1))⟩]) <|
  .cond (.t 134) (.ops [⟨some 135, none, .mov (.t 4)⟩, ⟨some 136, none, .bin .num .quo (.t 135) (.c (.int .u64 2))⟩, ⟨some 137, none, .conv .i64 (.t 136)⟩, ⟨some 138, none, .un .neg (.t 137)⟩, ⟨some 139, none, .bin .num .sub (.t 138) (.c (.int .i64 1))⟩, ⟨some 14, none, .mov (.t 139)⟩]) (.skip)) <|
  .seq (.ops [⟨some 140, none, .mov (.t 3)⟩, ⟨some 15, none, .mov (.t 140)⟩]) <|
  .seq (.seq (.ops [⟨some 141, none, .mov (.t 3)⟩, ⟨some 142, none, .mov (.t 5)⟩, ⟨some 143, none, .bin .num .lss (.t 141) (.t 142)⟩]) <|
  .cond (.t 143) (.ops [⟨some 144, none, .mov (.t 5)⟩, ⟨some 15, none, .mov (.t 144)⟩]) (.seq (.ops [⟨some 145, none, .mov (.t 3)⟩, ⟨some 146, none, .mov (.t 6)⟩, ⟨some 147, none, .bin .num .gtr (.t 145) (.t 146)⟩]) <|
   .cond (.t 147) (.ops [⟨some 148, none, .mov (.t 6)⟩, ⟨some 15, none, .mov (.t 148)⟩]) (.skip))) <|
  .seq (.ops [⟨some 149, none, .mov (.t 3)⟩, ⟨some 150, none, .call 20 [(.t 149)]⟩, ⟨some 151, none, .mov (.t 13)⟩, ⟨some 152, none, .bin .num .eql (.t 150) (.t 151)⟩, ⟨some 153, none, .mov (.t 152)⟩, ⟨some 154, some (153, true), .mov (.t 4)⟩, ⟨some 155, some (153, true), .call 19 [(.t 154)]⟩, ⟨some 156, some (153, true), .mov (.t 14)⟩, ⟨some 157, some (153, true), .bin .num .eql (.t 155) (.t 156)⟩, ⟨some 158, none, .pick (.t 153) (.t 157) (.c (.bool false))⟩, ⟨some 159, none, .mov (.t 158)⟩, ⟨some 160, some (159, true), .mov (.t 3)⟩, ⟨some 161, some (159, true), .mov (.t 5)⟩, ⟨some 162, some (159, true), .mov (.t 6)⟩, ⟨some 163, some (159, true), .call 24 [(.t 160), (.t 161), (.t 162)]⟩, ⟨some 164, some (159, true), .mov (.t 15)⟩, ⟨some 165, some (159, true), .bin .num .eql (.t 163) (.t 164)⟩, ⟨some 166, none, .pick (.t 159) (.t 165) (.c (.bool false))⟩, ⟨some 2, none, .mov (.t 166)⟩]) <|
  .ret
def v6 : VFunc := ⟨167, [.tmp 2], c6⟩
/-- berthing/berthinglaw03.first -/
def c7 : VCode :=
  .seq (.ops [⟨some 0, none, .mov (.c (.bool false))⟩]) <|
  .seq (.ops [⟨some 12, none, .call 12 [(.c (.int .i64 4611686018427387904)), (.c (.int .i64 4611686018427387904))]⟩, ⟨some 11, none, .mov (.t 12)⟩, ⟨some 13, none, .extract 0 (.t 11)⟩, ⟨some 14, none, .extract 1 (.t 11)⟩, ⟨some 1, none, .mov (.t 13)⟩, ⟨some 2, none, .mov (.t 14)⟩]) <|
  .seq (.ops [⟨some 16, none, .call 15 [(.c (.int .i64 (-4611686018427387904))), (.c (.int .i64 2))]⟩, ⟨some 15, none, .mov (.t 16)⟩, ⟨some 17, none, .extract 0 (.t 15)⟩, ⟨some 18, none, .extract 1 (.t 15)⟩, ⟨some 3, none, .mov (.t 17)⟩, ⟨some 4, none, .mov (.t 18)⟩]) <|
  .seq (.ops [⟨some 20, none, .call 17 [(.c (.int .i64 5)), (.c (.int .i64 4))]⟩, ⟨some 19, none, .mov (.t 20)⟩, ⟨some 21, none, .extract 0 (.t 19)⟩, ⟨some 22, none, .extract 1 (.t 19)⟩, ⟨some 5, none, .mov (.t 21)⟩, ⟨some 6, none, .mov (.t 22)⟩]) <|
  .seq (.ops [⟨some 24, none, .call 21 [(.c (.int .i64 256))]⟩, ⟨some 23, none, .mov (.t 24)⟩, ⟨some 25, none, .extract 0 (.t 23)⟩, ⟨some 26, none, .extract 1 (.t 23)⟩, ⟨some 7, none, .mov (.t 25)⟩, ⟨some 8, none, .mov (.t 26)⟩]) <|
  .seq (.ops [⟨some 28, none, .buildSlice false 1 3 [(.int .i64 0), (.int .i64 0), (.int .i64 0)] [(0, 1, (.c (.int .i64 1))), (1, 1, (.c (.int .i64 2))), (2, 1, (.c (.int .i64 3)))]⟩, ⟨some 29, none, .call 8 [(.t 28)]⟩, ⟨some 27, none, .mov (.t 29)⟩, ⟨some 30, none, .extract 0 (.t 27)⟩, ⟨some 31, none, .extract 1 (.t 27)⟩, ⟨some 9, none, .mov (.t 30)⟩, ⟨some 10, none, .mov (.t 31)⟩]) <|
  .seq (.ops [⟨some 32, none, .mov (.t 2)⟩, ⟨some 33, none, .un .not (.t 32)⟩, ⟨some 34, none, .mov (.t 33)⟩, ⟨some 35, some (34, true), .mov (.t 1)⟩, ⟨some 36, some (34, true), .bin .num .eql (.t 35) (.c (.int .i64 0))⟩, ⟨some 37, none, .pick (.t 34) (.t 36) (.c (.bool false))⟩, ⟨some 38, none, .mov (.t 37)⟩, ⟨some 39, some (38, true), .mov (.t 4)⟩, ⟨some 40, none, .pick (.t 38) (.t 39) (.c (.bool false))⟩, ⟨some 41, none, .mov (.t 40)⟩, ⟨some 42, some (41, true), .mov (.t 3)⟩, ⟨some 43, some (41, true), .bin .num .eql (.t 42) (.c (.int .i64 (-9223372036854775808)))⟩, ⟨some 44, none, .pick (.t 41) (.t 43) (.c (.bool false))⟩, ⟨some 45, none, .mov (.t 44)⟩, ⟨some 46, some (45, true), .mov (.t 6)⟩, ⟨some 47, none, .pick (.t 45) (.t 46) (.c (.bool false))⟩, ⟨some 48, none, .mov (.t 47)⟩, ⟨some 49, some (48, true), .mov (.t 5)⟩, ⟨some 50, some (48, true), .bin .num .eql (.t 49) (.c (.int .i64 8))⟩, ⟨some 51, none, .pick (.t 48) (.t 50) (.c (.bool false))⟩, ⟨some 52, none, .mov (.t 51)⟩, ⟨some 53, some (52, true), .mov (.t 8)⟩, ⟨some 54, some (52, true), .un .not (.t 53)⟩, ⟨some 55, none, .pick (.t 52) (.t 54) (.c (.bool false))⟩, ⟨some 56, none, .mov (.t 55)⟩, ⟨some 57, some (56, true), .mov (.t 7)⟩, ⟨some 58, some (56, true), .bin .num .eql (.t 57) (.c (.int .u8 0))⟩, ⟨some 59, none, .pick (.t 56) (.t 58) (.c (.bool false))⟩, ⟨some 60, none, .mov (.t 59)⟩, ⟨some 61, some (60, true), .mov (.t 10)⟩, ⟨some 62, none, .pick (.t 60) (.t 61) (.c (.bool false))⟩, ⟨some 63, none, .mov (.t 62)⟩, ⟨some 64, some (63, true), .mov (.t 9)⟩, ⟨some 65, some (63, true), .bin .num .eql (.t 64) (.c (.int .i64 6))⟩, ⟨some 66, none, .pick (.t 63) (.t 65) (.c (.bool false))⟩, ⟨some 67, none, .mov (.t 66)⟩, ⟨some 68, some (67, true), .call 20 [(.c (.int .i64 (-1)))]⟩, ⟨some 69, some (67, true), .bin .num .eql (.t 68) (.c (.int .u64 1))⟩, ⟨some 70, none, .pick (.t 67) (.t 69) (.c (.bool false))⟩, ⟨some 71, none, .mov (.t 70)⟩, ⟨some 72, some (71, true), .call 19 [(.c (.int .u64 1))]⟩, ⟨some 73, some (71, true), .bin .num .eql (.t 72) (.c (.int .i64 (-1)))⟩, ⟨some 74, none, .pick (.t 71) (.t 73) (.c (.bool false))⟩, ⟨some 75, none, .mov (.t 74)⟩, ⟨some 76, some (75, true), .call 24 [(.c (.int .i64 9)), (.c (.int .i64 1)), (.c (.int .i64 5))]⟩, ⟨some 77, some (75, true), .bin .num .eql (.t 76) (.c (.int .i64 5))⟩, ⟨some 78, none, .pick (.t 75) (.t 77) (.c (.bool false))⟩, ⟨some 0, none, .mov (.t 78)⟩]) <|
  .ret
def v7 : VFunc := ⟨79, [.tmp 0], c7⟩
/-- berthing/checked.Sum -/
def c8 : VCode :=
  .seq (.ops [⟨some 2, none, .mov (.c (.int .i64 0))⟩, ⟨some 3, none, .mov (.c (.bool false))⟩]) <|
  .seq (.ops [⟨some 4, none, .mov (.c (.int .i64 0))⟩]) <|
  .seq (.seq (.ops [⟨some 9, none, .mov (.t 0)⟩, ⟨some 10, none, .lenS (.t 9)⟩, ⟨some 11, none, .mov (.c (.int .i64 0))⟩]) <|
  .block 0 (.loop (.seq (.ops [⟨some 12, none, .bin .num .lss (.t 11) (.t 10)⟩]) <|
    .seq (.cond (.t 12) (.skip) (.exit 0)) <|
    .seq (.block 1 (.seq (.ops [⟨some 13, none, .idxAddrS 1 (.t 9) (.t 11)⟩, ⟨some 14, none, .load1 (.t 13)⟩, ⟨some 6, none, .mov (.t 14)⟩]) <|
     .seq (.ops [⟨some 16, none, .mov (.t 4)⟩, ⟨some 17, none, .mov (.t 6)⟩, ⟨some 18, none, .call 12 [(.t 16), (.t 17)]⟩, ⟨some 15, none, .mov (.t 18)⟩, ⟨some 19, none, .extract 0 (.t 15)⟩, ⟨some 20, none, .extract 1 (.t 15)⟩, ⟨some 7, none, .mov (.t 19)⟩, ⟨some 8, none, .mov (.t 20)⟩]) <|
     .seq (.seq (.ops [⟨some 21, none, .mov (.t 8)⟩, ⟨some 22, none, .un .not (.t 21)⟩]) <|
     .cond (.t 22) (.seq (.ops [⟨some 2, none, .mov (.c (.int .i64 0))⟩, ⟨some 3, none, .mov (.c (.bool false))⟩]) <|
      .ret) (.skip)) <|
     .ops [⟨some 23, none, .mov (.t 7)⟩, ⟨some 4, none, .mov (.t 23)⟩])) <|
    .ops [⟨some 24, none, .bin .num .add (.t 11) (.c (.int .i64 1))⟩, ⟨some 11, none, .mov (.t 24)⟩]))) <|
  .seq (.ops [⟨some 25, none, .mov (.t 4)⟩, ⟨some 2, none, .mov (.t 25)⟩, ⟨some 3, none, .mov (.c (.bool true))⟩]) <|
  .ret
def v8 : VFunc := ⟨26, [.tmp 2, .tmp 3], c8⟩
/-- berthing/berthingref03.Of -/
def c9 : VCode :=
  .seq (.ops [⟨some 2, none, .alloc [(.bool false), (.int .u64 0), (.int .u64 0), (.int .u64 0), (.int .u64 0), (.int .u64 0), (.int .u64 0), (.int .u64 0), (.int .u64 0), (.int .u64 0), (.int .u64 0), (.int .u64 0), (.int .u64 0), (.int .u64 0), (.int .u64 0), (.int .u64 0), (.int .u64 0), (.int .u64 0), (.int .u64 0), (.int .u64 0), (.int .u64 0)]⟩]) <|
  .seq (.seq (.ops [⟨some 3, none, .mov (.t 0)⟩, ⟨some 4, none, .bin .num .lss (.t 3) (.c (.int .i64 0))⟩]) <|
  .cond (.t 4) (.seq (.ops [⟨some 5, none, .mov (.t 0)⟩, ⟨some 6, none, .bin .num .add (.t 5) (.c (.int .i64 1))⟩, ⟨some 7, none, .un .neg (.t 6)⟩, ⟨some 8, none, .conv .u64 (.t 7)⟩, ⟨some 9, none, .build [(.int .u64 0), (.int .u64 0)] [(1, 1, (.t 8))]⟩, ⟨some 10, none, .call 25 [(.t 9)]⟩, ⟨some 11, none, .build [(.int .u64 0), (.int .u64 0), (.int .u64 0), (.int .u64 0), (.int .u64 0), (.int .u64 0), (.int .u64 0), (.int .u64 0), (.int .u64 0), (.int .u64 0), (.int .u64 0), (.int .u64 0), (.int .u64 0), (.int .u64 0), (.int .u64 0), (.int .u64 0), (.int .u64 0), (.int .u64 0), (.int .u64 0), (.int .u64 0)] [(0, 1, (.c (.int .u64 1)))]⟩, ⟨some 12, none, .call 26 [(.t 10), (.t 11)]⟩, ⟨some 13, none, .build [(.bool false), (.int .u64 0), (.int .u64 0), (.int .u64 0), (.int .u64 0), (.int .u64 0), (.int .u64 0), (.int .u64 0), (.int .u64 0), (.int .u64 0), (.int .u64 0), (.int .u64 0), (.int .u64 0), (.int .u64 0), (.int .u64 0), (.int .u64 0), (.int .u64 0), (.int .u64 0), (.int .u64 0), (.int .u64 0), (.int .u64 0)] [(0, 1, (.c (.bool true))), (1, 20, (.t 12))]⟩, ⟨none, none, .storeN 21 (.t 2) (.t 13)⟩]) <|
   .ret) (.skip)) <|
  .seq (.ops [⟨some 14, none, .mov (.t 0)⟩, ⟨some 15, none, .conv .u64 (.t 14)⟩, ⟨some 16, none, .build [(.int .u64 0), (.int .u64 0)] [(1, 1, (.t 15))]⟩, ⟨some 17, none, .call 25 [(.t 16)]⟩, ⟨some 18, none, .build [(.bool false), (.int .u64 0), (.int .u64 0), (.int .u64 0), (.int .u64 0), (.int .u64 0), (.int .u64 0), (.int .u64 0), (.int .u64 0), (.int .u64 0), (.int .u64 0), (.int .u64 0), (.int .u64 0), (.int .u64 0), (.int .u64 0), (.int .u64 0), (.int .u64 0), (.int .u64 0), (.int .u64 0), (.int .u64 0), (.int .u64 0)] [(0, 1, (.c (.bool false))), (1, 20, (.t 17))]⟩, ⟨none, none, .storeN 21 (.t 2) (.t 18)⟩]) <|
  .ret
def v9 : VFunc := ⟨19, [.cellN 21 2], c9⟩
/-- (berthing/berthingref03.Int).Plus -/
def c10 : VCode :=
  .seq (.ops [⟨some 2, none, .box (.t 0)⟩, ⟨some 3, none, .box (.t 1)⟩, ⟨some 4, none, .alloc [(.bool false), (.int .u64 0), (.int .u64 0), (.int .u64 0), (.int .u64 0), (.int .u64 0), (.int .u64 0), (.int .u64 0), (.int .u64 0), (.int .u64 0), (.int .u64 0), (.int .u64 0), (.int .u64 0), (.int .u64 0), (.int .u64 0), (.int .u64 0), (.int .u64 0), (.int .u64 0), (.int .u64 0), (.int .u64 0), (.int .u64 0)]⟩]) <|
  .seq (.seq (.ops [⟨some 5, none, .fieldAddr 0 (.t 2)⟩, ⟨some 6, none, .load1 (.t 5)⟩, ⟨some 7, none, .fieldAddr 0 (.t 3)⟩, ⟨some 8, none, .load1 (.t 7)⟩, ⟨some 9, none, .bin .bool .eql (.t 6) (.t 8)⟩]) <|
  .cond (.t 9) (.seq (.ops [⟨some 10, none, .fieldAddr 0 (.t 2)⟩, ⟨some 11, none, .load1 (.t 10)⟩, ⟨some 12, none, .fieldAddr 1 (.t 2)⟩, ⟨some 13, none, .loadN 20 (.t 12)⟩, ⟨some 14, none, .fieldAddr 1 (.t 3)⟩, ⟨some 15, none, .loadN 20 (.t 14)⟩, ⟨some 16, none, .call 26 [(.t 13), (.t 15)]⟩, ⟨some 17, none, .build [(.bool false), (.int .u64 0), (.int .u64 0), (.int .u64 0), (.int .u64 0), (.int .u64 0), (.int .u64 0), (.int .u64 0), (.int .u64 0), (.int .u64 0), (.int .u64 0), (.int .u64 0), (.int .u64 0), (.int .u64 0), (.int .u64 0), (.int .u64 0), (.int .u64 0), (.int .u64 0), (.int .u64 0), (.int .u64 0), (.int .u64 0)] [(0, 1, (.t 11)), (1, 20, (.t 16))]⟩, ⟨none, none, .storeN 21 (.t 4) (.t 17)⟩]) <|
   .ret) (.skip)) <|
  .seq (.seq (.ops [⟨some 18, none, .fieldAddr 1 (.t 2)⟩, ⟨some 19, none, .loadN 20 (.t 18)⟩, ⟨some 20, none, .fieldAddr 1 (.t 3)⟩, ⟨some 21, none, .loadN 20 (.t 20)⟩, ⟨some 22, none, .call 27 [(.t 19), (.t 21)]⟩]) <|
  .cond (.t 22) (.seq (.ops [⟨some 23, none, .fieldAddr 0 (.t 3)⟩, ⟨some 24, none, .load1 (.t 23)⟩, ⟨some 25, none, .fieldAddr 1 (.t 3)⟩, ⟨some 26, none, .loadN 20 (.t 25)⟩, ⟨some 27, none, .fieldAddr 1 (.t 2)⟩, ⟨some 28, none, .loadN 20 (.t 27)⟩, ⟨some 29, none, .call 28 [(.t 26), (.t 28)]⟩, ⟨some 30, none, .build [(.bool false), (.int .u64 0), (.int .u64 0), (.int .u64 0), (.int .u64 0), (.int .u64 0), (.int .u64 0), (.int .u64 0), (.int .u64 0), (.int .u64 0), (.int .u64 0), (.int .u64 0), (.int .u64 0), (.int .u64 0), (.int .u64 0), (.int .u64 0), (.int .u64 0), (.int .u64 0), (.int .u64 0), (.int .u64 0), (.int .u64 0)] [(0, 1, (.t 24)), (1, 20, (.t 29))]⟩, ⟨none, none, .storeN 21 (.t 4) (.t 30)⟩]) <|
   .ret) (.skip)) <|
  .seq (.ops [⟨some 31, none, .fieldAddr 0 (.t 2)⟩, ⟨some 32, none, .load1 (.t 31)⟩, ⟨some 33, none, .fieldAddr 1 (.t 2)⟩, ⟨some 34, none, .loadN 20 (.t 33)⟩, ⟨some 35, none, .fieldAddr 1 (.t 3)⟩, ⟨some 36, none, .loadN 20 (.t 35)⟩, ⟨some 37, none, .call 28 [(.t 34), (.t 36)]⟩, ⟨some 38, none, .build [(.bool false), (.int .u64 0), (.int .u64 0), (.int .u64 0), (.int .u64 0), (.int .u64 0), (.int .u64 0), (.int .u64 0), (.int .u64 0), (.int .u64 0), (.int .u64 0), (.int .u64 0), (.int .u64 0), (.int .u64 0), (.int .u64 0), (.int .u64 0), (.int .u64 0), (.int .u64 0), (.int .u64 0), (.int .u64 0), (.int .u64 0)] [(0, 1, (.t 32)), (1, 20, (.t 37))]⟩, ⟨none, none, .storeN 21 (.t 4) (.t 38)⟩]) <|
  .ret
def v10 : VFunc := ⟨39, [.cellN 21 4], c10⟩
/-- (berthing/berthingref03.Int).Int -/
def c11 : VCode :=
  .seq (.ops [⟨some 1, none, .box (.t 0)⟩, ⟨some 2, none, .mov (.c (.int .i64 0))⟩, ⟨some 3, none, .mov (.c (.bool false))⟩]) <|
  .seq (.ops [⟨some 7, none, .call 29 [(.c (.int .i64 63))]⟩, ⟨some 4, none, .alloc [(.int .u64 0), (.int .u64 0), (.int .u64 0), (.int .u64 0), (.int .u64 0), (.int .u64 0), (.int .u64 0), (.int .u64 0), (.int .u64 0), (.int .u64 0), (.int .u64 0), (.int .u64 0), (.int .u64 0), (.int .u64 0), (.int .u64 0), (.int .u64 0), (.int .u64 0), (.int .u64 0), (.int .u64 0), (.int .u64 0)]⟩, ⟨none, none, .storeN 20 (.t 4) (.t 7)⟩]) <|
  .seq (.seq (.ops [⟨some 8, none, .fieldAddr 0 (.t 1)⟩, ⟨some 9, none, .load1 (.t 8)⟩, ⟨some 10, none, .mov (.t 9)⟩, ⟨some 11, some (10, true), .fieldAddr 1 (.t 1)⟩, ⟨some 12, some (10, true), .loadN 20 (.t 11)⟩, ⟨some 13, some (10, true), .loadN 20 (.t 4)⟩, ⟨some 14, some (10, true), .bin (.agg [.i, .i, .i, .i, .i, .i, .i, .i, .i, .i, .i, .i, .i, .i, .i, .i, .i, .i, .i, .i]) .eql (.t 12) (.t 13)⟩, ⟨some 15, none, .pick (.t 10) (.t 14) (.c (.bool false))⟩]) <|
  .cond (.t 15) (.seq (.ops [⟨some 2, none, .mov (.c (.int .i64 (-9223372036854775808)))⟩, ⟨some 3, none, .mov (.c (.bool true))⟩]) <|
   .ret) (.skip)) <|
  .seq (.seq (.ops [⟨some 16, none, .fieldAddr 1 (.t 1)⟩, ⟨some 17, none, .loadN 20 (.t 16)⟩, ⟨some 18, none, .loadN 20 (.t 4)⟩, ⟨some 19, none, .call 27 [(.t 17), (.t 18)]⟩, ⟨some 20, none, .un .not (.t 19)⟩]) <|
  .cond (.t 20) (.seq (.ops [⟨some 2, none, .mov (.c (.int .i64 0))⟩, ⟨some 3, none, .mov (.c (.bool false))⟩]) <|
   .ret) (.skip)) <|
  .seq (.ops [⟨some 22, none, .fieldAddr 1 (.t 1)⟩, ⟨some 23, none, .loadN 20 (.t 22)⟩, ⟨some 24, none, .call 30 [(.t 23)]⟩, ⟨some 21, none, .mov (.t 24)⟩, ⟨some 25, none, .extract 0 (.t 21)⟩, ⟨some 26, none, .extract 1 (.t 21)⟩, ⟨some 5, none, .alloc [(.int .u64 0), (.int .u64 0)]⟩, ⟨none, none, .storeN 2 (.t 5) (.t 25)⟩, ⟨some 6, none, .mov (.t 26)⟩]) <|
  .seq (.seq (.ops [⟨some 27, none, .fieldAddr 0 (.t 1)⟩, ⟨some 28, none, .load1 (.t 27)⟩]) <|
  .cond (.t 28) (.seq (.ops [⟨some 29, none, .fieldAddr 1 (.t 5)⟩, ⟨some 30, none, .load1 (.t 29)⟩, ⟨some 31, none, .conv .i64 (.t 30)⟩, ⟨some 32, none, .un .neg (.t 31)⟩, ⟨some 2, none, .mov (.t 32)⟩, ⟨some 3, none, .mov (.c (.bool true))⟩]) <|
   .ret) (.skip)) <|
  .seq (.ops [⟨some 33, none, .fieldAddr 1 (.t 5)⟩, ⟨some 34, none, .load1 (.t 33)⟩, ⟨some 35, none, .conv .i64 (.t 34)⟩, ⟨some 2, none, .mov (.t 35)⟩, ⟨some 3, none, .mov (.c (.bool true))⟩]) <|
  .ret
def v11 : VFunc := ⟨36, [.tmp 2, .tmp 3], c11⟩
/-- berthing/checked.Add -/
def c12 : VCode :=
  .seq (.ops [⟨some 4, none, .mov (.c (.int .i64 0))⟩, ⟨some 5, none, .mov (.c (.bool false))⟩]) <|
  .seq (.ops [⟨some 7, none, .mov (.t 0)⟩, ⟨some 8, none, .conv .u64 (.t 7)⟩, ⟨some 9, none, .mov (.t 1)⟩, ⟨some 10, none, .conv .u64 (.t 9)⟩, ⟨some 11, none, .bin .num .add (.t 8) (.t 10)⟩, ⟨some 12, none, .conv .i64 (.t 11)⟩, ⟨some 6, none, .mov (.t 12)⟩]) <|
  .seq (.seq (.ops [⟨some 13, none, .mov (.t 0)⟩, ⟨some 14, none, .mov (.t 6)⟩, ⟨some 15, none, .bin .num .xor (.t 13) (.t 14)⟩, ⟨some 16, none, .mov (.t 1)⟩, ⟨some 17, none, .mov (.t 6)⟩, ⟨some 18, none, .bin .num .xor (.t 16) (.t 17)⟩, ⟨some 19, none, .bin .num .and (.t 15) (.t 18)⟩, ⟨some 20, none, .bin .num .lss (.t 19) (.c (.int .i64 0))⟩]) <|
  .cond (.t 20) (.seq (.ops [⟨some 4, none, .mov (.c (.int .i64 0))⟩, ⟨some 5, none, .mov (.c (.bool false))⟩]) <|
   .ret) (.skip)) <|
  .seq (.ops [⟨some 21, none, .mov (.t 6)⟩, ⟨some 4, none, .mov (.t 21)⟩, ⟨some 5, none, .mov (.c (.bool true))⟩]) <|
  .ret
def v12 : VFunc := ⟨22, [.tmp 4, .tmp 5], c12⟩
/-- berthing/checked.Sub -/
def c13 : VCode :=
  .seq (.ops [⟨some 4, none, .mov (.c (.int .i64 0))⟩, ⟨some 5, none, .mov (.c (.bool false))⟩]) <|
  .seq (.ops [⟨some 7, none, .mov (.t 0)⟩, ⟨some 8, none, .conv .u64 (.t 7)⟩, ⟨some 9, none, .mov (.t 1)⟩, ⟨some 10, none, .conv .u64 (.t 9)⟩, ⟨some 11, none, .bin .num .sub (.t 8) (.t 10)⟩, ⟨some 12, none, .conv .i64 (.t 11)⟩, ⟨some 6, none, .mov (.t 12)⟩]) <|
  .seq (.seq (.ops [⟨some 13, none, .mov (.t 0)⟩, ⟨some 14, none, .mov (.t 1)⟩, ⟨some 15, none, .bin .num .xor (.t 13) (.t 14)⟩, ⟨some 16, none, .mov (.t 0)⟩, ⟨some 17, none, .mov (.t 6)⟩, ⟨some 18, none, .bin .num .xor (.t 16) (.t 17)⟩, ⟨some 19, none, .bin .num .and (.t 15) (.t 18)⟩, ⟨some 20, none, .bin .num .lss (.t 19) (.c (.int .i64 0))⟩]) <|
  .cond (.t 20) (.seq (.ops [⟨some 4, none, .mov (.c (.int .i64 0))⟩, ⟨some 5, none, .mov (.c (.bool false))⟩]) <|
   .ret) (.skip)) <|
  .seq (.ops [⟨some 21, none, .mov (.t 6)⟩, ⟨some 4, none, .mov (.t 21)⟩, ⟨some 5, none, .mov (.c (.bool true))⟩]) <|
  .ret
def v13 : VFunc := ⟨22, [.tmp 4, .tmp 5], c13⟩
/-- (berthing/berthingref03.Int).Neg -/
def c14 : VCode :=
  .seq (.ops [⟨some 1, none, .box (.t 0)⟩, ⟨some 2, none, .alloc [(.bool false), (.int .u64 0), (.int .u64 0), (.int .u64 0), (.int .u64 0), (.int .u64 0), (.int .u64 0), (.int .u64 0), (.int .u64 0), (.int .u64 0), (.int .u64 0), (.int .u64 0), (.int .u64 0), (.int .u64 0), (.int .u64 0), (.int .u64 0), (.int .u64 0), (.int .u64 0), (.int .u64 0), (.int .u64 0), (.int .u64 0)]⟩]) <|
  .seq (.ops [⟨some 3, none, .fieldAddr 0 (.t 1)⟩, ⟨some 4, none, .load1 (.t 3)⟩, ⟨some 5, none, .un .not (.t 4)⟩, ⟨some 6, none, .fieldAddr 1 (.t 1)⟩, ⟨some 7, none, .loadN 20 (.t 6)⟩, ⟨some 8, none, .build [(.bool false), (.int .u64 0), (.int .u64 0), (.int .u64 0), (.int .u64 0), (.int .u64 0), (.int .u64 0), (.int .u64 0), (.int .u64 0), (.int .u64 0), (.int .u64 0), (.int .u64 0), (.int .u64 0), (.int .u64 0), (.int .u64 0), (.int .u64 0), (.int .u64 0), (.int .u64 0), (.int .u64 0), (.int .u64 0), (.int .u64 0)] [(0, 1, (.t 5)), (1, 20, (.t 7))]⟩, ⟨none, none, .storeN 21 (.t 2) (.t 8)⟩]) <|
  .ret
def v14 : VFunc := ⟨9, [.cellN 21 2], c14⟩
/-- berthing/checked.Times -/
def c15 : VCode :=
  .seq (.ops [⟨some 4, none, .mov (.c (.int .i64 0))⟩, ⟨some 5, none, .mov (.c (.bool false))⟩]) <|
  .seq (.seq (.ops [⟨some 10, none, .mov (.t 0)⟩, ⟨some 11, none, .bin .num .eql (.t 10) (.c (.int .i64 0))⟩, ⟨some 12, none, .mov (.t 11)⟩, ⟨some 13, some (12, false), .mov (.t 1)⟩, ⟨some 14, some (12, false), .bin .num .eql (.t 13) (.c (.int .i64 0))⟩, ⟨some 15, none, .pick (.t 12) (.c (.bool true)) (.t 14)⟩]) <|
  .cond (.t 15) (.seq (.ops [⟨some 4, none, .mov (.c (.int .i64 0))⟩, ⟨some 5, none, .mov (.c (.bool true))⟩]) <|
   .ret) (.skip)) <|
  .seq (.ops [⟨some 16, none, .mov (.t 0)⟩, ⟨some 17, none, .call 31 [(.t 16)]⟩, ⟨some 18, none, .mov (.t 1)⟩, ⟨some 19, none, .call 31 [(.t 18)]⟩, ⟨some 6, none, .mov (.t 17)⟩, ⟨some 7, none, .mov (.t 19)⟩]) <|
  .seq (.ops [⟨some 20, none, .mov (.t 6)⟩, ⟨some 21, none, .mov (.t 7)⟩, ⟨some 22, none, .bin .num .mul (.t 20) (.t 21)⟩, ⟨some 8, none, .mov (.t 22)⟩]) <|
  .seq (.ops [⟨some 9, none, .mov (.c (.int .u64 9223372036854775807))⟩]) <|
  .seq (.seq (.ops [⟨some 23, none, .mov (.t 0)⟩, ⟨some 24, none, .mov (.t 1)⟩, ⟨some 25, none, .bin .num .xor (.t 23) (.t 24)⟩, ⟨some 26, none, .bin .num .lss (.t 25) (.c (.int .i64 0))⟩]) <|
  .cond (.t 26) (.ops [⟨some 27, none, .mov (.t 9)⟩, ⟨some 28, none, .bin .num .add (.t 27) (.c (.int .u64 1))⟩, ⟨some 9, none, .mov (.t 28)⟩]) (.skip)) <|
  .seq (.seq (.ops [⟨some 29, none, .mov (.t 8)⟩, ⟨some 30, none, .mov (.t 7)⟩, ⟨some 31, none, .bin .num .quo (.t 29) (.t 30)⟩, ⟨some 32, none, .mov (.t 6)⟩, ⟨some 33, none, .bin .num .neq (.t 31) (.t 32)⟩, ⟨some 34, none, .mov (.t 33)⟩, ⟨some 35, some (34, false), .mov (.t 8)⟩, ⟨some 36, some (34, false), .mov (.t 9)⟩, ⟨some 37, some (34, false), .bin .num .gtr (.t 35) (.t 36)⟩, ⟨some 38, none, .pick (.t 34) (.c (.bool true)) (.t 37)⟩]) <|
  .cond (.t 38) (.seq (.ops [⟨some 4, none, .mov (.c (.int .i64 0))⟩, ⟨some 5, none, .mov (.c (.bool false))⟩]) <|
   .ret) (.skip)) <|
  .seq (.seq (.ops [⟨some 39, none, .mov (.t 0)⟩, ⟨some 40, none, .mov (.t 1)⟩, ⟨some 41, none, .bin .num .xor (.t 39) (.t 40)⟩, ⟨some 42, none, .bin .num .lss (.t 41) (.c (.int .i64 0))⟩]) <|
  .cond (.t 42) (.seq (.ops [⟨some 43, none, .mov (.t 8)⟩, ⟨some 44, none, .un .neg (.t 43)⟩, ⟨some 45, none, .conv .i64 (.t 44)⟩, ⟨some 4, none, .mov (.t 45)⟩, ⟨some 5, none, .mov (.c (.bool true))⟩]) <|
   .ret) (.skip)) <|
  .seq (.ops [⟨some 46, none, .mov (.t 8)⟩, ⟨some 47, none, .conv .i64 (.t 46)⟩, ⟨some 4, none, .mov (.t 47)⟩, ⟨some 5, none, .mov (.c (.bool true))⟩]) <|
  .ret
def v15 : VFunc := ⟨48, [.tmp 4, .tmp 5], c15⟩
/-- (berthing/berthingref03.Int).Times -/
def c16 : VCode :=
  .seq (.ops [⟨some 2, none, .box (.t 0)⟩, ⟨some 3, none, .box (.t 1)⟩, ⟨some 4, none, .alloc [(.bool false), (.int .u64 0), (.int .u64 0), (.int .u64 0), (.int .u64 0), (.int .u64 0), (.int .u64 0), (.int .u64 0), (.int .u64 0), (.int .u64 0), (.int .u64 0), (.int .u64 0), (.int .u64 0), (.int .u64 0), (.int .u64 0), (.int .u64 0), (.int .u64 0), (.int .u64 0), (.int .u64 0), (.int .u64 0), (.int .u64 0)]⟩]) <|
  .seq (.ops [⟨some 5, none, .fieldAddr 0 (.t 2)⟩, ⟨some 6, none, .load1 (.t 5)⟩, ⟨some 7, none, .fieldAddr 0 (.t 3)⟩, ⟨some 8, none, .load1 (.t 7)⟩, ⟨some 9, none, .bin .bool .neq (.t 6) (.t 8)⟩, ⟨some 10, none, .fieldAddr 1 (.t 2)⟩, ⟨some 11, none, .loadN 20 (.t 10)⟩, ⟨some 12, none, .fieldAddr 1 (.t 3)⟩, ⟨some 13, none, .loadN 20 (.t 12)⟩, ⟨some 14, none, .call 32 [(.t 11), (.t 13)]⟩, ⟨some 15, none, .build [(.bool false), (.int .u64 0), (.int .u64 0), (.int .u64 0), (.int .u64 0), (.int .u64 0), (.int .u64 0), (.int .u64 0), (.int .u64 0), (.int .u64 0), (.int .u64 0), (.int .u64 0), (.int .u64 0), (.int .u64 0), (.int .u64 0), (.int .u64 0), (.int .u64 0), (.int .u64 0), (.int .u64 0), (.int .u64 0), (.int .u64 0)] [(0, 1, (.t 9)), (1, 20, (.t 14))]⟩, ⟨none, none, .storeN 21 (.t 4) (.t 15)⟩]) <|
  .ret
def v16 : VFunc := ⟨16, [.cellN 21 4], c16⟩
/-- berthing/checked.Up -/
def c17 : VCode :=
  .seq (.ops [⟨some 4, none, .mov (.c (.int .i64 0))⟩, ⟨some 5, none, .mov (.c (.bool false))⟩]) <|
  .seq (.seq (.ops [⟨some 7, none, .mov (.t 1)⟩, ⟨some 8, none, .bin .num .lss (.t 7) (.c (.int .i64 1))⟩]) <|
  .cond (.t 8) (.seq (.ops [⟨some 4, none, .mov (.c (.int .i64 0))⟩, ⟨some 5, none, .mov (.c (.bool false))⟩]) <|
   .ret) (.skip)) <|
  .seq (.ops [⟨some 9, none, .mov (.t 0)⟩, ⟨some 10, none, .mov (.t 1)⟩, ⟨some 11, none, .bin .num .rem (.t 9) (.t 10)⟩, ⟨some 6, none, .mov (.t 11)⟩]) <|
  .seq (.block 0 (.seq (.ops [⟨some 13, none, .mov (.t 6)⟩, ⟨some 14, none, .bin .num .eql (.t 13) (.c (.int .i64 0))⟩, ⟨some 12, none, .mov (.t 14)⟩]) <|
   .cond (.t 12) (.seq (.ops [⟨some 15, none, .mov (.t 0)⟩, ⟨some 4, none, .mov (.t 15)⟩, ⟨some 5, none, .mov (.c (.bool true))⟩]) <|
    .ret) (.seq (.ops [⟨some 17, none, .mov (.t 6)⟩, ⟨some 18, none, .bin .num .lss (.t 17) (.c (.int .i64 0))⟩, ⟨some 16, none, .mov (.t 18)⟩]) <|
    .cond (.t 16) (.seq (.ops [⟨some 19, none, .mov (.t 0)⟩, ⟨some 20, none, .mov (.t 6)⟩, ⟨some 21, none, .bin .num .sub (.t 19) (.t 20)⟩, ⟨some 4, none, .mov (.t 21)⟩, ⟨some 5, none, .mov (.c (.bool true))⟩]) <|
     .ret) (.skip)))) <|
  .seq (.ops [⟨some 22, none, .mov (.t 0)⟩, ⟨some 23, none, .mov (.t 1)⟩, ⟨some 24, none, .mov (.t 6)⟩, ⟨some 25, none, .bin .num .sub (.t 23) (.t 24)⟩, ⟨some 26, none, .call 12 [(.t 22), (.t 25)]⟩, ⟨some 27, none, .extract 0 (.t 26)⟩, ⟨some 28, none, .extract 1 (.t 26)⟩, ⟨some 4, none, .mov (.t 27)⟩, ⟨some 5, none, .mov (.t 28)⟩]) <|
  .ret
def v17 : VFunc := ⟨29, [.tmp 4, .tmp 5], c17⟩
/-- berthing/berthingref03.Up -/
def c18 : VCode :=
  .seq (.ops [⟨some 4, none, .alloc [(.bool false), (.int .u64 0), (.int .u64 0), (.int .u64 0), (.int .u64 0), (.int .u64 0), (.int .u64 0), (.int .u64 0), (.int .u64 0), (.int .u64 0), (.int .u64 0), (.int .u64 0), (.int .u64 0), (.int .u64 0), (.int .u64 0), (.int .u64 0), (.int .u64 0), (.int .u64 0), (.int .u64 0), (.int .u64 0), (.int .u64 0)]⟩]) <|
  .seq (.ops [⟨some 8, none, .mov (.t 0)⟩, ⟨some 9, none, .call 9 [(.t 8)]⟩, ⟨some 5, none, .alloc [(.bool false), (.int .u64 0), (.int .u64 0), (.int .u64 0), (.int .u64 0), (.int .u64 0), (.int .u64 0), (.int .u64 0), (.int .u64 0), (.int .u64 0), (.int .u64 0), (.int .u64 0), (.int .u64 0), (.int .u64 0), (.int .u64 0), (.int .u64 0), (.int .u64 0), (.int .u64 0), (.int .u64 0), (.int .u64 0), (.int .u64 0)]⟩, ⟨none, none, .storeN 21 (.t 5) (.t 9)⟩]) <|
  .seq (.draw [(6, [(.int .u64 0), (.int .u64 0), (.int .u64 0), (.int .u64 0), (.int .u64 0), (.int .u64 0), (.int .u64 0), (.int .u64 0), (.int .u64 0), (.int .u64 0), (.int .u64 0), (.int .u64 0), (.int .u64 0), (.int .u64 0), (.int .u64 0), (.int .u64 0), (.int .u64 0), (.int .u64 0), (.int .u64 0), (.int .u64 0)]), (7, [(.int .u64 0), (.int .u64 0), (.int .u64 0), (.int .u64 0), (.int .u64 0), (.int .u64 0), (.int .u64 0), (.int .u64 0), (.int .u64 0), (.int .u64 0), (.int .u64 0), (.int .u64 0), (.int .u64 0), (.int .u64 0), (.int .u64 0), (.int .u64 0), (.int .u64 0), (.int .u64 0), (.int .u64 0), (.int .u64 0)])] [⟨some 11, none, .fieldAddr 1 (.t 5)⟩, ⟨some 12, none, .loadN 20 (.t 11)⟩, ⟨some 13, none, .mov (.t 1)⟩, ⟨some 14, none, .call 9 [(.t 13)]⟩, ⟨some 15, none, .fieldN 1 20 (.t 14)⟩, ⟨some 16, none, .call 33 [(.t 12), (.t 15)]⟩, ⟨some 10, none, .mov (.t 16)⟩, ⟨some 17, none, .extract 0 (.t 10)⟩, ⟨some 18, none, .extract 1 (.t 10)⟩, ⟨none, none, .idle⟩, ⟨none, none, .idle⟩, ⟨none, none, .storeN 20 (.t 6) (.t 17)⟩, ⟨none, none, .storeN 20 (.t 7) (.t 18)⟩] []) <|
  .seq (.seq (.ops [⟨some 19, none, .loadN 20 (.t 7)⟩, ⟨some 20, none, .build [(.int .u64 0), (.int .u64 0), (.int .u64 0), (.int .u64 0), (.int .u64 0), (.int .u64 0), (.int .u64 0), (.int .u64 0), (.int .u64 0), (.int .u64 0), (.int .u64 0), (.int .u64 0), (.int .u64 0), (.int .u64 0), (.int .u64 0), (.int .u64 0), (.int .u64 0), (.int .u64 0), (.int .u64 0), (.int .u64 0)] []⟩, ⟨some 21, none, .bin (.agg [.i, .i, .i, .i, .i, .i, .i, .i, .i, .i, .i, .i, .i, .i, .i, .i, .i, .i, .i, .i]) .eql (.t 19) (.t 20)⟩]) <|
  .cond (.t 21) (.seq (.ops [⟨some 22, none, .loadN 21 (.t 5)⟩, ⟨none, none, .storeN 21 (.t 4) (.t 22)⟩]) <|
   .ret) (.skip)) <|
  .seq (.seq (.ops [⟨some 23, none, .fieldAddr 0 (.t 5)⟩, ⟨some 24, none, .load1 (.t 23)⟩]) <|
  .cond (.t 24) (.seq (.ops [⟨some 25, none, .fieldAddr 1 (.t 5)⟩, ⟨some 26, none, .loadN 20 (.t 25)⟩, ⟨some 27, none, .loadN 20 (.t 7)⟩, ⟨some 28, none, .call 28 [(.t 26), (.t 27)]⟩, ⟨some 29, none, .build [(.bool false), (.int .u64 0), (.int .u64 0), (.int .u64 0), (.int .u64 0), (.int .u64 0), (.int .u64 0), (.int .u64 0), (.int .u64 0), (.int .u64 0), (.int .u64 0), (.int .u64 0), (.int .u64 0), (.int .u64 0), (.int .u64 0), (.int .u64 0), (.int .u64 0), (.int .u64 0), (.int .u64 0), (.int .u64 0), (.int .u64 0)] [(0, 1, (.c (.bool true))), (1, 20, (.t 28))]⟩, ⟨none, none, .storeN 21 (.t 4) (.t 29)⟩]) <|
   .ret) (.skip)) <|
  .seq (.ops [⟨some 30, none, .fieldAddr 1 (.t 5)⟩, ⟨some 31, none, .loadN 20 (.t 30)⟩, ⟨some 32, none, .mov (.t 1)⟩, ⟨some 33, none, .call 9 [(.t 32)]⟩, ⟨some 34, none, .fieldN 1 20 (.t 33)⟩, ⟨some 35, none, .call 26 [(.t 31), (.t 34)]⟩, ⟨some 36, none, .loadN 20 (.t 7)⟩, ⟨some 37, none, .call 28 [(.t 35), (.t 36)]⟩, ⟨some 38, none, .build [(.bool false), (.int .u64 0), (.int .u64 0), (.int .u64 0), (.int .u64 0), (.int .u64 0), (.int .u64 0), (.int .u64 0), (.int .u64 0), (.int .u64 0), (.int .u64 0), (.int .u64 0), (.int .u64 0), (.int .u64 0), (.int .u64 0), (.int .u64 0), (.int .u64 0), (.int .u64 0), (.int .u64 0), (.int .u64 0), (.int .u64 0)] [(0, 1, (.c (.bool false))), (1, 20, (.t 37))]⟩, ⟨none, none, .storeN 21 (.t 4) (.t 38)⟩]) <|
  .ret
def v18 : VFunc := ⟨39, [.cellN 21 4], c18⟩
/-- berthing/checked.Zag -/
def c19 : VCode :=
  .seq (.ops [⟨some 2, none, .mov (.c (.int .i64 0))⟩]) <|
  .seq (.ops [⟨some 3, none, .mov (.t 0)⟩, ⟨some 4, none, .bin .num .shr (.t 3) (.c (.int .u64 1))⟩, ⟨some 5, none, .conv .i64 (.t 4)⟩, ⟨some 6, none, .mov (.t 0)⟩, ⟨some 7, none, .bin .num .and (.t 6) (.c (.int .u64 1))⟩, ⟨some 8, none, .conv .i64 (.t 7)⟩, ⟨some 9, none, .un .neg (.t 8)⟩, ⟨some 10, none, .bin .num .xor (.t 5) (.t 9)⟩, ⟨some 2, none, .mov (.t 10)⟩]) <|
  .ret
def v19 : VFunc := ⟨11, [.tmp 2], c19⟩
/-- berthing/checked.Zig -/
def c20 : VCode :=
  .seq (.ops [⟨some 2, none, .mov (.c (.int .u64 0))⟩]) <|
  .seq (.ops [⟨some 3, none, .mov (.t 0)⟩, ⟨some 4, none, .conv .u64 (.t 3)⟩, ⟨some 5, none, .bin .num .shl (.t 4) (.c (.int .u64 1))⟩, ⟨some 6, none, .mov (.t 0)⟩, ⟨some 7, none, .bin .num .shr (.t 6) (.c (.int .u64 63))⟩, ⟨some 8, none, .conv .u64 (.t 7)⟩, ⟨some 9, none, .bin .num .xor (.t 5) (.t 8)⟩, ⟨some 2, none, .mov (.t 9)⟩]) <|
  .ret
def v20 : VFunc := ⟨10, [.tmp 2], c20⟩
/-- berthing/checked.Byte -/
def c21 : VCode :=
  .seq (.ops [⟨some 2, none, .mov (.c (.int .u8 0))⟩, ⟨some 3, none, .mov (.c (.bool false))⟩]) <|
  .seq (.ops [⟨some 5, none, .mov (.t 0)⟩, ⟨some 6, none, .conv .u8 (.t 5)⟩, ⟨some 4, none, .mov (.t 6)⟩]) <|
  .seq (.seq (.ops [⟨some 7, none, .mov (.t 4)⟩, ⟨some 8, none, .conv .i64 (.t 7)⟩, ⟨some 9, none, .mov (.t 0)⟩, ⟨some 10, none, .bin .num .neq (.t 8) (.t 9)⟩]) <|
  .cond (.t 10) (.seq (.ops [⟨some 2, none, .mov (.c (.int .u8 0))⟩, ⟨some 3, none, .mov (.c (.bool false))⟩]) <|
   .ret) (.skip)) <|
  .seq (.ops [⟨some 11, none, .mov (.t 4)⟩, ⟨some 2, none, .mov (.t 11)⟩, ⟨some 3, none, .mov (.c (.bool true))⟩]) <|
  .ret
def v21 : VFunc := ⟨12, [.tmp 2, .tmp 3], c21⟩
/-- berthing/checked.Short -/
def c22 : VCode :=
  .seq (.ops [⟨some 2, none, .mov (.c (.int .i16 0))⟩, ⟨some 3, none, .mov (.c (.bool false))⟩]) <|
  .seq (.ops [⟨some 5, none, .mov (.t 0)⟩, ⟨some 6, none, .conv .i16 (.t 5)⟩, ⟨some 4, none, .mov (.t 6)⟩]) <|
  .seq (.seq (.ops [⟨some 7, none, .mov (.t 4)⟩, ⟨some 8, none, .conv .i64 (.t 7)⟩, ⟨some 9, none, .mov (.t 0)⟩, ⟨some 10, none, .bin .num .neq (.t 8) (.t 9)⟩]) <|
  .cond (.t 10) (.seq (.ops [⟨some 2, none, .mov (.c (.int .i16 0))⟩, ⟨some 3, none, .mov (.c (.bool false))⟩]) <|
   .ret) (.skip)) <|
  .seq (.ops [⟨some 11, none, .mov (.t 4)⟩, ⟨some 2, none, .mov (.t 11)⟩, ⟨some 3, none, .mov (.c (.bool true))⟩]) <|
  .ret
def v22 : VFunc := ⟨12, [.tmp 2, .tmp 3], c22⟩
/-- berthing/checked.Narrow -/
def c23 : VCode :=
  .seq (.ops [⟨some 2, none, .mov (.c (.int .i32 0))⟩, ⟨some 3, none, .mov (.c (.bool false))⟩]) <|
  .seq (.ops [⟨some 5, none, .mov (.t 0)⟩, ⟨some 6, none, .conv .i32 (.t 5)⟩, ⟨some 4, none, .mov (.t 6)⟩]) <|
  .seq (.seq (.ops [⟨some 7, none, .mov (.t 4)⟩, ⟨some 8, none, .conv .i64 (.t 7)⟩, ⟨some 9, none, .mov (.t 0)⟩, ⟨some 10, none, .bin .num .neq (.t 8) (.t 9)⟩]) <|
  .cond (.t 10) (.seq (.ops [⟨some 2, none, .mov (.c (.int .i32 0))⟩, ⟨some 3, none, .mov (.c (.bool false))⟩]) <|
   .ret) (.skip)) <|
  .seq (.ops [⟨some 11, none, .mov (.t 4)⟩, ⟨some 2, none, .mov (.t 11)⟩, ⟨some 3, none, .mov (.c (.bool true))⟩]) <|
  .ret
def v23 : VFunc := ⟨12, [.tmp 2, .tmp 3], c23⟩
/-- berthing/checked.Held -/
def c24 : VCode :=
  .seq (.ops [⟨some 6, none, .mov (.c (.int .i64 0))⟩]) <|
  .seq (.block 0 (.seq (.ops [⟨some 8, none, .mov (.t 0)⟩, ⟨some 9, none, .mov (.t 1)⟩, ⟨some 10, none, .bin .num .lss (.t 8) (.t 9)⟩, ⟨some 7, none, .mov (.t 10)⟩]) <|
   .cond (.t 7) (.seq (.ops [⟨some 11, none, .mov (.t 1)⟩, ⟨some 6, none, .mov (.t 11)⟩]) <|
    .ret) (.seq (.ops [⟨some 13, none, .mov (.t 0)⟩, ⟨some 14, none, .mov (.t 2)⟩, ⟨some 15, none, .bin .num .gtr (.t 13) (.t 14)⟩, ⟨some 12, none, .mov (.t 15)⟩]) <|
    .cond (.t 12) (.seq (.ops [⟨some 16, none, .mov (.t 2)⟩, ⟨some 6, none, .mov (.t 16)⟩]) <|
     .ret) (.skip)))) <|
  .seq (.ops [⟨some 17, none, .mov (.t 0)⟩, ⟨some 6, none, .mov (.t 17)⟩]) <|
  .ret
def v24 : VFunc := ⟨18, [.tmp 6], c24⟩
/-- berthing/berthingref01.Of -/
def c25 : VCode :=
  .seq (.ops [⟨some 1, none, .box (.t 0)⟩, ⟨some 2, none, .alloc [(.int .u64 0), (.int .u64 0), (.int .u64 0), (.int .u64 0), (.int .u64 0), (.int .u64 0), (.int .u64 0), (.int .u64 0), (.int .u64 0), (.int .u64 0), (.int .u64 0), (.int .u64 0), (.int .u64 0), (.int .u64 0), (.int .u64 0), (.int .u64 0), (.int .u64 0), (.int .u64 0), (.int .u64 0), (.int .u64 0)]⟩]) <|
  .seq (.ops [⟨some 3, none, .alloc [(.int .u64 0), (.int .u64 0), (.int .u64 0), (.int .u64 0), (.int .u64 0), (.int .u64 0), (.int .u64 0), (.int .u64 0), (.int .u64 0), (.int .u64 0), (.int .u64 0), (.int .u64 0), (.int .u64 0), (.int .u64 0), (.int .u64 0), (.int .u64 0), (.int .u64 0), (.int .u64 0), (.int .u64 0), (.int .u64 0)]⟩]) <|
  .seq (.seq (.ops [⟨some 4, none, .mov (.c (.int .i64 0))⟩]) <|
  .block 0 (.loop (.seq (.seq (.ops [⟨some 5, none, .mov (.t 4)⟩, ⟨some 6, none, .bin .num .lss (.t 5) (.c (.int .i64 4))⟩]) <|
    .cond (.t 6) (.skip) (.exit 0)) <|
    .seq (.block 1 (.seq (.ops [⟨some 9, none, .mov (.t 4)⟩, ⟨some 10, none, .fieldAddr 1 (.t 1)⟩, ⟨some 11, none, .load1 (.t 10)⟩, ⟨some 12, none, .bin .num .rem (.t 11) (.c (.int .u64 65536))⟩, ⟨some 13, none, .idxAddrA 20 1 (.t 3) (.t 9)⟩, ⟨none, none, .store1 (.t 13) (.t 12)⟩]) <|
     .seq (.ops [⟨some 14, none, .mov (.t 4)⟩, ⟨some 15, none, .bin .num .add (.c (.int .i64 4)) (.t 14)⟩, ⟨some 16, none, .fieldAddr 0 (.t 1)⟩, ⟨some 17, none, .load1 (.t 16)⟩, ⟨some 18, none, .bin .num .rem (.t 17) (.c (.int .u64 65536))⟩, ⟨some 19, none, .idxAddrA 20 1 (.t 3) (.t 15)⟩, ⟨none, none, .store1 (.t 19) (.t 18)⟩]) <|
     .seq (.ops [⟨some 20, none, .fieldAddr 1 (.t 1)⟩, ⟨some 21, none, .load1 (.t 20)⟩, ⟨some 22, none, .bin .num .quo (.t 21) (.c (.int .u64 65536))⟩, ⟨some 23, none, .fieldAddr 1 (.t 1)⟩, ⟨none, none, .store1 (.t 23) (.t 22)⟩]) <|
     .ops [⟨some 24, none, .fieldAddr 0 (.t 1)⟩, ⟨some 25, none, .load1 (.t 24)⟩, ⟨some 26, none, .bin .num .quo (.t 25) (.c (.int .u64 65536))⟩, ⟨some 27, none, .fieldAddr 0 (.t 1)⟩, ⟨none, none, .store1 (.t 27) (.t 26)⟩])) <|
    .ops [⟨some 7, none, .mov (.t 4)⟩, ⟨some 8, none, .bin .num .add (.t 7) (.c (.int .i64 1))⟩, ⟨some 4, none, .mov (.t 8)⟩]))) <|
  .seq (.ops [⟨some 28, none, .loadN 20 (.t 3)⟩, ⟨none, none, .storeN 20 (.t 2) (.t 28)⟩]) <|
  .ret
def v25 : VFunc := ⟨29, [.cellN 20 2], c25⟩
/-- (berthing/berthingref01.Digits).Plus -/
def c26 : VCode :=
  .seq (.ops [⟨some 2, none, .box (.t 0)⟩, ⟨some 3, none, .box (.t 1)⟩, ⟨some 4, none, .alloc [(.int .u64 0), (.int .u64 0), (.int .u64 0), (.int .u64 0), (.int .u64 0), (.int .u64 0), (.int .u64 0), (.int .u64 0), (.int .u64 0), (.int .u64 0), (.int .u64 0), (.int .u64 0), (.int .u64 0), (.int .u64 0), (.int .u64 0), (.int .u64 0), (.int .u64 0), (.int .u64 0), (.int .u64 0), (.int .u64 0)]⟩]) <|
  .seq (.ops [⟨some 5, none, .mov (.c (.int .u64 0))⟩]) <|
  .seq (.seq (.ops [⟨some 6, none, .mov (.c (.int .i64 0))⟩]) <|
  .block 0 (.loop (.seq (.seq (.ops [⟨some 7, none, .mov (.t 6)⟩, ⟨some 8, none, .bin .num .lss (.t 7) (.c (.int .i64 20))⟩]) <|
    .cond (.t 8) (.skip) (.exit 0)) <|
    .seq (.block 1 (.seq (.ops [⟨some 11, none, .mov (.t 5)⟩, ⟨some 12, none, .mov (.t 6)⟩, ⟨some 13, none, .idxAddrA 20 1 (.t 2) (.t 12)⟩, ⟨some 14, none, .load1 (.t 13)⟩, ⟨some 15, none, .bin .num .add (.t 11) (.t 14)⟩, ⟨some 16, none, .mov (.t 6)⟩, ⟨some 17, none, .idxAddrA 20 1 (.t 3) (.t 16)⟩, ⟨some 18, none, .load1 (.t 17)⟩, ⟨some 19, none, .bin .num .add (.t 15) (.t 18)⟩, ⟨some 5, none, .mov (.t 19)⟩]) <|
     .seq (.ops [⟨some 20, none, .mov (.t 6)⟩, ⟨some 21, none, .mov (.t 5)⟩, ⟨some 22, none, .bin .num .rem (.t 21) (.c (.int .u64 65536))⟩, ⟨some 23, none, .idxAddrA 20 1 (.t 2) (.t 20)⟩, ⟨none, none, .store1 (.t 23) (.t 22)⟩]) <|
     .ops [⟨some 24, none, .mov (.t 5)⟩, ⟨some 25, none, .bin .num .quo (.t 24) (.c (.int .u64 65536))⟩, ⟨some 5, none, .mov (.t 25)⟩])) <|
    .ops [⟨some 9, none, .mov (.t 6)⟩, ⟨some 10, none, .bin .num .add (.t 9) (.c (.int .i64 1))⟩, ⟨some 6, none, .mov (.t 10)⟩]))) <|
  .seq (.ops [⟨some 26, none, .loadN 20 (.t 2)⟩, ⟨none, none, .storeN 20 (.t 4) (.t 26)⟩]) <|
  .ret
def v26 : VFunc := ⟨27, [.cellN 20 4], c26⟩
/-- (berthing/berthingref01.Digits).Less -/
def c27 : VCode :=
  .seq (.ops [⟨some 2, none, .box (.t 0)⟩, ⟨some 3, none, .box (.t 1)⟩, ⟨some 4, none, .mov (.c (.bool false))⟩]) <|
  .seq (.seq (.ops [⟨some 5, none, .mov (.c (.int .i64 19))⟩]) <|
  .block 0 (.loop (.seq (.seq (.ops [⟨some 6, none, .mov (.t 5)⟩, ⟨some 7, none, .bin .num .geq (.t 6) (.c (.int .i64 0))⟩]) <|
    .cond (.t 7) (.skip) (.exit 0)) <|
    .seq (.block 1 (.seq (.ops [⟨some 10, none, .mov (.t 5)⟩, ⟨some 11, none, .idxAddrA 20 1 (.t 2) (.t 10)⟩, ⟨some 12, none, .load1 (.t 11)⟩, ⟨some 13, none, .mov (.t 5)⟩, ⟨some 14, none, .idxAddrA 20 1 (.t 3) (.t 13)⟩, ⟨some 15, none, .load1 (.t 14)⟩, ⟨some 16, none, .bin .num .neq (.t 12) (.t 15)⟩]) <|
     .cond (.t 16) (.seq (.ops [⟨some 17, none, .mov (.t 5)⟩, ⟨some 18, none, .idxAddrA 20 1 (.t 2) (.t 17)⟩, ⟨some 19, none, .load1 (.t 18)⟩, ⟨some 20, none, .mov (.t 5)⟩, ⟨some 21, none, .idxAddrA 20 1 (.t 3) (.t 20)⟩, ⟨some 22, none, .load1 (.t 21)⟩, ⟨some 23, none, .bin .num .lss (.t 19) (.t 22)⟩, ⟨some 4, none, .mov (.t 23)⟩]) <|
      .ret) (.skip))) <|
    .ops [⟨some 8, none, .mov (.t 5)⟩, ⟨some 9, none, .bin .num .sub (.t 8) (.c (.int .i64 1))⟩, ⟨some 5, none, .mov (.t 9)⟩]))) <|
  .seq (.ops [⟨some 4, none, .mov (.c (.bool false))⟩]) <|
  .ret
def v27 : VFunc := ⟨24, [.tmp 4], c27⟩
/-- (berthing/berthingref01.Digits).Minus -/
def c28 : VCode :=
  .seq (.ops [⟨some 2, none, .box (.t 0)⟩, ⟨some 3, none, .box (.t 1)⟩, ⟨some 4, none, .alloc [(.int .u64 0), (.int .u64 0), (.int .u64 0), (.int .u64 0), (.int .u64 0), (.int .u64 0), (.int .u64 0), (.int .u64 0), (.int .u64 0), (.int .u64 0), (.int .u64 0), (.int .u64 0), (.int .u64 0), (.int .u64 0), (.int .u64 0), (.int .u64 0), (.int .u64 0), (.int .u64 0), (.int .u64 0), (.int .u64 0)]⟩]) <|
  .seq (.ops [⟨some 5, none, .mov (.c (.int .u64 0))⟩]) <|
  .seq (.seq (.ops [⟨some 6, none, .mov (.c (.int .i64 0))⟩]) <|
  .block 0 (.loop (.seq (.seq (.ops [⟨some 8, none, .mov (.t 6)⟩, ⟨some 9, none, .bin .num .lss (.t 8) (.c (.int .i64 20))⟩]) <|
    .cond (.t 9) (.skip) (.exit 0)) <|
    .seq (.block 1 (.seq (.ops [⟨some 12, none, .mov (.t 6)⟩, ⟨some 13, none, .idxAddrA 20 1 (.t 2) (.t 12)⟩, ⟨some 14, none, .load1 (.t 13)⟩, ⟨some 15, none, .bin .num .add (.t 14) (.c (.int .u64 65536))⟩, ⟨some 16, none, .mov (.t 6)⟩, ⟨some 17, none, .idxAddrA 20 1 (.t 3) (.t 16)⟩, ⟨some 18, none, .load1 (.t 17)⟩, ⟨some 19, none, .bin .num .sub (.t 15) (.t 18)⟩, ⟨some 20, none, .mov (.t 5)⟩, ⟨some 21, none, .bin .num .sub (.t 19) (.t 20)⟩, ⟨some 7, none, .mov (.t 21)⟩]) <|
     .seq (.ops [⟨some 22, none, .mov (.t 6)⟩, ⟨some 23, none, .mov (.t 7)⟩, ⟨some 24, none, .bin .num .rem (.t 23) (.c (.int .u64 65536))⟩, ⟨some 25, none, .idxAddrA 20 1 (.t 2) (.t 22)⟩, ⟨none, none, .store1 (.t 25) (.t 24)⟩]) <|
     .ops [⟨some 26, none, .mov (.t 7)⟩, ⟨some 27, none, .bin .num .quo (.t 26) (.c (.int .u64 65536))⟩, ⟨some 28, none, .bin .num .sub (.c (.int .u64 1)) (.t 27)⟩, ⟨some 5, none, .mov (.t 28)⟩])) <|
    .ops [⟨some 10, none, .mov (.t 6)⟩, ⟨some 11, none, .bin .num .add (.t 10) (.c (.int .i64 1))⟩, ⟨some 6, none, .mov (.t 11)⟩]))) <|
  .seq (.ops [⟨some 29, none, .loadN 20 (.t 2)⟩, ⟨none, none, .storeN 20 (.t 4) (.t 29)⟩]) <|
  .ret
def v28 : VFunc := ⟨30, [.cellN 20 4], c28⟩
/-- berthing/berthingref01.Power -/
def c29 : VCode :=
  .seq (.ops [⟨some 2, none, .alloc [(.int .u64 0), (.int .u64 0), (.int .u64 0), (.int .u64 0), (.int .u64 0), (.int .u64 0), (.int .u64 0), (.int .u64 0), (.int .u64 0), (.int .u64 0), (.int .u64 0), (.int .u64 0), (.int .u64 0), (.int .u64 0), (.int .u64 0), (.int .u64 0), (.int .u64 0), (.int .u64 0), (.int .u64 0), (.int .u64 0)]⟩]) <|
  .seq (.ops [⟨some 5, none, .build [(.int .u64 0), (.int .u64 0), (.int .u64 0), (.int .u64 0), (.int .u64 0), (.int .u64 0), (.int .u64 0), (.int .u64 0), (.int .u64 0), (.int .u64 0), (.int .u64 0), (.int .u64 0), (.int .u64 0), (.int .u64 0), (.int .u64 0), (.int .u64 0), (.int .u64 0), (.int .u64 0), (.int .u64 0), (.int .u64 0)] [(0, 1, (.c (.int .u64 1)))]⟩, ⟨some 3, none, .alloc [(.int .u64 0), (.int .u64 0), (.int .u64 0), (.int .u64 0), (.int .u64 0), (.int .u64 0), (.int .u64 0), (.int .u64 0), (.int .u64 0), (.int .u64 0), (.int .u64 0), (.int .u64 0), (.int .u64 0), (.int .u64 0), (.int .u64 0), (.int .u64 0), (.int .u64 0), (.int .u64 0), (.int .u64 0), (.int .u64 0)]⟩, ⟨none, none, .storeN 20 (.t 3) (.t 5)⟩]) <|
  .seq (.seq (.ops [⟨some 4, none, .mov (.c (.int .i64 0))⟩]) <|
  .block 0 (.loop (.seq (.seq (.ops [⟨some 6, none, .mov (.t 4)⟩, ⟨some 7, none, .mov (.t 0)⟩, ⟨some 8, none, .bin .num .lss (.t 6) (.t 7)⟩]) <|
    .cond (.t 8) (.skip) (.exit 0)) <|
    .seq (.block 1 (.ops [⟨some 11, none, .loadN 20 (.t 3)⟩, ⟨some 12, none, .loadN 20 (.t 3)⟩, ⟨some 13, none, .call 26 [(.t 11), (.t 12)]⟩, ⟨none, none, .storeN 20 (.t 3) (.t 13)⟩])) <|
    .ops [⟨some 9, none, .mov (.t 4)⟩, ⟨some 10, none, .bin .num .add (.t 9) (.c (.int .i64 1))⟩, ⟨some 4, none, .mov (.t 10)⟩]))) <|
  .seq (.ops [⟨some 14, none, .loadN 20 (.t 3)⟩, ⟨none, none, .storeN 20 (.t 2) (.t 14)⟩]) <|
  .ret
def v29 : VFunc := ⟨15, [.cellN 20 2], c29⟩
/-- (berthing/berthingref01.Digits).Wide -/
def c30 : VCode :=
  .seq (.ops [⟨some 1, none, .box (.t 0)⟩, ⟨some 2, none, .alloc [(.int .u64 0), (.int .u64 0)]⟩, ⟨some 3, none, .mov (.c (.bool false))⟩]) <|
  .seq (.ops [⟨some 4, none, .alloc [(.int .u64 0), (.int .u64 0)]⟩]) <|
  .seq (.seq (.ops [⟨some 5, none, .mov (.c (.int .i64 3))⟩]) <|
  .block 0 (.loop (.seq (.seq (.ops [⟨some 7, none, .mov (.t 5)⟩, ⟨some 8, none, .bin .num .geq (.t 7) (.c (.int .i64 0))⟩]) <|
    .cond (.t 8) (.skip) (.exit 0)) <|
    .seq (.block 1 (.seq (.ops [⟨some 11, none, .fieldAddr 1 (.t 4)⟩, ⟨some 12, none, .load1 (.t 11)⟩, ⟨some 13, none, .bin .num .mul (.t 12) (.c (.int .u64 65536))⟩, ⟨some 14, none, .mov (.t 5)⟩, ⟨some 15, none, .idxAddrA 20 1 (.t 1) (.t 14)⟩, ⟨some 16, none, .load1 (.t 15)⟩, ⟨some 17, none, .bin .num .add (.t 13) (.t 16)⟩, ⟨some 18, none, .fieldAddr 1 (.t 4)⟩, ⟨none, none, .store1 (.t 18) (.t 17)⟩]) <|
     .ops [⟨some 19, none, .fieldAddr 0 (.t 4)⟩, ⟨some 20, none, .load1 (.t 19)⟩, ⟨some 21, none, .bin .num .mul (.t 20) (.c (.int .u64 65536))⟩, ⟨some 22, none, .mov (.t 5)⟩, ⟨some 23, none, .bin .num .add (.c (.int .i64 4)) (.t 22)⟩, ⟨some 24, none, .idxAddrA 20 1 (.t 1) (.t 23)⟩, ⟨some 25, none, .load1 (.t 24)⟩, ⟨some 26, none, .bin .num .add (.t 21) (.t 25)⟩, ⟨some 27, none, .fieldAddr 0 (.t 4)⟩, ⟨none, none, .store1 (.t 27) (.t 26)⟩])) <|
    .ops [⟨some 9, none, .mov (.t 5)⟩, ⟨some 10, none, .bin .num .sub (.t 9) (.c (.int .i64 1))⟩, ⟨some 5, none, .mov (.t 10)⟩]))) <|
  .seq (.seq (.ops [⟨some 6, none, .mov (.c (.int .i64 8))⟩]) <|
  .block 2 (.loop (.seq (.seq (.ops [⟨some 28, none, .mov (.t 6)⟩, ⟨some 29, none, .bin .num .lss (.t 28) (.c (.int .i64 20))⟩]) <|
    .cond (.t 29) (.skip) (.exit 2)) <|
    .seq (.block 3 (.seq (.ops [⟨some 32, none, .mov (.t 6)⟩, ⟨some 33, none, .idxAddrA 20 1 (.t 1) (.t 32)⟩, ⟨some 34, none, .load1 (.t 33)⟩, ⟨some 35, none, .bin .num .neq (.t 34) (.c (.int .u64 0))⟩]) <|
     .cond (.t 35) (.seq (.ops [⟨some 36, none, .build [(.int .u64 0), (.int .u64 0)] []⟩, ⟨none, none, .storeN 2 (.t 2) (.t 36)⟩, ⟨some 3, none, .mov (.c (.bool false))⟩]) <|
      .ret) (.skip))) <|
    .ops [⟨some 30, none, .mov (.t 6)⟩, ⟨some 31, none, .bin .num .add (.t 30) (.c (.int .i64 1))⟩, ⟨some 6, none, .mov (.t 31)⟩]))) <|
  .seq (.ops [⟨some 37, none, .loadN 2 (.t 4)⟩, ⟨none, none, .storeN 2 (.t 2) (.t 37)⟩, ⟨some 3, none, .mov (.c (.bool true))⟩]) <|
  .ret
def v30 : VFunc := ⟨38, [.cellN 2 2, .tmp 3], c30⟩
/-- berthing/checked.size -/
def c31 : VCode :=
  .seq (.ops [⟨some 2, none, .mov (.c (.int .u64 0))⟩]) <|
  .seq (.seq (.ops [⟨some 3, none, .mov (.t 0)⟩, ⟨some 4, none, .bin .num .lss (.t 3) (.c (.int .i64 0))⟩]) <|
  .cond (.t 4) (.seq (.ops [⟨some 5, none, .mov (.t 0)⟩, ⟨some 6, none, .conv .u64 (.t 5)⟩, ⟨some 7, none, .un .neg (.t 6)⟩, ⟨some 2, none, .mov (.t 7)⟩]) <|
   .ret) (.skip)) <|
  .seq (.ops [⟨some 8, none, .mov (.t 0)⟩, ⟨some 9, none, .conv .u64 (.t 8)⟩, ⟨some 2, none, .mov (.t 9)⟩]) <|
  .ret
def v31 : VFunc := ⟨10, [.tmp 2], c31⟩
/-- (berthing/berthingref01.Digits).Times -/
def c32 : VCode :=
  .seq (.ops [⟨some 2, none, .box (.t 0)⟩, ⟨some 3, none, .box (.t 1)⟩, ⟨some 4, none, .alloc [(.int .u64 0), (.int .u64 0), (.int .u64 0), (.int .u64 0), (.int .u64 0), (.int .u64 0), (.int .u64 0), (.int .u64 0), (.int .u64 0), (.int .u64 0), (.int .u64 0), (.int .u64 0), (.int .u64 0), (.int .u64 0), (.int .u64 0), (.int .u64 0), (.int .u64 0), (.int .u64 0), (.int .u64 0), (.int .u64 0)]⟩]) <|
  .seq (.ops [⟨some 5, none, .alloc [(.int .u64 0), (.int .u64 0), (.int .u64 0), (.int .u64 0), (.int .u64 0), (.int .u64 0), (.int .u64 0), (.int .u64 0), (.int .u64 0), (.int .u64 0), (.int .u64 0), (.int .u64 0), (.int .u64 0), (.int .u64 0), (.int .u64 0), (.int .u64 0), (.int .u64 0), (.int .u64 0), (.int .u64 0), (.int .u64 0)]⟩]) <|
  .seq (.seq (.ops [⟨some 6, none, .mov (.c (.int .i64 0))⟩]) <|
  .block 0 (.loop (.seq (.seq (.ops [⟨some 10, none, .mov (.t 6)⟩, ⟨some 11, none, .bin .num .lss (.t 10) (.c (.int .i64 8))⟩]) <|
    .cond (.t 11) (.skip) (.exit 0)) <|
    .seq (.block 1 (.seq (.ops [⟨some 7, none, .mov (.c (.int .u64 0))⟩]) <|
     .seq (.ops [⟨some 8, none, .mov (.c (.int .i64 0))⟩]) <|
     .block 2 (.loop (.seq (.seq (.ops [⟨some 14, none, .mov (.t 8)⟩, ⟨some 15, none, .bin .num .lss (.t 14) (.c (.int .i64 12))⟩, ⟨some 16, none, .mov (.t 15)⟩, ⟨some 17, some (16, true), .mov (.t 6)⟩, ⟨some 18, some (16, true), .mov (.t 8)⟩, ⟨some 19, some (16, true), .bin .num .add (.t 17) (.t 18)⟩, ⟨some 20, some (16, true), .bin .num .lss (.t 19) (.c (.int .i64 20))⟩, ⟨some 21, none, .pick (.t 16) (.t 20) (.c (.bool false))⟩]) <|
       .cond (.t 21) (.skip) (.exit 2)) <|
       .seq (.block 3 (.seq (.ops [⟨some 24, none, .mov (.t 6)⟩, ⟨some 25, none, .mov (.t 8)⟩, ⟨some 26, none, .bin .num .add (.t 24) (.t 25)⟩, ⟨some 27, none, .idxAddrA 20 1 (.t 5) (.t 26)⟩, ⟨some 28, none, .load1 (.t 27)⟩, ⟨some 29, none, .mov (.t 7)⟩, ⟨some 30, none, .bin .num .add (.t 28) (.t 29)⟩, ⟨some 9, none, .mov (.t 30)⟩]) <|
        .seq (.seq (.ops [⟨some 31, none, .mov (.t 8)⟩, ⟨some 32, none, .bin .num .lss (.t 31) (.c (.int .i64 8))⟩]) <|
        .cond (.t 32) (.ops [⟨some 33, none, .mov (.t 9)⟩, ⟨some 34, none, .mov (.t 6)⟩, ⟨some 35, none, .idxAddrA 20 1 (.t 2) (.t 34)⟩, ⟨some 36, none, .load1 (.t 35)⟩, ⟨some 37, none, .mov (.t 8)⟩, ⟨some 38, none, .idxAddrA 20 1 (.t 3) (.t 37)⟩, ⟨some 39, none, .load1 (.t 38)⟩, ⟨some 40, none, .bin .num .mul (.t 36) (.t 39)⟩, ⟨some 41, none, .bin .num .add (.t 33) (.t 40)⟩, ⟨some 9, none, .mov (.t 41)⟩]) (.skip)) <|
        .seq (.ops [⟨some 42, none, .mov (.t 6)⟩, ⟨some 43, none, .mov (.t 8)⟩, ⟨some 44, none, .bin .num .add (.t 42) (.t 43)⟩, ⟨some 45, none, .mov (.t 9)⟩, ⟨some 46, none, .bin .num .rem (.t 45) (.c (.int .u64 65536))⟩, ⟨some 47, none, .idxAddrA 20 1 (.t 5) (.t 44)⟩, ⟨none, none, .store1 (.t 47) (.t 46)⟩]) <|
        .ops [⟨some 48, none, .mov (.t 9)⟩, ⟨some 49, none, .bin .num .quo (.t 48) (.c (.int .u64 65536))⟩, ⟨some 7, none, .mov (.t 49)⟩])) <|
       .ops [⟨some 22, none, .mov (.t 8)⟩, ⟨some 23, none, .bin .num .add (.t 22) (.c (.int .i64 1))⟩, ⟨some 8, none, .mov (.t 23)⟩])))) <|
    .ops [⟨some 12, none, .mov (.t 6)⟩, ⟨some 13, none, .bin .num .add (.t 12) (.c (.int .i64 1))⟩, ⟨some 6, none, .mov (.t 13)⟩]))) <|
  .seq (.ops [⟨some 50, none, .loadN 20 (.t 5)⟩, ⟨none, none, .storeN 20 (.t 4) (.t 50)⟩]) <|
  .ret
def v32 : VFunc := ⟨51, [.cellN 20 4], c32⟩
/-- (berthing/berthingref01.Digits).By -/
def c33 : VCode :=
  .seq (.ops [⟨some 2, none, .box (.t 0)⟩, ⟨some 3, none, .box (.t 1)⟩, ⟨some 4, none, .alloc [(.int .u64 0), (.int .u64 0), (.int .u64 0), (.int .u64 0), (.int .u64 0), (.int .u64 0), (.int .u64 0), (.int .u64 0), (.int .u64 0), (.int .u64 0), (.int .u64 0), (.int .u64 0), (.int .u64 0), (.int .u64 0), (.int .u64 0), (.int .u64 0), (.int .u64 0), (.int .u64 0), (.int .u64 0), (.int .u64 0)]⟩, ⟨some 5, none, .alloc [(.int .u64 0), (.int .u64 0), (.int .u64 0), (.int .u64 0), (.int .u64 0), (.int .u64 0), (.int .u64 0), (.int .u64 0), (.int .u64 0), (.int .u64 0), (.int .u64 0), (.int .u64 0), (.int .u64 0), (.int .u64 0), (.int .u64 0), (.int .u64 0), (.int .u64 0), (.int .u64 0), (.int .u64 0), (.int .u64 0)]⟩]) <|
  .seq (.ops [⟨some 6, none, .alloc [(.int .u64 0), (.int .u64 0), (.int .u64 0), (.int .u64 0), (.int .u64 0), (.int .u64 0), (.int .u64 0), (.int .u64 0), (.int .u64 0), (.int .u64 0), (.int .u64 0), (.int .u64 0), (.int .u64 0), (.int .u64 0), (.int .u64 0), (.int .u64 0), (.int .u64 0), (.int .u64 0), (.int .u64 0), (.int .u64 0)]⟩]) <|
  .seq (.seq (.ops [⟨some 7, none, .mov (.c (.int .i64 128))⟩]) <|
  .block 0 (.loop (.seq (.seq (.ops [⟨some 10, none, .mov (.t 7)⟩, ⟨some 11, none, .bin .num .geq (.t 10) (.c (.int .i64 0))⟩]) <|
    .cond (.t 11) (.skip) (.exit 0)) <|
    .seq (.block 1 (.seq (.ops [⟨some 14, none, .loadN 20 (.t 3)⟩, ⟨some 8, none, .alloc [(.int .u64 0), (.int .u64 0), (.int .u64 0), (.int .u64 0), (.int .u64 0), (.int .u64 0), (.int .u64 0), (.int .u64 0), (.int .u64 0), (.int .u64 0), (.int .u64 0), (.int .u64 0), (.int .u64 0), (.int .u64 0), (.int .u64 0), (.int .u64 0), (.int .u64 0), (.int .u64 0), (.int .u64 0), (.int .u64 0)]⟩, ⟨none, none, .storeN 20 (.t 8) (.t 14)⟩]) <|
     .seq (.seq (.ops [⟨some 9, none, .mov (.c (.int .i64 0))⟩]) <|
     .block 2 (.loop (.seq (.seq (.ops [⟨some 15, none, .mov (.t 9)⟩, ⟨some 16, none, .mov (.t 7)⟩, ⟨some 17, none, .bin .num .lss (.t 15) (.t 16)⟩]) <|
       .cond (.t 17) (.skip) (.exit 2)) <|
       .seq (.block 3 (.ops [⟨some 20, none, .loadN 20 (.t 8)⟩, ⟨some 21, none, .loadN 20 (.t 8)⟩, ⟨some 22, none, .call 26 [(.t 20), (.t 21)]⟩, ⟨none, none, .storeN 20 (.t 8) (.t 22)⟩])) <|
       .ops [⟨some 18, none, .mov (.t 9)⟩, ⟨some 19, none, .bin .num .add (.t 18) (.c (.int .i64 1))⟩, ⟨some 9, none, .mov (.t 19)⟩]))) <|
     .seq (.ops [⟨some 23, none, .loadN 20 (.t 2)⟩, ⟨some 24, none, .loadN 20 (.t 8)⟩, ⟨some 25, none, .call 27 [(.t 23), (.t 24)]⟩, ⟨some 26, none, .un .not (.t 25)⟩]) <|
     .cond (.t 26) (.seq (.ops [⟨some 27, none, .loadN 20 (.t 2)⟩, ⟨some 28, none, .loadN 20 (.t 8)⟩, ⟨some 29, none, .call 28 [(.t 27), (.t 28)]⟩, ⟨none, none, .storeN 20 (.t 2) (.t 29)⟩]) <|
      .ops [⟨some 30, none, .loadN 20 (.t 6)⟩, ⟨some 31, none, .mov (.t 7)⟩, ⟨some 32, none, .call 29 [(.t 31)]⟩, ⟨some 33, none, .call 26 [(.t 30), (.t 32)]⟩, ⟨none, none, .storeN 20 (.t 6) (.t 33)⟩]) (.skip))) <|
    .ops [⟨some 12, none, .mov (.t 7)⟩, ⟨some 13, none, .bin .num .sub (.t 12) (.c (.int .i64 1))⟩, ⟨some 7, none, .mov (.t 13)⟩]))) <|
  .seq (.draw [] [⟨some 34, none, .loadN 20 (.t 6)⟩, ⟨some 35, none, .loadN 20 (.t 2)⟩, ⟨none, none, .storeN 20 (.t 4) (.t 34)⟩, ⟨none, none, .storeN 20 (.t 5) (.t 35)⟩] [(1, 2)]) <|
  .ret
def v33 : VFunc := ⟨36, [.cellN 20 4, .cellN 20 5], c33⟩
def ft : FuncId → Option VFunc := fun f => bif Nat.beq f 3 then some v3 else bif Nat.beq f 4 then some v4 else bif Nat.beq f 5 then some v5 else bif Nat.beq f 6 then some v6 else bif Nat.beq f 7 then some v7 else bif Nat.beq f 8 then some v8 else bif Nat.beq f 9 then some v9 else bif Nat.beq f 10 then some v10 else bif Nat.beq f 11 then some v11 else bif Nat.beq f 12 then some v12 else bif Nat.beq f 13 then some v13 else bif Nat.beq f 14 then some v14 else bif Nat.beq f 15 then some v15 else bif Nat.beq f 16 then some v16 else bif Nat.beq f 17 then some v17 else bif Nat.beq f 18 then some v18 else bif Nat.beq f 19 then some v19 else bif Nat.beq f 20 then some v20 else bif Nat.beq f 21 then some v21 else bif Nat.beq f 22 then some v22 else bif Nat.beq f 23 then some v23 else bif Nat.beq f 24 then some v24 else bif Nat.beq f 25 then some v25 else bif Nat.beq f 26 then some v26 else bif Nat.beq f 27 then some v27 else bif Nat.beq f 28 then some v28 else bif Nat.beq f 29 then some v29 else bif Nat.beq f 30 then some v30 else bif Nat.beq f 31 then some v31 else bif Nat.beq f 32 then some v32 else bif Nat.beq f 33 then some v33 else none
def env : Env := ⟨ft, md⟩
theorem is3 : FnComp ⟨Try.prog, md⟩ 3 v3 := ⟨Try.f3, _, fun t => false, Try.func3, rfl, by kernel_rfl, by kernel_rfl, by kernel_rfl⟩
theorem is4 : FnComp ⟨Try.prog, md⟩ 4 v4 := ⟨Try.f4, _, fun t => false, Try.func4, rfl, by kernel_rfl, by kernel_rfl, by kernel_rfl⟩
theorem is5 : FnComp ⟨Try.prog, md⟩ 5 v5 := ⟨Try.f5, _, fun t => false, Try.func5, rfl, by kernel_rfl, by kernel_rfl, by kernel_rfl⟩
theorem is6 : FnComp ⟨Try.prog, md⟩ 6 v6 := ⟨Try.f6, _, fun t => false, Try.func6, rfl, by kernel_rfl, by kernel_rfl, by kernel_rfl⟩
theorem is7 : FnComp ⟨Try.prog, md⟩ 7 v7 := ⟨Try.f7, _, fun t => false, Try.func7, rfl, by kernel_rfl, by kernel_rfl, by kernel_rfl⟩
theorem is8 : FnComp ⟨Try.prog, md⟩ 8 v8 := ⟨Try.f8, _, fun t => false, Try.func8, rfl, by kernel_rfl, by kernel_rfl, by kernel_rfl⟩
theorem is9 : FnComp ⟨Try.prog, md⟩ 9 v9 := ⟨Try.f9, _, fun t => false, Try.func9, rfl, by kernel_rfl, by kernel_rfl, by kernel_rfl⟩
theorem is10 : FnComp ⟨Try.prog, md⟩ 10 v10 := ⟨Try.f10, _, fun t => false, Try.func10, rfl, by kernel_rfl, by kernel_rfl, by kernel_rfl⟩
theorem is11 : FnComp ⟨Try.prog, md⟩ 11 v11 := ⟨Try.f11, _, fun t => false, Try.func11, rfl, by kernel_rfl, by kernel_rfl, by kernel_rfl⟩
theorem is12 : FnComp ⟨Try.prog, md⟩ 12 v12 := ⟨Try.f12, _, fun t => false, Try.func12, rfl, by kernel_rfl, by kernel_rfl, by kernel_rfl⟩
theorem is13 : FnComp ⟨Try.prog, md⟩ 13 v13 := ⟨Try.f13, _, fun t => false, Try.func13, rfl, by kernel_rfl, by kernel_rfl, by kernel_rfl⟩
theorem is14 : FnComp ⟨Try.prog, md⟩ 14 v14 := ⟨Try.f14, _, fun t => false, Try.func14, rfl, by kernel_rfl, by kernel_rfl, by kernel_rfl⟩
theorem is15 : FnComp ⟨Try.prog, md⟩ 15 v15 := ⟨Try.f15, _, fun t => false, Try.func15, rfl, by kernel_rfl, by kernel_rfl, by kernel_rfl⟩
theorem is16 : FnComp ⟨Try.prog, md⟩ 16 v16 := ⟨Try.f16, _, fun t => false, Try.func16, rfl, by kernel_rfl, by kernel_rfl, by kernel_rfl⟩
theorem is17 : FnComp ⟨Try.prog, md⟩ 17 v17 := ⟨Try.f17, _, fun t => false, Try.func17, rfl, by kernel_rfl, by kernel_rfl, by kernel_rfl⟩
theorem is18 : FnComp ⟨Try.prog, md⟩ 18 v18 := ⟨Try.f18, _, fun t => false, Try.func18, rfl, by kernel_rfl, by kernel_rfl, by kernel_rfl⟩
theorem is19 : FnComp ⟨Try.prog, md⟩ 19 v19 := ⟨Try.f19, _, fun t => false, Try.func19, rfl, by kernel_rfl, by kernel_rfl, by kernel_rfl⟩
theorem is20 : FnComp ⟨Try.prog, md⟩ 20 v20 := ⟨Try.f20, _, fun t => false, Try.func20, rfl, by kernel_rfl, by kernel_rfl, by kernel_rfl⟩
theorem is21 : FnComp ⟨Try.prog, md⟩ 21 v21 := ⟨Try.f21, _, fun t => false, Try.func21, rfl, by kernel_rfl, by kernel_rfl, by kernel_rfl⟩
theorem is22 : FnComp ⟨Try.prog, md⟩ 22 v22 := ⟨Try.f22, _, fun t => false, Try.func22, rfl, by kernel_rfl, by kernel_rfl, by kernel_rfl⟩
theorem is23 : FnComp ⟨Try.prog, md⟩ 23 v23 := ⟨Try.f23, _, fun t => false, Try.func23, rfl, by kernel_rfl, by kernel_rfl, by kernel_rfl⟩
theorem is24 : FnComp ⟨Try.prog, md⟩ 24 v24 := ⟨Try.f24, _, fun t => false, Try.func24, rfl, by kernel_rfl, by kernel_rfl, by kernel_rfl⟩
theorem is25 : FnComp ⟨Try.prog, md⟩ 25 v25 := ⟨Try.f25, _, fun t => false, Try.func25, rfl, by kernel_rfl, by kernel_rfl, by kernel_rfl⟩
theorem is26 : FnComp ⟨Try.prog, md⟩ 26 v26 := ⟨Try.f26, _, fun t => false, Try.func26, rfl, by kernel_rfl, by kernel_rfl, by kernel_rfl⟩
theorem is27 : FnComp ⟨Try.prog, md⟩ 27 v27 := ⟨Try.f27, _, fun t => false, Try.func27, rfl, by kernel_rfl, by kernel_rfl, by kernel_rfl⟩
theorem is28 : FnComp ⟨Try.prog, md⟩ 28 v28 := ⟨Try.f28, _, fun t => false, Try.func28, rfl, by kernel_rfl, by kernel_rfl, by kernel_rfl⟩
theorem is29 : FnComp ⟨Try.prog, md⟩ 29 v29 := ⟨Try.f29, _, fun t => false, Try.func29, rfl, by kernel_rfl, by kernel_rfl, by kernel_rfl⟩
theorem is30 : FnComp ⟨Try.prog, md⟩ 30 v30 := ⟨Try.f30, _, fun t => false, Try.func30, rfl, by kernel_rfl, by kernel_rfl, by kernel_rfl⟩
theorem is31 : FnComp ⟨Try.prog, md⟩ 31 v31 := ⟨Try.f31, _, fun t => false, Try.func31, rfl, by kernel_rfl, by kernel_rfl, by kernel_rfl⟩
theorem is32 : FnComp ⟨Try.prog, md⟩ 32 v32 := ⟨Try.f32, _, fun t => false, Try.func32, rfl, by kernel_rfl, by kernel_rfl, by kernel_rfl⟩
theorem is33 : FnComp ⟨Try.prog, md⟩ 33 v33 := ⟨Try.f33, _, fun t => false, Try.func33, rfl, by kernel_rfl, by kernel_rfl, by kernel_rfl⟩

theorem envOK : EnvOK ⟨Try.prog, md⟩ env := ⟨rfl, by kernel_rfl, fun f vf h => by
  change ft f = some vf at h
  unfold ft at h
  rcases ft_cons h with ⟨h1, h2⟩ | h
  · rw [h1, h2]; exact is3
  rcases ft_cons h with ⟨h1, h2⟩ | h
  · rw [h1, h2]; exact is4
  rcases ft_cons h with ⟨h1, h2⟩ | h
  · rw [h1, h2]; exact is5
  rcases ft_cons h with ⟨h1, h2⟩ | h
  · rw [h1, h2]; exact is6
  rcases ft_cons h with ⟨h1, h2⟩ | h
  · rw [h1, h2]; exact is7
  rcases ft_cons h with ⟨h1, h2⟩ | h
  · rw [h1, h2]; exact is8
  rcases ft_cons h with ⟨h1, h2⟩ | h
  · rw [h1, h2]; exact is9
  rcases ft_cons h with ⟨h1, h2⟩ | h
  · rw [h1, h2]; exact is10
  rcases ft_cons h with ⟨h1, h2⟩ | h
  · rw [h1, h2]; exact is11
  rcases ft_cons h with ⟨h1, h2⟩ | h
  · rw [h1, h2]; exact is12
  rcases ft_cons h with ⟨h1, h2⟩ | h
  · rw [h1, h2]; exact is13
  rcases ft_cons h with ⟨h1, h2⟩ | h
  · rw [h1, h2]; exact is14
  rcases ft_cons h with ⟨h1, h2⟩ | h
  · rw [h1, h2]; exact is15
  rcases ft_cons h with ⟨h1, h2⟩ | h
  · rw [h1, h2]; exact is16
  rcases ft_cons h with ⟨h1, h2⟩ | h
  · rw [h1, h2]; exact is17
  rcases ft_cons h with ⟨h1, h2⟩ | h
  · rw [h1, h2]; exact is18
  rcases ft_cons h with ⟨h1, h2⟩ | h
  · rw [h1, h2]; exact is19
  rcases ft_cons h with ⟨h1, h2⟩ | h
  · rw [h1, h2]; exact is20
  rcases ft_cons h with ⟨h1, h2⟩ | h
  · rw [h1, h2]; exact is21
  rcases ft_cons h with ⟨h1, h2⟩ | h
  · rw [h1, h2]; exact is22
  rcases ft_cons h with ⟨h1, h2⟩ | h
  · rw [h1, h2]; exact is23
  rcases ft_cons h with ⟨h1, h2⟩ | h
  · rw [h1, h2]; exact is24
  rcases ft_cons h with ⟨h1, h2⟩ | h
  · rw [h1, h2]; exact is25
  rcases ft_cons h with ⟨h1, h2⟩ | h
  · rw [h1, h2]; exact is26
  rcases ft_cons h with ⟨h1, h2⟩ | h
  · rw [h1, h2]; exact is27
  rcases ft_cons h with ⟨h1, h2⟩ | h
  · rw [h1, h2]; exact is28
  rcases ft_cons h with ⟨h1, h2⟩ | h
  · rw [h1, h2]; exact is29
  rcases ft_cons h with ⟨h1, h2⟩ | h
  · rw [h1, h2]; exact is30
  rcases ft_cons h with ⟨h1, h2⟩ | h
  · rw [h1, h2]; exact is31
  rcases ft_cons h with ⟨h1, h2⟩ | h
  · rw [h1, h2]; exact is32
  rcases ft_cons h with ⟨h1, h2⟩ | h
  · rw [h1, h2]; exact is33
  cases h⟩
end Go.Proofs.Ytilfmfnngkangaa
