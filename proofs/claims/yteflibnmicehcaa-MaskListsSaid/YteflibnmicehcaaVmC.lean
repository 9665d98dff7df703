/-
  The functions of this seat as code of the abstract machine, and that they are so. Printed by a program.
-/
import Derived.Test.YteflibnmicehcaaV7
import Derived.Test.YteflibnmicehcaaChecked
import Derived.KernelRfl
set_option linter.all false
set_option linter.unusedVariables false
set_option linter.unusedSimpArgs false
set_option linter.unusedSectionVars false
namespace Go.Proofs.Yteflibnmicehcaa
open Go Go.VM

def md : FuncId → VM.Mode := fun f => bif Nat.beq f 26 then .shared else bif Nat.beq f 28 then .shared else bif Nat.beq f 29 then .shared else bif Nat.beq f 30 then .shared else .pure
/-- berthing/berthinglaw07.MaskLists -/
def c3 : VCode :=
  .seq (.ops [⟨some 6, none, .mov (.c (.bool false))⟩]) <|
  .seq (.seq (.ops [⟨some 13, none, .call 7 []⟩, ⟨some 14, none, .un .not (.t 13)⟩]) <|
  .cond (.t 14) (.seq (.ops [⟨some 6, none, .mov (.c (.bool false))⟩]) <|
   .ret) (.skip)) <|
  .seq (.seq (.ops [⟨some 15, none, .mov (.t 0)⟩, ⟨some 16, none, .lenS (.t 15)⟩, ⟨some 17, none, .bin .num .gtr (.t 16) (.c (.int .i64 300))⟩]) <|
  .cond (.t 17) (.seq (.ops [⟨some 6, none, .mov (.c (.bool true))⟩]) <|
   .ret) (.skip)) <|
  .seq (.ops [⟨some 7, none, .alloc [(.bool false), (.bool false), (.bool false), (.bool false), (.bool false), (.bool false), (.bool false), (.bool false)]⟩]) <|
  .seq (.seq (.ops [⟨some 18, none, .mov (.t 0)⟩, ⟨some 19, none, .lenS (.t 18)⟩, ⟨some 20, none, .mov (.c (.int .i64 0))⟩]) <|
  .block 0 (.loop (.seq (.ops [⟨some 21, none, .bin .num .lss (.t 20) (.t 19)⟩]) <|
    .seq (.cond (.t 21) (.skip) (.exit 0)) <|
    .seq (.block 1 (.seq (.ops [⟨some 22, none, .idxAddrS 1 (.t 18) (.t 20)⟩, ⟨some 23, none, .load1 (.t 22)⟩, ⟨some 9, none, .mov (.t 23)⟩]) <|
     .seq (.ops [⟨some 24, none, .mov (.t 9)⟩, ⟨some 25, none, .bin .num .geq (.t 24) (.c (.int .i64 0))⟩, ⟨some 26, none, .mov (.t 25)⟩, ⟨some 27, some (26, true), .mov (.t 9)⟩, ⟨some 28, some (26, true), .bin .num .lss (.t 27) (.c (.int .i64 8))⟩, ⟨some 29, none, .pick (.t 26) (.t 28) (.c (.bool false))⟩]) <|
     .cond (.t 29) (.ops [⟨some 30, none, .mov (.t 9)⟩, ⟨some 31, none, .idxAddrA 8 1 (.t 7) (.t 30)⟩, ⟨none, none, .store1 (.t 31) (.c (.bool true))⟩]) (.skip))) <|
    .ops [⟨some 32, none, .bin .num .add (.t 20) (.c (.int .i64 1))⟩, ⟨some 20, none, .mov (.t 32)⟩]))) <|
  .seq (.ops [⟨some 33, none, .mov (.t 2)⟩, ⟨some 34, none, .minmax false [(.t 33), (.c (.int .i64 300))]⟩, ⟨some 35, none, .minmax true [(.c (.int .i64 0)), (.t 34)]⟩, ⟨some 10, none, .mov (.t 35)⟩]) <|
  .seq (.ops [⟨some 36, none, .mov (.t 1)⟩, ⟨some 37, none, .minmax false [(.t 36), (.c (.int .i64 8))]⟩, ⟨some 38, none, .minmax true [(.c (.int .i64 0)), (.t 37)]⟩, ⟨some 39, none, .call 8 [(.t 38)]⟩, ⟨some 11, none, .mov (.t 39)⟩]) <|
  .seq (.ops [⟨some 40, none, .mov (.t 0)⟩, ⟨some 41, none, .call 9 [(.t 40)]⟩, ⟨some 12, none, .mov (.t 41)⟩]) <|
  .seq (.ops [⟨some 42, none, .mov (.t 12)⟩, ⟨some 43, none, .loadN 8 (.t 7)⟩, ⟨some 44, none, .call 10 [(.t 43)]⟩, ⟨some 45, none, .bin .num .eql (.t 42) (.t 44)⟩, ⟨some 46, none, .mov (.t 45)⟩, ⟨some 47, some (46, true), .mov (.t 1)⟩, ⟨some 48, some (46, true), .mov (.t 10)⟩, ⟨some 49, some (46, true), .call 12 [(.t 47), (.t 48)]⟩, ⟨some 50, some (46, true), .mov (.t 11)⟩, ⟨some 51, some (46, true), .mov (.t 10)⟩, ⟨some 52, some (46, true), .mov (.t 11)⟩, ⟨some 53, some (46, true), .lenS (.t 52)⟩, ⟨some 54, some (46, true), .minmax false [(.t 51), (.t 53)]⟩, ⟨some 55, some (46, true), .sliceS 1 (.t 50) none (some (.t 54)) none⟩, ⟨some 56, some (46, true), .call 11 [(.t 49), (.t 55)]⟩, ⟨some 57, none, .pick (.t 46) (.t 56) (.c (.bool false))⟩, ⟨some 58, none, .mov (.t 57)⟩, ⟨some 59, some (58, true), .mov (.t 12)⟩, ⟨some 60, some (58, true), .mov (.t 10)⟩, ⟨some 61, some (58, true), .call 13 [(.t 59), (.t 60)]⟩, ⟨some 62, some (58, true), .loadN 8 (.t 7)⟩, ⟨some 63, some (58, true), .call 14 [(.t 62)]⟩, ⟨some 64, some (58, true), .mov (.t 10)⟩, ⟨some 65, some (58, true), .loadN 8 (.t 7)⟩, ⟨some 66, some (58, true), .call 14 [(.t 65)]⟩, ⟨some 67, some (58, true), .lenS (.t 66)⟩, ⟨some 68, some (58, true), .minmax false [(.t 64), (.t 67)]⟩, ⟨some 69, some (58, true), .sliceS 1 (.t 63) none (some (.t 68)) none⟩, ⟨some 70, some (58, true), .call 11 [(.t 61), (.t 69)]⟩, ⟨some 71, none, .pick (.t 58) (.t 70) (.c (.bool false))⟩, ⟨some 6, none, .mov (.t 71)⟩]) <|
  .ret
def v3 : VFunc := ⟨72, [.tmp 6], c3⟩
/-- berthing/berthinglaw07.MaskTells -/
def c4 : VCode :=
  .seq (.ops [⟨some 6, none, .mov (.c (.bool false))⟩]) <|
  .seq (.seq (.ops [⟨some 18, none, .call 7 []⟩, ⟨some 19, none, .un .not (.t 18)⟩]) <|
  .cond (.t 19) (.seq (.ops [⟨some 6, none, .mov (.c (.bool false))⟩]) <|
   .ret) (.skip)) <|
  .seq (.ops [⟨some 20, none, .mov (.t 0)⟩, ⟨some 21, none, .call 15 [(.t 20)]⟩, ⟨some 22, none, .mov (.t 1)⟩, ⟨some 23, none, .call 15 [(.t 22)]⟩, ⟨some 7, none, .alloc [(.bool false), (.bool false), (.bool false), (.bool false), (.bool false), (.bool false), (.bool false), (.bool false)]⟩, ⟨some 8, none, .alloc [(.bool false), (.bool false), (.bool false), (.bool false), (.bool false), (.bool false), (.bool false), (.bool false)]⟩, ⟨none, none, .storeN 8 (.t 7) (.t 21)⟩, ⟨none, none, .storeN 8 (.t 8) (.t 23)⟩]) <|
  .seq (.draw [(9, [(.bool false), (.bool false), (.bool false), (.bool false), (.bool false), (.bool false), (.bool false), (.bool false)]), (10, [(.bool false), (.bool false), (.bool false), (.bool false), (.bool false), (.bool false), (.bool false), (.bool false)])] [⟨some 24, none, .loadN 8 (.t 7)⟩, ⟨some 25, none, .loadN 8 (.t 7)⟩, ⟨none, none, .idle⟩, ⟨none, none, .idle⟩, ⟨none, none, .storeN 8 (.t 9) (.t 24)⟩, ⟨none, none, .storeN 8 (.t 10) (.t 25)⟩, ⟨some 11, none, .mov (.c (.bool true))⟩] [(1, 4)]) <|
  .seq (.ops [⟨some 12, none, .mov (.c (.bool false))⟩]) <|
  .seq (.seq (.ops [⟨some 26, none, .mov (.t 2)⟩, ⟨some 27, none, .bin .num .geq (.t 26) (.c (.int .i64 0))⟩, ⟨some 28, none, .mov (.t 27)⟩, ⟨some 29, some (28, true), .mov (.t 2)⟩, ⟨some 30, some (28, true), .bin .num .lss (.t 29) (.c (.int .i64 8))⟩, ⟨some 31, none, .pick (.t 28) (.t 30) (.c (.bool false))⟩]) <|
  .cond (.t 31) (.seq (.ops [⟨some 32, none, .mov (.t 2)⟩, ⟨some 33, none, .idxAddrA 8 1 (.t 7) (.t 32)⟩, ⟨some 34, none, .load1 (.t 33)⟩, ⟨some 12, none, .mov (.t 34)⟩]) <|
   .ops [⟨some 35, none, .mov (.t 2)⟩, ⟨some 36, none, .mov (.t 2)⟩, ⟨some 37, none, .idxAddrA 8 1 (.t 9) (.t 35)⟩, ⟨none, none, .store1 (.t 37) (.c (.bool true))⟩, ⟨some 38, none, .idxAddrA 8 1 (.t 10) (.t 36)⟩, ⟨none, none, .store1 (.t 38) (.c (.bool false))⟩]) (.skip)) <|
  .seq (.seq (.ops [⟨some 39, none, .mov (.c (.int .i64 0))⟩]) <|
  .block 0 (.loop (.seq (.ops [⟨some 40, none, .bin .num .lss (.t 39) (.c (.int .i64 8))⟩]) <|
    .seq (.cond (.t 40) (.skip) (.exit 0)) <|
    .seq (.block 1 (.seq (.ops [⟨some 41, none, .mov (.t 39)⟩, ⟨some 13, none, .mov (.t 41)⟩]) <|
     .ops [⟨some 42, none, .mov (.t 11)⟩, ⟨some 43, none, .mov (.t 42)⟩, ⟨some 44, some (43, true), .mov (.t 13)⟩, ⟨some 45, some (43, true), .idxAddrA 8 1 (.t 7) (.t 44)⟩, ⟨some 46, some (43, true), .load1 (.t 45)⟩, ⟨some 47, some (43, true), .un .not (.t 46)⟩, ⟨some 48, some (43, true), .mov (.t 47)⟩, ⟨some 49, some (48, false), .mov (.t 13)⟩, ⟨some 50, some (48, false), .idxAddrA 8 1 (.t 8) (.t 49)⟩, ⟨some 51, some (48, false), .load1 (.t 50)⟩, ⟨some 52, some (43, true), .pick (.t 48) (.c (.bool true)) (.t 51)⟩, ⟨some 53, none, .pick (.t 43) (.t 52) (.c (.bool false))⟩, ⟨some 11, none, .mov (.t 53)⟩])) <|
    .ops [⟨some 54, none, .bin .num .add (.t 39) (.c (.int .i64 1))⟩, ⟨some 39, none, .mov (.t 54)⟩]))) <|
  .seq (.ops [⟨some 55, none, .loadN 8 (.t 7)⟩, ⟨some 56, none, .call 14 [(.t 55)]⟩, ⟨some 14, none, .mov (.t 56)⟩]) <|
  .seq (.ops [⟨some 58, none, .mov (.t 0)⟩, ⟨some 59, none, .call 16 [(.t 58)]⟩, ⟨some 57, none, .mov (.t 59)⟩, ⟨some 60, none, .extract 0 (.t 57)⟩, ⟨some 61, none, .extract 1 (.t 57)⟩, ⟨some 15, none, .mov (.t 60)⟩, ⟨some 16, none, .mov (.t 61)⟩]) <|
  .seq (.ops [⟨some 17, none, .mov (.c (.int .i64 0))⟩]) <|
  .seq (.seq (.ops [⟨some 62, none, .mov (.t 14)⟩, ⟨some 63, none, .lenS (.t 62)⟩, ⟨some 64, none, .bin .num .gtr (.t 63) (.c (.int .i64 0))⟩]) <|
  .cond (.t 64) (.ops [⟨some 65, none, .mov (.t 14)⟩, ⟨some 66, none, .idxAddrS 1 (.t 65) (.c (.int .i64 0))⟩, ⟨some 67, none, .load1 (.t 66)⟩, ⟨some 17, none, .mov (.t 67)⟩]) (.skip)) <|
  .seq (.ops [⟨some 68, none, .mov (.t 0)⟩, ⟨some 69, none, .mov (.t 2)⟩, ⟨some 70, none, .call 17 [(.t 68), (.t 69)]⟩, ⟨some 71, none, .mov (.t 12)⟩, ⟨some 72, none, .bin .bool .eql (.t 70) (.t 71)⟩, ⟨some 73, none, .mov (.t 72)⟩, ⟨some 74, some (73, true), .mov (.t 0)⟩, ⟨some 75, some (73, true), .mov (.t 2)⟩, ⟨some 76, some (73, true), .call 18 [(.t 74), (.t 75)]⟩, ⟨some 77, some (73, true), .loadN 8 (.t 9)⟩, ⟨some 78, some (73, true), .call 10 [(.t 77)]⟩, ⟨some 79, some (73, true), .bin .num .eql (.t 76) (.t 78)⟩, ⟨some 80, none, .pick (.t 73) (.t 79) (.c (.bool false))⟩, ⟨some 81, none, .mov (.t 80)⟩, ⟨some 82, some (81, true), .mov (.t 0)⟩, ⟨some 83, some (81, true), .mov (.t 2)⟩, ⟨some 84, some (81, true), .call 19 [(.t 82), (.t 83)]⟩, ⟨some 85, some (81, true), .loadN 8 (.t 10)⟩, ⟨some 86, some (81, true), .call 10 [(.t 85)]⟩, ⟨some 87, some (81, true), .bin .num .eql (.t 84) (.t 86)⟩, ⟨some 88, none, .pick (.t 81) (.t 87) (.c (.bool false))⟩, ⟨some 89, none, .mov (.t 88)⟩, ⟨some 90, some (89, true), .mov (.t 0)⟩, ⟨some 91, some (89, true), .call 20 [(.t 90)]⟩, ⟨some 92, some (89, true), .mov (.t 14)⟩, ⟨some 93, some (89, true), .lenS (.t 92)⟩, ⟨some 94, some (89, true), .bin .num .eql (.t 91) (.t 93)⟩, ⟨some 95, none, .pick (.t 89) (.t 94) (.c (.bool false))⟩, ⟨some 96, none, .mov (.t 95)⟩, ⟨some 97, some (96, true), .mov (.t 16)⟩, ⟨some 98, some (96, true), .mov (.t 14)⟩, ⟨some 99, some (96, true), .lenS (.t 98)⟩, ⟨some 100, some (96, true), .bin .num .gtr (.t 99) (.c (.int .i64 0))⟩, ⟨some 101, some (96, true), .bin .bool .eql (.t 97) (.t 100)⟩, ⟨some 102, none, .pick (.t 96) (.t 101) (.c (.bool false))⟩, ⟨some 103, none, .mov (.t 102)⟩, ⟨some 104, some (103, true), .mov (.t 15)⟩, ⟨some 105, some (103, true), .mov (.t 17)⟩, ⟨some 106, some (103, true), .bin .num .eql (.t 104) (.t 105)⟩, ⟨some 107, none, .pick (.t 103) (.t 106) (.c (.bool false))⟩, ⟨some 108, none, .mov (.t 107)⟩, ⟨some 109, some (108, true), .mov (.t 0)⟩, ⟨some 110, some (108, true), .mov (.t 1)⟩, ⟨some 111, some (108, true), .call 21 [(.t 109), (.t 110)]⟩, ⟨some 112, some (108, true), .mov (.t 11)⟩, ⟨some 113, some (108, true), .bin .bool .eql (.t 111) (.t 112)⟩, ⟨some 114, none, .pick (.t 108) (.t 113) (.c (.bool false))⟩, ⟨some 115, none, .mov (.t 114)⟩, ⟨some 116, some (115, true), .mov (.t 0)⟩, ⟨some 117, some (115, true), .mov (.t 1)⟩, ⟨some 118, some (115, true), .call 22 [(.t 116), (.t 117)]⟩, ⟨some 119, some (115, true), .mov (.t 0)⟩, ⟨some 120, some (115, true), .mov (.t 1)⟩, ⟨some 121, some (115, true), .call 23 [(.t 119), (.t 120)]⟩, ⟨some 122, some (115, true), .bin .bool .eql (.t 118) (.t 121)⟩, ⟨some 123, none, .pick (.t 115) (.t 122) (.c (.bool false))⟩, ⟨some 124, none, .mov (.t 123)⟩, ⟨some 125, some (124, true), .mov (.t 0)⟩, ⟨some 126, some (124, true), .call 13 [(.t 125), (.c (.int .i64 9))]⟩, ⟨some 127, some (124, true), .mov (.t 14)⟩, ⟨some 128, some (124, true), .call 11 [(.t 126), (.t 127)]⟩, ⟨some 129, none, .pick (.t 124) (.t 128) (.c (.bool false))⟩, ⟨some 130, none, .mov (.t 129)⟩, ⟨some 131, some (130, true), .mov (.t 0)⟩, ⟨some 132, some (130, true), .call 24 [(.t 131)]⟩, ⟨some 133, some (130, true), .mov (.t 0)⟩, ⟨some 134, some (130, true), .call 25 [(.t 133)]⟩, ⟨some 135, some (130, true), .bin .num .eql (.t 132) (.t 134)⟩, ⟨some 136, none, .pick (.t 130) (.t 135) (.c (.bool false))⟩, ⟨some 6, none, .mov (.t 136)⟩]) <|
  .ret
def v4 : VFunc := ⟨137, [.tmp 6], c4⟩
/-- berthing/berthinglaw07.MaskOnce -/
def c5 : VCode :=
  .seq (.ops [⟨some 6, none, .mov (.c (.bool false))⟩]) <|
  .seq (.seq (.ops [⟨some 11, none, .call 7 []⟩, ⟨some 12, none, .un .not (.t 11)⟩]) <|
  .cond (.t 12) (.seq (.ops [⟨some 6, none, .mov (.c (.bool false))⟩]) <|
   .ret) (.skip)) <|
  .seq (.ops [⟨some 13, none, .mov (.t 0)⟩, ⟨some 14, none, .call 12 [(.t 13), (.c (.int .i64 300))]⟩, ⟨some 7, none, .mov (.t 14)⟩]) <|
  .seq (.ops [⟨some 15, none, .mov (.t 0)⟩, ⟨some 16, none, .minmax false [(.t 15), (.c (.int .i64 8))]⟩, ⟨some 17, none, .minmax true [(.c (.int .i64 0)), (.t 16)]⟩, ⟨some 8, none, .mov (.t 17)⟩]) <|
  .seq (.seq (.ops [⟨some 18, none, .mov (.t 7)⟩, ⟨some 19, none, .lenS (.t 18)⟩, ⟨some 20, none, .mov (.t 8)⟩, ⟨some 21, none, .bin .num .shl (.c (.int .i64 1)) (.t 20)⟩, ⟨some 22, none, .bin .num .sub (.t 21) (.c (.int .i64 1))⟩, ⟨some 23, none, .bin .num .neq (.t 19) (.t 22)⟩]) <|
  .cond (.t 23) (.seq (.ops [⟨some 6, none, .mov (.c (.bool false))⟩]) <|
   .ret) (.skip)) <|
  .seq (.seq (.ops [⟨some 24, none, .mov (.t 7)⟩, ⟨some 25, none, .lenS (.t 24)⟩, ⟨some 26, none, .mov (.c (.int .i64 0))⟩]) <|
  .block 0 (.loop (.seq (.ops [⟨some 27, none, .bin .num .lss (.t 26) (.t 25)⟩]) <|
    .seq (.cond (.t 27) (.skip) (.exit 0)) <|
    .seq (.block 1 (.seq (.ops [⟨some 28, none, .mov (.t 26)⟩, ⟨some 29, none, .idxAddrS 1 (.t 24) (.t 26)⟩, ⟨some 30, none, .load1 (.t 29)⟩, ⟨some 9, none, .mov (.t 28)⟩, ⟨some 10, none, .mov (.t 30)⟩]) <|
     .seq (.ops [⟨some 31, none, .mov (.t 10)⟩, ⟨some 32, none, .bin .num .lss (.t 31) (.c (.int .i64 1))⟩, ⟨some 33, none, .mov (.t 32)⟩, ⟨some 34, some (33, false), .mov (.t 10)⟩, ⟨some 35, some (33, false), .mov (.t 8)⟩, ⟨some 36, some (33, false), .bin .num .shl (.c (.int .i64 1)) (.t 35)⟩, ⟨some 37, some (33, false), .bin .num .geq (.t 34) (.t 36)⟩, ⟨some 38, none, .pick (.t 33) (.c (.bool true)) (.t 37)⟩, ⟨some 39, none, .mov (.t 38)⟩, ⟨some 40, some (39, false), .mov (.t 9)⟩, ⟨some 41, some (39, false), .bin .num .gtr (.t 40) (.c (.int .i64 0))⟩, ⟨some 42, some (39, false), .mov (.t 41)⟩, ⟨some 43, some (42, true), .mov (.t 7)⟩, ⟨some 44, some (42, true), .mov (.t 9)⟩, ⟨some 45, some (42, true), .bin .num .sub (.t 44) (.c (.int .i64 1))⟩, ⟨some 46, some (42, true), .idxAddrS 1 (.t 43) (.t 45)⟩, ⟨some 47, some (42, true), .load1 (.t 46)⟩, ⟨some 48, some (42, true), .mov (.t 10)⟩, ⟨some 49, some (42, true), .call 22 [(.t 47), (.t 48)]⟩, ⟨some 50, some (42, true), .un .not (.t 49)⟩, ⟨some 51, some (39, false), .pick (.t 42) (.t 50) (.c (.bool false))⟩, ⟨some 52, none, .pick (.t 39) (.c (.bool true)) (.t 51)⟩]) <|
     .cond (.t 52) (.seq (.ops [⟨some 6, none, .mov (.c (.bool false))⟩]) <|
      .ret) (.skip))) <|
    .ops [⟨some 53, none, .bin .num .add (.t 26) (.c (.int .i64 1))⟩, ⟨some 26, none, .mov (.t 53)⟩]))) <|
  .seq (.ops [⟨some 54, none, .mov (.t 1)⟩, ⟨some 55, none, .mov (.t 2)⟩, ⟨some 56, none, .call 19 [(.t 54), (.t 55)]⟩, ⟨some 57, none, .mov (.t 2)⟩, ⟨some 58, none, .call 17 [(.t 56), (.t 57)]⟩, ⟨some 59, none, .un .not (.t 58)⟩, ⟨some 60, none, .mov (.t 59)⟩, ⟨some 61, some (60, true), .mov (.t 1)⟩, ⟨some 62, some (60, true), .mov (.t 2)⟩, ⟨some 63, some (60, true), .call 18 [(.t 61), (.t 62)]⟩, ⟨some 64, some (60, true), .mov (.t 2)⟩, ⟨some 65, some (60, true), .call 17 [(.t 63), (.t 64)]⟩, ⟨some 66, some (60, true), .mov (.t 2)⟩, ⟨some 67, some (60, true), .bin .num .geq (.t 66) (.c (.int .i64 0))⟩, ⟨some 68, some (60, true), .mov (.t 67)⟩, ⟨some 69, some (68, true), .mov (.t 2)⟩, ⟨some 70, some (68, true), .bin .num .lss (.t 69) (.c (.int .i64 8))⟩, ⟨some 71, some (60, true), .pick (.t 68) (.t 70) (.c (.bool false))⟩, ⟨some 72, some (60, true), .bin .bool .eql (.t 65) (.t 71)⟩, ⟨some 73, none, .pick (.t 60) (.t 72) (.c (.bool false))⟩, ⟨some 6, none, .mov (.t 73)⟩]) <|
  .ret
def v5 : VFunc := ⟨74, [.tmp 6], c5⟩
/-- berthing/berthinglaw07.MaskParts -/
def c6 : VCode :=
  .seq (.ops [⟨some 4, none, .mov (.c (.bool false))⟩]) <|
  .seq (.seq (.ops [⟨some 11, none, .call 7 []⟩, ⟨some 12, none, .un .not (.t 11)⟩]) <|
  .cond (.t 12) (.seq (.ops [⟨some 4, none, .mov (.c (.bool false))⟩]) <|
   .ret) (.skip)) <|
  .seq (.ops [⟨some 13, none, .mov (.t 0)⟩, ⟨some 14, none, .conv .i64 (.t 13)⟩, ⟨some 15, none, .mov (.t 1)⟩, ⟨some 16, none, .bin .num .rem (.t 15) (.c (.int .u8 8))⟩, ⟨some 17, none, .conv .i64 (.t 16)⟩, ⟨some 5, none, .mov (.t 14)⟩, ⟨some 6, none, .mov (.t 17)⟩]) <|
  .seq (.ops [⟨some 18, none, .mov (.t 5)⟩, ⟨some 19, none, .mov (.t 6)⟩, ⟨some 20, none, .call 18 [(.t 18), (.t 19)]⟩, ⟨some 21, none, .mov (.t 5)⟩, ⟨some 22, none, .mov (.t 6)⟩, ⟨some 23, none, .call 19 [(.t 21), (.t 22)]⟩, ⟨some 7, none, .mov (.t 20)⟩, ⟨some 8, none, .mov (.t 23)⟩]) <|
  .seq (.seq (.ops [⟨some 24, none, .mov (.t 7)⟩, ⟨some 25, none, .mov (.t 6)⟩, ⟨some 26, none, .call 17 [(.t 24), (.t 25)]⟩, ⟨some 27, none, .un .not (.t 26)⟩, ⟨some 28, none, .mov (.t 27)⟩, ⟨some 29, some (28, false), .mov (.t 8)⟩, ⟨some 30, some (28, false), .mov (.t 6)⟩, ⟨some 31, some (28, false), .call 17 [(.t 29), (.t 30)]⟩, ⟨some 32, none, .pick (.t 28) (.c (.bool true)) (.t 31)⟩, ⟨some 33, none, .mov (.t 32)⟩, ⟨some 34, some (33, false), .mov (.t 7)⟩, ⟨some 35, some (33, false), .call 20 [(.t 34)]⟩, ⟨some 36, some (33, false), .mov (.t 8)⟩, ⟨some 37, some (33, false), .call 20 [(.t 36)]⟩, ⟨some 38, some (33, false), .bin .num .add (.t 37) (.c (.int .i64 1))⟩, ⟨some 39, some (33, false), .bin .num .neq (.t 35) (.t 38)⟩, ⟨some 40, none, .pick (.t 33) (.c (.bool true)) (.t 39)⟩, ⟨some 41, none, .mov (.t 40)⟩, ⟨some 42, some (41, false), .mov (.t 8)⟩, ⟨some 43, some (41, false), .mov (.t 5)⟩, ⟨some 44, some (41, false), .call 21 [(.t 42), (.t 43)]⟩, ⟨some 45, some (41, false), .un .not (.t 44)⟩, ⟨some 46, none, .pick (.t 41) (.c (.bool true)) (.t 45)⟩, ⟨some 47, none, .mov (.t 46)⟩, ⟨some 48, some (47, false), .mov (.t 5)⟩, ⟨some 49, some (47, false), .mov (.t 7)⟩, ⟨some 50, some (47, false), .call 21 [(.t 48), (.t 49)]⟩, ⟨some 51, some (47, false), .un .not (.t 50)⟩, ⟨some 52, none, .pick (.t 47) (.c (.bool true)) (.t 51)⟩, ⟨some 53, none, .mov (.t 52)⟩, ⟨some 54, some (53, false), .mov (.t 7)⟩, ⟨some 55, some (53, false), .mov (.t 5)⟩, ⟨some 56, some (53, false), .bin .num .eql (.t 54) (.t 55)⟩, ⟨some 57, some (53, false), .mov (.t 8)⟩, ⟨some 58, some (53, false), .mov (.t 5)⟩, ⟨some 59, some (53, false), .bin .num .eql (.t 57) (.t 58)⟩, ⟨some 60, some (53, false), .bin .bool .eql (.t 56) (.t 59)⟩, ⟨some 61, none, .pick (.t 53) (.c (.bool true)) (.t 60)⟩]) <|
  .cond (.t 61) (.seq (.ops [⟨some 4, none, .mov (.c (.bool false))⟩]) <|
   .ret) (.skip)) <|
  .seq (.ops [⟨some 9, none, .alloc [(.sl .nil 0 [])]⟩]) <|
  .seq (.seq (.ops [⟨some 62, none, .mov (.t 5)⟩, ⟨some 63, none, .call 26 [(.t 62)]⟩]) <|
  .block 0 (.rangeFunc (.t 63) [64] (.ops [⟨some 10, none, .mov (.t 64)⟩]) (.block 1 (.ops [⟨some 65, none, .load1 (.t 9)⟩, ⟨some 66, none, .mov (.t 10)⟩, ⟨some 67, none, .buildSlice false 1 1 [(.int .i64 0)] [(0, 1, (.t 66))]⟩, ⟨some 68, none, .append false false 1 8 (.t 65) (.t 67)⟩, ⟨none, none, .store1 (.t 9) (.t 68)⟩])))) <|
  .seq (.ops [⟨some 69, none, .load1 (.t 9)⟩, ⟨some 70, none, .call 9 [(.t 69)]⟩, ⟨some 71, none, .mov (.t 5)⟩, ⟨some 72, none, .bin .num .eql (.t 70) (.t 71)⟩, ⟨some 73, none, .mov (.t 72)⟩, ⟨some 74, some (73, true), .load1 (.t 9)⟩, ⟨some 75, some (73, true), .lenS (.t 74)⟩, ⟨some 76, some (73, true), .mov (.t 5)⟩, ⟨some 77, some (73, true), .call 20 [(.t 76)]⟩, ⟨some 78, some (73, true), .bin .num .eql (.t 75) (.t 77)⟩, ⟨some 79, none, .pick (.t 73) (.t 78) (.c (.bool false))⟩, ⟨some 80, none, .mov (.t 79)⟩, ⟨some 81, some (80, true), .mov (.t 8)⟩, ⟨some 82, some (80, true), .mov (.t 7)⟩, ⟨some 83, some (80, true), .bin .num .eql (.t 81) (.t 82)⟩, ⟨some 84, some (80, true), .mov (.t 83)⟩, ⟨some 85, some (84, false), .mov (.t 8)⟩, ⟨some 86, some (84, false), .mov (.t 7)⟩, ⟨some 87, some (84, false), .call 22 [(.t 85), (.t 86)]⟩, ⟨some 88, some (80, true), .pick (.t 84) (.c (.bool true)) (.t 87)⟩, ⟨some 89, none, .pick (.t 80) (.t 88) (.c (.bool false))⟩, ⟨some 4, none, .mov (.t 89)⟩]) <|
  .ret
def v6 : VFunc := ⟨90, [.tmp 4], c6⟩
/-- berthing/berthinglaw07.first -/
def c7 : VCode :=
  .seq (.ops [⟨some 0, none, .mov (.c (.bool false))⟩]) <|
  .seq (.ops [⟨some 4, none, .call 12 [(.c (.int .i64 2)), (.c (.int .i64 9))]⟩, ⟨some 1, none, .mov (.t 4)⟩]) <|
  .seq (.ops [⟨some 6, none, .call 16 [(.c (.int .i64 6))]⟩, ⟨some 5, none, .mov (.t 6)⟩, ⟨some 7, none, .extract 0 (.t 5)⟩, ⟨some 8, none, .extract 1 (.t 5)⟩, ⟨some 2, none, .mov (.t 7)⟩, ⟨some 3, none, .mov (.t 8)⟩]) <|
  .seq (.ops [⟨some 9, none, .mov (.t 1)⟩, ⟨some 10, none, .lenS (.t 9)⟩, ⟨some 11, none, .bin .num .eql (.t 10) (.c (.int .i64 3))⟩, ⟨some 12, none, .mov (.t 11)⟩, ⟨some 13, some (12, true), .mov (.t 1)⟩, ⟨some 14, some (12, true), .idxAddrS 1 (.t 13) (.c (.int .i64 0))⟩, ⟨some 15, some (12, true), .load1 (.t 14)⟩, ⟨some 16, some (12, true), .bin .num .eql (.t 15) (.c (.int .i64 1))⟩, ⟨some 17, none, .pick (.t 12) (.t 16) (.c (.bool false))⟩, ⟨some 18, none, .mov (.t 17)⟩, ⟨some 19, some (18, true), .mov (.t 1)⟩, ⟨some 20, some (18, true), .idxAddrS 1 (.t 19) (.c (.int .i64 1))⟩, ⟨some 21, some (18, true), .load1 (.t 20)⟩, ⟨some 22, some (18, true), .bin .num .eql (.t 21) (.c (.int .i64 2))⟩, ⟨some 23, none, .pick (.t 18) (.t 22) (.c (.bool false))⟩, ⟨some 24, none, .mov (.t 23)⟩, ⟨some 25, some (24, true), .mov (.t 1)⟩, ⟨some 26, some (24, true), .idxAddrS 1 (.t 25) (.c (.int .i64 2))⟩, ⟨some 27, some (24, true), .load1 (.t 26)⟩, ⟨some 28, some (24, true), .bin .num .eql (.t 27) (.c (.int .i64 3))⟩, ⟨some 29, none, .pick (.t 24) (.t 28) (.c (.bool false))⟩, ⟨some 30, none, .mov (.t 29)⟩, ⟨some 31, some (30, true), .buildSlice false 1 3 [(.int .i64 0), (.int .i64 0), (.int .i64 0)] [(0, 1, (.c (.int .i64 1))), (1, 1, (.c (.int .i64 2))), (2, 1, (.c (.int .i64 9)))]⟩, ⟨some 32, some (30, true), .call 9 [(.t 31)]⟩, ⟨some 33, some (30, true), .bin .num .eql (.t 32) (.c (.int .i64 6))⟩, ⟨some 34, none, .pick (.t 30) (.t 33) (.c (.bool false))⟩, ⟨some 35, none, .mov (.t 34)⟩, ⟨some 36, some (35, true), .mov (.t 2)⟩, ⟨some 37, some (35, true), .bin .num .eql (.t 36) (.c (.int .i64 1))⟩, ⟨some 38, none, .pick (.t 35) (.t 37) (.c (.bool false))⟩, ⟨some 39, none, .mov (.t 38)⟩, ⟨some 40, some (39, true), .mov (.t 3)⟩, ⟨some 41, none, .pick (.t 39) (.t 40) (.c (.bool false))⟩, ⟨some 42, none, .mov (.t 41)⟩, ⟨some 43, some (42, true), .call 20 [(.c (.int .i64 255))]⟩, ⟨some 44, some (42, true), .bin .num .eql (.t 43) (.c (.int .i64 8))⟩, ⟨some 45, none, .pick (.t 42) (.t 44) (.c (.bool false))⟩, ⟨some 46, none, .mov (.t 45)⟩, ⟨some 47, some (46, true), .call 24 [(.c (.int .i64 6))]⟩, ⟨some 48, some (46, true), .bin .num .eql (.t 47) (.c (.str ⟨#[49, 44, 50]⟩))⟩, ⟨some 49, none, .pick (.t 46) (.t 48) (.c (.bool false))⟩, ⟨some 50, none, .mov (.t 49)⟩, ⟨some 51, some (50, true), .call 21 [(.c (.int .i64 2)), (.c (.int .i64 6))]⟩, ⟨some 52, none, .pick (.t 50) (.t 51) (.c (.bool false))⟩, ⟨some 53, none, .mov (.t 52)⟩, ⟨some 54, some (53, true), .call 22 [(.c (.int .i64 4)), (.c (.int .i64 3))]⟩, ⟨some 55, none, .pick (.t 53) (.t 54) (.c (.bool false))⟩, ⟨some 56, none, .mov (.t 55)⟩, ⟨some 57, some (56, true), .call 13 [(.c (.int .i64 5)), (.c (.int .i64 9))]⟩, ⟨some 58, some (56, true), .lenS (.t 57)⟩, ⟨some 59, some (56, true), .bin .num .eql (.t 58) (.c (.int .i64 2))⟩, ⟨some 60, none, .pick (.t 56) (.t 59) (.c (.bool false))⟩, ⟨some 0, none, .mov (.t 60)⟩]) <|
  .ret
def v7 : VFunc := ⟨61, [.tmp 0], c7⟩
/-- berthing/berthingref07.Masks -/
def c8 : VCode :=
  .seq (.ops [⟨some 2, none, .mov (.c (.sl .nil 0 []))⟩]) <|
  .seq (.ops [⟨some 3, none, .mov (.c (.int .i64 1))⟩]) <|
  .seq (.seq (.ops [⟨some 4, none, .mov (.c (.int .i64 0))⟩]) <|
  .block 0 (.loop (.seq (.seq (.ops [⟨some 9, none, .mov (.t 4)⟩, ⟨some 10, none, .mov (.t 0)⟩, ⟨some 11, none, .bin .num .lss (.t 9) (.t 10)⟩]) <|
    .cond (.t 11) (.skip) (.exit 0)) <|
    .seq (.block 1 (.ops [⟨some 14, none, .mov (.t 3)⟩, ⟨some 15, none, .bin .num .mul (.t 14) (.c (.int .i64 2))⟩, ⟨some 3, none, .mov (.t 15)⟩])) <|
    .ops [⟨some 12, none, .mov (.t 4)⟩, ⟨some 13, none, .bin .num .add (.t 12) (.c (.int .i64 1))⟩, ⟨some 4, none, .mov (.t 13)⟩]))) <|
  .seq (.ops [⟨some 5, none, .mov (.c (.sl .nil 0 []))⟩]) <|
  .seq (.seq (.ops [⟨some 6, none, .mov (.c (.int .i64 1))⟩]) <|
  .block 2 (.loop (.seq (.seq (.ops [⟨some 16, none, .mov (.t 6)⟩, ⟨some 17, none, .mov (.t 3)⟩, ⟨some 18, none, .bin .num .lss (.t 16) (.t 17)⟩]) <|
    .cond (.t 18) (.skip) (.exit 2)) <|
    .seq (.block 3 (.seq (.ops [⟨some 21, none, .mov (.t 5)⟩, ⟨some 22, none, .lenS (.t 21)⟩, ⟨some 7, none, .mov (.t 22)⟩]) <|
     .seq (.block 4 (.loop (.seq (.seq (.ops [⟨some 23, none, .mov (.t 7)⟩, ⟨some 24, none, .bin .num .gtr (.t 23) (.c (.int .i64 0))⟩, ⟨some 25, none, .mov (.t 24)⟩, ⟨some 26, some (25, true), .mov (.t 6)⟩, ⟨some 27, some (25, true), .mov (.t 5)⟩, ⟨some 28, some (25, true), .mov (.t 7)⟩, ⟨some 29, some (25, true), .bin .num .sub (.t 28) (.c (.int .i64 1))⟩, ⟨some 30, some (25, true), .idxAddrS 1 (.t 27) (.t 29)⟩, ⟨some 31, some (25, true), .load1 (.t 30)⟩, ⟨some 32, some (25, true), .call 23 [(.t 26), (.t 31)]⟩, ⟨some 33, none, .pick (.t 25) (.t 32) (.c (.bool false))⟩]) <|
       .cond (.t 33) (.skip) (.exit 4)) <|
       .block 5 (.ops [⟨some 34, none, .mov (.t 7)⟩, ⟨some 35, none, .bin .num .sub (.t 34) (.c (.int .i64 1))⟩, ⟨some 7, none, .mov (.t 35)⟩])))) <|
     .seq (.ops [⟨some 36, none, .mov (.t 6)⟩, ⟨some 37, none, .buildSlice false 1 1 [(.int .i64 0)] [(0, 1, (.t 36))]⟩, ⟨some 38, none, .mov (.t 5)⟩, ⟨some 39, none, .mov (.t 7)⟩, ⟨some 40, none, .sliceS 1 (.t 38) (some (.t 39)) none none⟩, ⟨some 41, none, .append false false 1 8 (.t 37) (.t 40)⟩, ⟨some 8, none, .mov (.t 41)⟩]) <|
     .ops [⟨some 42, none, .buildSlice false 1 0 [] []⟩, ⟨some 43, none, .mov (.t 5)⟩, ⟨some 44, none, .mov (.t 7)⟩, ⟨some 45, none, .sliceS 1 (.t 43) none (some (.t 44)) none⟩, ⟨some 46, none, .append false false 1 8 (.t 42) (.t 45)⟩, ⟨some 47, none, .mov (.t 8)⟩, ⟨some 48, none, .append false false 1 8 (.t 46) (.t 47)⟩, ⟨some 5, none, .mov (.t 48)⟩])) <|
    .ops [⟨some 19, none, .mov (.t 6)⟩, ⟨some 20, none, .bin .num .add (.t 19) (.c (.int .i64 1))⟩, ⟨some 6, none, .mov (.t 20)⟩]))) <|
  .seq (.ops [⟨some 49, none, .mov (.t 5)⟩, ⟨some 2, none, .mov (.t 49)⟩]) <|
  .ret
def v8 : VFunc := ⟨50, [.tmp 2], c8⟩
/-- berthing/mask.Of -/
def c9 : VCode :=
  .seq (.ops [⟨some 2, none, .mov (.c (.int .i64 0))⟩]) <|
  .seq (.ops [⟨some 3, none, .mov (.c (.int .u8 0))⟩]) <|
  .seq (.seq (.ops [⟨some 6, none, .mov (.t 0)⟩, ⟨some 7, none, .lenS (.t 6)⟩, ⟨some 8, none, .mov (.c (.int .i64 0))⟩]) <|
  .block 0 (.loop (.seq (.ops [⟨some 9, none, .bin .num .lss (.t 8) (.t 7)⟩]) <|
    .seq (.cond (.t 9) (.skip) (.exit 0)) <|
    .seq (.block 1 (.seq (.ops [⟨some 10, none, .idxAddrS 1 (.t 6) (.t 8)⟩, ⟨some 11, none, .load1 (.t 10)⟩, ⟨some 5, none, .mov (.t 11)⟩]) <|
     .ops [⟨some 12, none, .mov (.t 3)⟩, ⟨some 13, none, .mov (.t 5)⟩, ⟨some 14, none, .call 27 [(.t 13)]⟩, ⟨some 15, none, .bin .num .or (.t 12) (.t 14)⟩, ⟨some 3, none, .mov (.t 15)⟩])) <|
    .ops [⟨some 16, none, .bin .num .add (.t 8) (.c (.int .i64 1))⟩, ⟨some 8, none, .mov (.t 16)⟩]))) <|
  .seq (.ops [⟨some 17, none, .mov (.t 3)⟩, ⟨some 18, none, .conv .i64 (.t 17)⟩, ⟨some 2, none, .mov (.t 18)⟩]) <|
  .ret
def v9 : VFunc := ⟨19, [.tmp 2], c9⟩
/-- (berthing/berthingref07.Set).Mask -/
def c10 : VCode :=
  .seq (.ops [⟨some 1, none, .box (.t 0)⟩, ⟨some 2, none, .mov (.c (.int .i64 0))⟩]) <|
  .seq (.ops [⟨some 3, none, .mov (.c (.int .i64 0))⟩]) <|
  .seq (.seq (.ops [⟨some 4, none, .mov (.c (.int .i64 7))⟩]) <|
  .block 0 (.loop (.seq (.seq (.ops [⟨some 5, none, .mov (.t 4)⟩, ⟨some 6, none, .bin .num .geq (.t 5) (.c (.int .i64 0))⟩]) <|
    .cond (.t 6) (.skip) (.exit 0)) <|
    .seq (.block 1 (.seq (.ops [⟨some 9, none, .mov (.t 3)⟩, ⟨some 10, none, .bin .num .mul (.t 9) (.c (.int .i64 2))⟩, ⟨some 3, none, .mov (.t 10)⟩]) <|
     .seq (.ops [⟨some 11, none, .mov (.t 4)⟩, ⟨some 12, none, .idxAddrA 8 1 (.t 1) (.t 11)⟩, ⟨some 13, none, .load1 (.t 12)⟩]) <|
     .cond (.t 13) (.ops [⟨some 14, none, .mov (.t 3)⟩, ⟨some 15, none, .bin .num .add (.t 14) (.c (.int .i64 1))⟩, ⟨some 3, none, .mov (.t 15)⟩]) (.skip))) <|
    .ops [⟨some 7, none, .mov (.t 4)⟩, ⟨some 8, none, .bin .num .sub (.t 7) (.c (.int .i64 1))⟩, ⟨some 4, none, .mov (.t 8)⟩]))) <|
  .seq (.ops [⟨some 16, none, .mov (.t 3)⟩, ⟨some 2, none, .mov (.t 16)⟩]) <|
  .ret
def v10 : VFunc := ⟨17, [.tmp 2], c10⟩
/-- berthing/berthinglaw07.same -/
def c11 : VCode :=
  .seq (.ops [⟨some 4, none, .mov (.c (.bool false))⟩]) <|
  .seq (.seq (.ops [⟨some 6, none, .mov (.t 0)⟩, ⟨some 7, none, .lenS (.t 6)⟩, ⟨some 8, none, .mov (.t 1)⟩, ⟨some 9, none, .lenS (.t 8)⟩, ⟨some 10, none, .bin .num .neq (.t 7) (.t 9)⟩]) <|
  .cond (.t 10) (.seq (.ops [⟨some 4, none, .mov (.c (.bool false))⟩]) <|
   .ret) (.skip)) <|
  .seq (.seq (.ops [⟨some 11, none, .mov (.t 0)⟩, ⟨some 12, none, .lenS (.t 11)⟩, ⟨some 13, none, .mov (.c (.int .i64 0))⟩]) <|
  .block 0 (.loop (.seq (.ops [⟨some 14, none, .bin .num .lss (.t 13) (.t 12)⟩]) <|
    .seq (.cond (.t 14) (.skip) (.exit 0)) <|
    .seq (.block 1 (.seq (.ops [⟨some 15, none, .mov (.t 13)⟩, ⟨some 5, none, .mov (.t 15)⟩]) <|
     .seq (.ops [⟨some 16, none, .mov (.t 0)⟩, ⟨some 17, none, .mov (.t 5)⟩, ⟨some 18, none, .idxAddrS 1 (.t 16) (.t 17)⟩, ⟨some 19, none, .load1 (.t 18)⟩, ⟨some 20, none, .mov (.t 1)⟩, ⟨some 21, none, .mov (.t 5)⟩, ⟨some 22, none, .idxAddrS 1 (.t 20) (.t 21)⟩, ⟨some 23, none, .load1 (.t 22)⟩, ⟨some 24, none, .bin .num .neq (.t 19) (.t 23)⟩]) <|
     .cond (.t 24) (.seq (.ops [⟨some 4, none, .mov (.c (.bool false))⟩]) <|
      .ret) (.skip))) <|
    .ops [⟨some 25, none, .bin .num .add (.t 13) (.c (.int .i64 1))⟩, ⟨some 13, none, .mov (.t 25)⟩]))) <|
  .seq (.ops [⟨some 4, none, .mov (.c (.bool true))⟩]) <|
  .ret
def v11 : VFunc := ⟨26, [.tmp 4], c11⟩
/-- berthing/berthinglaw07.masks -/
def c12 : VCode :=
  .seq (.ops [⟨some 3, none, .box (.t 1)⟩, ⟨some 4, none, .mov (.c (.sl .nil 0 []))⟩]) <|
  .seq (.ops [⟨some 5, none, .alloc [(.sl .nil 0 [])]⟩]) <|
  .seq (.ops [⟨some 8, none, .mov (.t 0)⟩, ⟨some 9, none, .call 28 [(.t 8)]⟩, ⟨some 6, none, .mov (.t 9)⟩]) <|
  .seq (.seq (.ops [⟨some 10, none, .mov (.t 6)⟩, ⟨some 11, none, .bin .fn .eql (.t 10) (.c .nilf)⟩]) <|
  .cond (.t 11) (.seq (.ops [⟨some 4, none, .mov (.c (.sl .nil 0 []))⟩]) <|
   .ret) (.skip)) <|
  .seq (.seq (.ops [⟨some 12, none, .mov (.t 6)⟩]) <|
  .block 0 (.rangeFunc (.t 12) [13] (.ops [⟨some 7, none, .mov (.t 13)⟩]) (.block 1 (.seq (.seq (.ops [⟨some 14, none, .load1 (.t 5)⟩, ⟨some 15, none, .lenS (.t 14)⟩, ⟨some 16, none, .load1 (.t 3)⟩, ⟨some 17, none, .bin .num .geq (.t 15) (.t 16)⟩]) <|
     .cond (.t 17) (.exit 0) (.skip)) <|
     .ops [⟨some 18, none, .load1 (.t 5)⟩, ⟨some 19, none, .mov (.t 7)⟩, ⟨some 20, none, .buildSlice false 1 1 [(.int .i64 0)] [(0, 1, (.t 19))]⟩, ⟨some 21, none, .append false false 1 8 (.t 18) (.t 20)⟩, ⟨none, none, .store1 (.t 5) (.t 21)⟩])))) <|
  .seq (.ops [⟨some 22, none, .load1 (.t 5)⟩, ⟨some 4, none, .mov (.t 22)⟩]) <|
  .ret
def v12 : VFunc := ⟨23, [.tmp 4], c12⟩
/-- berthing/berthinglaw07.nodes -/
def c13 : VCode :=
  .seq (.ops [⟨some 3, none, .box (.t 1)⟩, ⟨some 4, none, .mov (.c (.sl .nil 0 []))⟩]) <|
  .seq (.ops [⟨some 5, none, .alloc [(.sl .nil 0 [])]⟩]) <|
  .seq (.seq (.ops [⟨some 7, none, .mov (.t 0)⟩, ⟨some 8, none, .call 26 [(.t 7)]⟩]) <|
  .block 0 (.rangeFunc (.t 8) [9] (.ops [⟨some 6, none, .mov (.t 9)⟩]) (.block 1 (.seq (.seq (.ops [⟨some 10, none, .load1 (.t 5)⟩, ⟨some 11, none, .lenS (.t 10)⟩, ⟨some 12, none, .load1 (.t 3)⟩, ⟨some 13, none, .bin .num .geq (.t 11) (.t 12)⟩]) <|
     .cond (.t 13) (.exit 0) (.skip)) <|
     .ops [⟨some 14, none, .load1 (.t 5)⟩, ⟨some 15, none, .mov (.t 6)⟩, ⟨some 16, none, .buildSlice false 1 1 [(.int .i64 0)] [(0, 1, (.t 15))]⟩, ⟨some 17, none, .append false false 1 8 (.t 14) (.t 16)⟩, ⟨none, none, .store1 (.t 5) (.t 17)⟩])))) <|
  .seq (.ops [⟨some 18, none, .load1 (.t 5)⟩, ⟨some 4, none, .mov (.t 18)⟩]) <|
  .ret
def v13 : VFunc := ⟨19, [.tmp 4], c13⟩
/-- (berthing/berthingref07.Set).Nodes -/
def c14 : VCode :=
  .seq (.ops [⟨some 1, none, .box (.t 0)⟩, ⟨some 2, none, .mov (.c (.sl .nil 0 []))⟩]) <|
  .seq (.ops [⟨some 3, none, .mov (.c (.sl .nil 0 []))⟩]) <|
  .seq (.seq (.ops [⟨some 4, none, .mov (.c (.int .i64 0))⟩]) <|
  .block 0 (.loop (.seq (.seq (.ops [⟨some 5, none, .mov (.t 4)⟩, ⟨some 6, none, .bin .num .lss (.t 5) (.c (.int .i64 8))⟩]) <|
    .cond (.t 6) (.skip) (.exit 0)) <|
    .seq (.block 1 (.seq (.ops [⟨some 9, none, .mov (.t 4)⟩, ⟨some 10, none, .idxAddrA 8 1 (.t 1) (.t 9)⟩, ⟨some 11, none, .load1 (.t 10)⟩]) <|
     .cond (.t 11) (.ops [⟨some 12, none, .mov (.t 3)⟩, ⟨some 13, none, .mov (.t 4)⟩, ⟨some 14, none, .buildSlice false 1 1 [(.int .i64 0)] [(0, 1, (.t 13))]⟩, ⟨some 15, none, .append false false 1 8 (.t 12) (.t 14)⟩, ⟨some 3, none, .mov (.t 15)⟩]) (.skip))) <|
    .ops [⟨some 7, none, .mov (.t 4)⟩, ⟨some 8, none, .bin .num .add (.t 7) (.c (.int .i64 1))⟩, ⟨some 4, none, .mov (.t 8)⟩]))) <|
  .seq (.ops [⟨some 16, none, .mov (.t 3)⟩, ⟨some 2, none, .mov (.t 16)⟩]) <|
  .ret
def v14 : VFunc := ⟨17, [.tmp 2], c14⟩
/-- berthing/berthingref07.Of -/
def c15 : VCode :=
  .seq (.ops [⟨some 2, none, .alloc [(.bool false), (.bool false), (.bool false), (.bool false), (.bool false), (.bool false), (.bool false), (.bool false)]⟩]) <|
  .seq (.ops [⟨some 3, none, .alloc [(.bool false), (.bool false), (.bool false), (.bool false), (.bool false), (.bool false), (.bool false), (.bool false)]⟩]) <|
  .seq (.ops [⟨some 5, none, .mov (.t 0)⟩, ⟨some 6, none, .bin .num .rem (.t 5) (.c (.int .i64 256))⟩, ⟨some 0, none, .mov (.t 6)⟩]) <|
  .seq (.seq (.ops [⟨some 7, none, .mov (.t 0)⟩, ⟨some 8, none, .bin .num .lss (.t 7) (.c (.int .i64 0))⟩]) <|
  .cond (.t 8) (.ops [⟨some 9, none, .mov (.t 0)⟩, ⟨some 10, none, .bin .num .add (.t 9) (.c (.int .i64 256))⟩, ⟨some 0, none, .mov (.t 10)⟩]) (.skip)) <|
  .seq (.seq (.ops [⟨some 4, none, .mov (.c (.int .i64 0))⟩]) <|
  .block 0 (.loop (.seq (.seq (.ops [⟨some 11, none, .mov (.t 4)⟩, ⟨some 12, none, .bin .num .lss (.t 11) (.c (.int .i64 8))⟩]) <|
    .cond (.t 12) (.skip) (.exit 0)) <|
    .seq (.block 1 (.seq (.ops [⟨some 15, none, .mov (.t 4)⟩, ⟨some 16, none, .mov (.t 0)⟩, ⟨some 17, none, .bin .num .rem (.t 16) (.c (.int .i64 2))⟩, ⟨some 18, none, .bin .num .eql (.t 17) (.c (.int .i64 1))⟩, ⟨some 19, none, .idxAddrA 8 1 (.t 3) (.t 15)⟩, ⟨none, none, .store1 (.t 19) (.t 18)⟩]) <|
     .ops [⟨some 20, none, .mov (.t 0)⟩, ⟨some 21, none, .bin .num .quo (.t 20) (.c (.int .i64 2))⟩, ⟨some 0, none, .mov (.t 21)⟩])) <|
    .ops [⟨some 13, none, .mov (.t 4)⟩, ⟨some 14, none, .bin .num .add (.t 13) (.c (.int .i64 1))⟩, ⟨some 4, none, .mov (.t 14)⟩]))) <|
  .seq (.ops [⟨some 22, none, .loadN 8 (.t 3)⟩, ⟨none, none, .storeN 8 (.t 2) (.t 22)⟩]) <|
  .ret
def v15 : VFunc := ⟨23, [.cellN 8 2], c15⟩
/-- berthing/mask.Least -/
def c16 : VCode :=
  .seq (.ops [⟨some 2, none, .mov (.c (.int .i64 0))⟩, ⟨some 3, none, .mov (.c (.bool false))⟩]) <|
  .seq (.ops [⟨some 6, none, .mov (.t 0)⟩, ⟨some 7, none, .conv .u8 (.t 6)⟩, ⟨some 4, none, .mov (.t 7)⟩]) <|
  .seq (.seq (.ops [⟨some 8, none, .mov (.t 4)⟩, ⟨some 9, none, .bin .num .eql (.t 8) (.c (.int .u8 0))⟩]) <|
  .cond (.t 9) (.seq (.ops [⟨some 2, none, .mov (.c (.int .i64 0))⟩, ⟨some 3, none, .mov (.c (.bool false))⟩]) <|
   .ret) (.skip)) <|
  .seq (.ops [⟨some 5, none, .mov (.c (.int .i64 0))⟩]) <|
  .seq (.block 0 (.loop (.seq (.seq (.ops [⟨some 10, none, .mov (.t 4)⟩, ⟨some 11, none, .bin .num .and (.t 10) (.c (.int .u8 1))⟩, ⟨some 12, none, .bin .num .eql (.t 11) (.c (.int .u8 0))⟩]) <|
    .cond (.t 12) (.skip) (.exit 0)) <|
    .block 1 (.seq (.ops [⟨some 13, none, .mov (.t 4)⟩, ⟨some 14, none, .bin .num .shr (.t 13) (.c (.int .u64 1))⟩, ⟨some 4, none, .mov (.t 14)⟩]) <|
     .ops [⟨some 15, none, .mov (.t 5)⟩, ⟨some 16, none, .bin .num .add (.t 15) (.c (.int .i64 1))⟩, ⟨some 5, none, .mov (.t 16)⟩])))) <|
  .seq (.ops [⟨some 17, none, .mov (.t 5)⟩, ⟨some 2, none, .mov (.t 17)⟩, ⟨some 3, none, .mov (.c (.bool true))⟩]) <|
  .ret
def v16 : VFunc := ⟨18, [.tmp 2, .tmp 3], c16⟩
/-- berthing/mask.Has -/
def c17 : VCode :=
  .seq (.ops [⟨some 4, none, .mov (.c (.bool false))⟩]) <|
  .seq (.ops [⟨some 5, none, .mov (.t 0)⟩, ⟨some 6, none, .conv .u8 (.t 5)⟩, ⟨some 7, none, .mov (.t 1)⟩, ⟨some 8, none, .call 27 [(.t 7)]⟩, ⟨some 9, none, .bin .num .and (.t 6) (.t 8)⟩, ⟨some 10, none, .bin .num .neq (.t 9) (.c (.int .u8 0))⟩, ⟨some 4, none, .mov (.t 10)⟩]) <|
  .ret
def v17 : VFunc := ⟨11, [.tmp 4], c17⟩
/-- berthing/mask.With -/
def c18 : VCode :=
  .seq (.ops [⟨some 4, none, .mov (.c (.int .i64 0))⟩]) <|
  .seq (.ops [⟨some 5, none, .mov (.t 0)⟩, ⟨some 6, none, .conv .u8 (.t 5)⟩, ⟨some 7, none, .mov (.t 1)⟩, ⟨some 8, none, .call 27 [(.t 7)]⟩, ⟨some 9, none, .bin .num .or (.t 6) (.t 8)⟩, ⟨some 10, none, .conv .i64 (.t 9)⟩, ⟨some 4, none, .mov (.t 10)⟩]) <|
  .ret
def v18 : VFunc := ⟨11, [.tmp 4], c18⟩
/-- berthing/mask.Without -/
def c19 : VCode :=
  .seq (.ops [⟨some 4, none, .mov (.c (.int .i64 0))⟩]) <|
  .seq (.ops [⟨some 5, none, .mov (.t 0)⟩, ⟨some 6, none, .conv .u8 (.t 5)⟩, ⟨some 7, none, .mov (.t 1)⟩, ⟨some 8, none, .call 27 [(.t 7)]⟩, ⟨some 9, none, .bin .num .andNot (.t 6) (.t 8)⟩, ⟨some 10, none, .conv .i64 (.t 9)⟩, ⟨some 4, none, .mov (.t 10)⟩]) <|
  .ret
def v19 : VFunc := ⟨11, [.tmp 4], c19⟩
/-- berthing/mask.Count -/
def c20 : VCode :=
  .seq (.ops [⟨some 2, none, .mov (.c (.int .i64 0))⟩]) <|
  .seq (.ops [⟨some 3, none, .mov (.c (.int .i64 0))⟩]) <|
  .seq (.seq (.ops [⟨some 5, none, .mov (.t 0)⟩, ⟨some 6, none, .conv .u8 (.t 5)⟩, ⟨some 4, none, .mov (.t 6)⟩]) <|
  .block 0 (.loop (.seq (.seq (.ops [⟨some 7, none, .mov (.t 4)⟩, ⟨some 8, none, .bin .num .neq (.t 7) (.c (.int .u8 0))⟩]) <|
    .cond (.t 8) (.skip) (.exit 0)) <|
    .seq (.block 1 (.ops [⟨some 13, none, .mov (.t 3)⟩, ⟨some 14, none, .bin .num .add (.t 13) (.c (.int .i64 1))⟩, ⟨some 3, none, .mov (.t 14)⟩])) <|
    .ops [⟨some 9, none, .mov (.t 4)⟩, ⟨some 10, none, .mov (.t 4)⟩, ⟨some 11, none, .bin .num .sub (.t 10) (.c (.int .u8 1))⟩, ⟨some 12, none, .bin .num .and (.t 9) (.t 11)⟩, ⟨some 4, none, .mov (.t 12)⟩]))) <|
  .seq (.ops [⟨some 15, none, .mov (.t 3)⟩, ⟨some 2, none, .mov (.t 15)⟩]) <|
  .ret
def v20 : VFunc := ⟨16, [.tmp 2], c20⟩
/-- berthing/mask.Under -/
def c21 : VCode :=
  .seq (.ops [⟨some 4, none, .mov (.c (.bool false))⟩]) <|
  .seq (.ops [⟨some 5, none, .mov (.t 0)⟩, ⟨some 6, none, .conv .u8 (.t 5)⟩, ⟨some 7, none, .mov (.t 1)⟩, ⟨some 8, none, .conv .u8 (.t 7)⟩, ⟨some 9, none, .bin .num .andNot (.t 6) (.t 8)⟩, ⟨some 10, none, .bin .num .eql (.t 9) (.c (.int .u8 0))⟩, ⟨some 4, none, .mov (.t 10)⟩]) <|
  .ret
def v21 : VFunc := ⟨11, [.tmp 4], c21⟩
/-- berthing/mask.Ahead -/
def c22 : VCode :=
  .seq (.ops [⟨some 4, none, .mov (.c (.bool false))⟩]) <|
  .seq (.seq (.ops [⟨some 7, none, .mov (.t 0)⟩, ⟨some 8, none, .call 20 [(.t 7)]⟩, ⟨some 9, none, .mov (.t 1)⟩, ⟨some 10, none, .call 20 [(.t 9)]⟩, ⟨some 5, none, .mov (.t 8)⟩, ⟨some 6, none, .mov (.t 10)⟩]) <|
  .seq (.ops [⟨some 11, none, .mov (.t 5)⟩, ⟨some 12, none, .mov (.t 6)⟩, ⟨some 13, none, .bin .num .neq (.t 11) (.t 12)⟩]) <|
  .cond (.t 13) (.seq (.ops [⟨some 14, none, .mov (.t 5)⟩, ⟨some 15, none, .mov (.t 6)⟩, ⟨some 16, none, .bin .num .lss (.t 14) (.t 15)⟩, ⟨some 4, none, .mov (.t 16)⟩]) <|
   .ret) (.skip)) <|
  .seq (.ops [⟨some 17, none, .mov (.t 0)⟩, ⟨some 18, none, .conv .u8 (.t 17)⟩, ⟨some 19, none, .mov (.t 1)⟩, ⟨some 20, none, .conv .u8 (.t 19)⟩, ⟨some 21, none, .bin .num .lss (.t 18) (.t 20)⟩, ⟨some 4, none, .mov (.t 21)⟩]) <|
  .ret
def v22 : VFunc := ⟨22, [.tmp 4], c22⟩
/-- berthing/berthingref07.Ahead -/
def c23 : VCode :=
  .seq (.ops [⟨some 4, none, .mov (.c (.bool false))⟩]) <|
  .seq (.ops [⟨some 9, none, .mov (.t 0)⟩, ⟨some 10, none, .call 15 [(.t 9)]⟩, ⟨some 11, none, .mov (.t 1)⟩, ⟨some 12, none, .call 15 [(.t 11)]⟩, ⟨some 5, none, .alloc [(.bool false), (.bool false), (.bool false), (.bool false), (.bool false), (.bool false), (.bool false), (.bool false)]⟩, ⟨some 6, none, .alloc [(.bool false), (.bool false), (.bool false), (.bool false), (.bool false), (.bool false), (.bool false), (.bool false)]⟩, ⟨none, none, .storeN 8 (.t 5) (.t 10)⟩, ⟨none, none, .storeN 8 (.t 6) (.t 12)⟩]) <|
  .seq (.ops [⟨some 13, none, .loadN 8 (.t 5)⟩, ⟨some 14, none, .call 14 [(.t 13)]⟩, ⟨some 15, none, .lenS (.t 14)⟩, ⟨some 16, none, .loadN 8 (.t 6)⟩, ⟨some 17, none, .call 14 [(.t 16)]⟩, ⟨some 18, none, .lenS (.t 17)⟩, ⟨some 7, none, .mov (.t 15)⟩, ⟨some 8, none, .mov (.t 18)⟩]) <|
  .seq (.ops [⟨some 19, none, .mov (.t 7)⟩, ⟨some 20, none, .mov (.t 8)⟩, ⟨some 21, none, .bin .num .lss (.t 19) (.t 20)⟩, ⟨some 22, none, .mov (.t 21)⟩, ⟨some 23, some (22, false), .mov (.t 7)⟩, ⟨some 24, some (22, false), .mov (.t 8)⟩, ⟨some 25, some (22, false), .bin .num .eql (.t 23) (.t 24)⟩, ⟨some 26, some (22, false), .mov (.t 25)⟩, ⟨some 27, some (26, true), .loadN 8 (.t 5)⟩, ⟨some 28, some (26, true), .call 10 [(.t 27)]⟩, ⟨some 29, some (26, true), .loadN 8 (.t 6)⟩, ⟨some 30, some (26, true), .call 10 [(.t 29)]⟩, ⟨some 31, some (26, true), .bin .num .lss (.t 28) (.t 30)⟩, ⟨some 32, some (22, false), .pick (.t 26) (.t 31) (.c (.bool false))⟩, ⟨some 33, none, .pick (.t 22) (.c (.bool true)) (.t 32)⟩, ⟨some 4, none, .mov (.t 33)⟩]) <|
  .ret
def v23 : VFunc := ⟨34, [.tmp 4], c23⟩
/-- berthing/mask.Text -/
def c24 : VCode :=
  .seq (.ops [⟨some 2, none, .mov (.c (.str ⟨#[]⟩))⟩]) <|
  .seq (.ops [⟨some 3, none, .alloc [(.str ⟨#[]⟩)]⟩, ⟨none, none, .store1 (.t 3) (.c (.str ⟨#[]⟩))⟩]) <|
  .seq (.seq (.ops [⟨some 5, none, .mov (.t 0)⟩, ⟨some 6, none, .call 26 [(.t 5)]⟩]) <|
  .block 0 (.rangeFunc (.t 6) [7] (.ops [⟨some 4, none, .mov (.t 7)⟩]) (.block 1 (.seq (.seq (.ops [⟨some 8, none, .load1 (.t 3)⟩, ⟨some 9, none, .bin .num .neq (.t 8) (.c (.str ⟨#[]⟩))⟩]) <|
     .cond (.t 9) (.ops [⟨some 10, none, .load1 (.t 3)⟩, ⟨some 11, none, .bin .num .add (.t 10) (.c (.str ⟨#[44]⟩))⟩, ⟨none, none, .store1 (.t 3) (.t 11)⟩]) (.skip)) <|
     .ops [⟨some 12, none, .load1 (.t 3)⟩, ⟨some 13, none, .mov (.t 4)⟩, ⟨some 14, none, .conv .u8 (.t 13)⟩, ⟨some 15, none, .bin .num .add (.c (.int .u8 48)) (.t 14)⟩, ⟨some 16, none, .buildSlice false 1 1 [(.int .u8 0)] [(0, 1, (.t 15))]⟩, ⟨some 17, none, .strOf (.t 16)⟩, ⟨some 18, none, .bin .num .add (.t 12) (.t 17)⟩, ⟨none, none, .store1 (.t 3) (.t 18)⟩])))) <|
  .seq (.seq (.ops [⟨some 19, none, .load1 (.t 3)⟩, ⟨some 20, none, .bin .num .eql (.t 19) (.c (.str ⟨#[]⟩))⟩]) <|
  .cond (.t 20) (.seq (.ops [⟨some 2, none, .mov (.c (.str ⟨#[45]⟩))⟩]) <|
   .ret) (.skip)) <|
  .seq (.ops [⟨some 21, none, .load1 (.t 3)⟩, ⟨some 2, none, .mov (.t 21)⟩]) <|
  .ret
def v24 : VFunc := ⟨22, [.tmp 2], c24⟩
/-- berthing/berthingref07.Text -/
def c25 : VCode :=
  .seq (.ops [⟨some 2, none, .mov (.c (.str ⟨#[]⟩))⟩]) <|
  .seq (.ops [⟨some 3, none, .mov (.c (.str ⟨#[]⟩))⟩]) <|
  .seq (.seq (.ops [⟨some 6, none, .mov (.t 0)⟩, ⟨some 7, none, .call 15 [(.t 6)]⟩, ⟨some 8, none, .call 14 [(.t 7)]⟩, ⟨some 9, none, .lenS (.t 8)⟩, ⟨some 10, none, .mov (.c (.int .i64 0))⟩]) <|
  .block 0 (.loop (.seq (.ops [⟨some 11, none, .bin .num .lss (.t 10) (.t 9)⟩]) <|
    .seq (.cond (.t 11) (.skip) (.exit 0)) <|
    .seq (.block 1 (.seq (.ops [⟨some 12, none, .idxAddrS 1 (.t 8) (.t 10)⟩, ⟨some 13, none, .load1 (.t 12)⟩, ⟨some 5, none, .mov (.t 13)⟩]) <|
     .ops [⟨some 14, none, .mov (.t 3)⟩, ⟨some 15, none, .mov (.t 5)⟩, ⟨some 16, none, .bin .num .add (.c (.int .i64 48)) (.t 15)⟩, ⟨some 17, none, .conv .u8 (.t 16)⟩, ⟨some 18, none, .buildSlice false 1 1 [(.int .u8 0)] [(0, 1, (.t 17))]⟩, ⟨some 19, none, .strOf (.t 18)⟩, ⟨some 20, none, .bin .num .add (.c (.str ⟨#[44]⟩)) (.t 19)⟩, ⟨some 21, none, .bin .num .add (.t 14) (.t 20)⟩, ⟨some 3, none, .mov (.t 21)⟩])) <|
    .ops [⟨some 22, none, .bin .num .add (.t 10) (.c (.int .i64 1))⟩, ⟨some 10, none, .mov (.t 22)⟩]))) <|
  .seq (.seq (.ops [⟨some 23, none, .mov (.t 3)⟩, ⟨some 24, none, .bin .num .eql (.t 23) (.c (.str ⟨#[]⟩))⟩]) <|
  .cond (.t 24) (.seq (.ops [⟨some 2, none, .mov (.c (.str ⟨#[45]⟩))⟩]) <|
   .ret) (.skip)) <|
  .seq (.ops [⟨some 25, none, .mov (.t 3)⟩, ⟨some 26, none, .sliceStr (.t 25) (some (.c (.int .i64 1))) none⟩, ⟨some 2, none, .mov (.t 26)⟩]) <|
  .ret
def v25 : VFunc := ⟨27, [.tmp 2], c25⟩
/-- berthing/mask.Nodes -/
def c26 : VCode :=
  .seq (.ops [⟨some 1, none, .box (.t 0)⟩, ⟨some 2, none, .mov (.c .nilf)⟩]) <|
  .seq (.ops [⟨some 3, none, .mkFn 29 [] [(.t 1)]⟩, ⟨some 2, none, .mov (.t 3)⟩]) <|
  .ret
def v26 : VFunc := ⟨4, [.tmp 2], c26⟩
/-- berthing/mask.bit -/
def c27 : VCode :=
  .seq (.ops [⟨some 2, none, .mov (.c (.int .u8 0))⟩]) <|
  .seq (.seq (.ops [⟨some 3, none, .mov (.t 0)⟩, ⟨some 4, none, .bin .num .lss (.t 3) (.c (.int .i64 0))⟩, ⟨some 5, none, .mov (.t 4)⟩, ⟨some 6, some (5, false), .mov (.t 0)⟩, ⟨some 7, some (5, false), .bin .num .geq (.t 6) (.c (.int .i64 8))⟩, ⟨some 8, none, .pick (.t 5) (.c (.bool true)) (.t 7)⟩]) <|
  .cond (.t 8) (.seq (.ops [⟨some 2, none, .mov (.c (.int .u8 0))⟩]) <|
   .ret) (.skip)) <|
  .seq (.ops [⟨some 9, none, .mov (.t 0)⟩, ⟨some 10, none, .bin .num .shl (.c (.int .u8 1)) (.t 9)⟩, ⟨some 2, none, .mov (.t 10)⟩]) <|
  .ret
def v27 : VFunc := ⟨11, [.tmp 2], c27⟩
/-- berthing/mask.Masks -/
def c28 : VCode :=
  .seq (.ops [⟨some 2, none, .mov (.c .nilf)⟩]) <|
  .seq (.ops [⟨some 4, none, .mov (.t 0)⟩, ⟨some 5, none, .minmax true [(.t 4), (.c (.int .i64 0))]⟩, ⟨some 6, none, .minmax false [(.t 5), (.c (.int .i64 8))]⟩, ⟨some 3, none, .alloc [(.int .i64 0)]⟩, ⟨none, none, .store1 (.t 3) (.t 6)⟩]) <|
  .seq (.ops [⟨some 7, none, .mkFn 30 [] [(.t 3)]⟩, ⟨some 2, none, .mov (.t 7)⟩]) <|
  .ret
def v28 : VFunc := ⟨8, [.tmp 2], c28⟩
/-- berthing/mask.Nodes$1 -/
def c29 : VCode :=
  .seq (.ops [⟨some 6, none, .load1 (.t 1)⟩, ⟨some 7, none, .conv .u8 (.t 6)⟩, ⟨some 3, none, .mov (.t 7)⟩]) <|
  .block 0 (.loop (.seq (.seq (.ops [⟨some 8, none, .mov (.t 3)⟩, ⟨some 9, none, .bin .num .neq (.t 8) (.c (.int .u8 0))⟩]) <|
    .cond (.t 9) (.skip) (.exit 0)) <|
    .seq (.block 1 (.seq (.ops [⟨some 15, none, .mov (.t 3)⟩, ⟨some 16, none, .conv .i64 (.t 15)⟩, ⟨some 17, none, .call 16 [(.t 16)]⟩, ⟨some 14, none, .mov (.t 17)⟩, ⟨some 18, none, .extract 0 (.t 14)⟩, ⟨some 19, none, .extract 1 (.t 14)⟩, ⟨some 4, none, .mov (.t 18)⟩, ⟨some 5, none, .mov (.t 19)⟩]) <|
     .seq (.ops [⟨some 20, none, .mov (.t 0)⟩, ⟨some 21, none, .mov (.t 4)⟩, ⟨some 22, none, .callV (.t 20) [(.t 21)]⟩, ⟨some 23, none, .un .not (.t 22)⟩]) <|
     .cond (.t 23) (.ret) (.skip))) <|
    .ops [⟨some 10, none, .mov (.t 3)⟩, ⟨some 11, none, .mov (.t 3)⟩, ⟨some 12, none, .bin .num .sub (.t 11) (.c (.int .u8 1))⟩, ⟨some 13, none, .bin .num .and (.t 10) (.t 12)⟩, ⟨some 3, none, .mov (.t 13)⟩]))
def v29 : VFunc := ⟨24, [], c29⟩
/-- berthing/mask.Masks$1 -/
def c30 : VCode :=
  .seq (.ops [⟨some 3, none, .mov (.c (.int .i64 1))⟩]) <|
  .block 0 (.loop (.seq (.seq (.ops [⟨some 5, none, .mov (.t 3)⟩, ⟨some 6, none, .load1 (.t 1)⟩, ⟨some 7, none, .bin .num .leq (.t 5) (.t 6)⟩]) <|
    .cond (.t 7) (.skip) (.exit 0)) <|
    .seq (.block 1 (.seq (.ops [⟨some 10, none, .mov (.t 3)⟩, ⟨some 11, none, .bin .num .shl (.c (.int .u32 1)) (.t 10)⟩, ⟨some 12, none, .bin .num .sub (.t 11) (.c (.int .u32 1))⟩, ⟨some 4, none, .mov (.t 12)⟩]) <|
     .block 2 (.loop (.seq (.seq (.ops [⟨some 13, none, .mov (.t 4)⟩, ⟨some 14, none, .load1 (.t 1)⟩, ⟨some 15, none, .bin .num .shl (.c (.int .u32 1)) (.t 14)⟩, ⟨some 16, none, .bin .num .lss (.t 13) (.t 15)⟩]) <|
       .cond (.t 16) (.skip) (.exit 2)) <|
       .seq (.block 3 (.seq (.ops [⟨some 19, none, .mov (.t 0)⟩, ⟨some 20, none, .mov (.t 4)⟩, ⟨some 21, none, .conv .i64 (.t 20)⟩, ⟨some 22, none, .callV (.t 19) [(.t 21)]⟩, ⟨some 23, none, .un .not (.t 22)⟩]) <|
        .cond (.t 23) (.ret) (.skip))) <|
       .ops [⟨some 17, none, .mov (.t 4)⟩, ⟨some 18, none, .call 31 [(.t 17)]⟩, ⟨some 4, none, .mov (.t 18)⟩])))) <|
    .ops [⟨some 8, none, .mov (.t 3)⟩, ⟨some 9, none, .bin .num .add (.t 8) (.c (.int .i64 1))⟩, ⟨some 3, none, .mov (.t 9)⟩]))
def v30 : VFunc := ⟨24, [], c30⟩
/-- berthing/mask.next -/
def c31 : VCode :=
  .seq (.ops [⟨some 2, none, .mov (.c (.int .u32 0))⟩]) <|
  .seq (.ops [⟨some 5, none, .mov (.t 0)⟩, ⟨some 6, none, .mov (.t 0)⟩, ⟨some 7, none, .un .neg (.t 6)⟩, ⟨some 8, none, .bin .num .and (.t 5) (.t 7)⟩, ⟨some 3, none, .mov (.t 8)⟩]) <|
  .seq (.ops [⟨some 9, none, .mov (.t 0)⟩, ⟨some 10, none, .mov (.t 3)⟩, ⟨some 11, none, .bin .num .add (.t 9) (.t 10)⟩, ⟨some 4, none, .mov (.t 11)⟩]) <|
  .seq (.ops [⟨some 12, none, .mov (.t 4)⟩, ⟨some 13, none, .mov (.t 0)⟩, ⟨some 14, none, .mov (.t 4)⟩, ⟨some 15, none, .bin .num .xor (.t 13) (.t 14)⟩, ⟨some 16, none, .mov (.t 3)⟩, ⟨some 17, none, .bin .num .quo (.t 15) (.t 16)⟩, ⟨some 18, none, .bin .num .shr (.t 17) (.c (.int .u64 2))⟩, ⟨some 19, none, .bin .num .or (.t 12) (.t 18)⟩, ⟨some 2, none, .mov (.t 19)⟩]) <|
  .ret
def v31 : VFunc := ⟨20, [.tmp 2], c31⟩
def ft : FuncId → Option VFunc := fun f => bif Nat.beq f 3 then some v3 else bif Nat.beq f 4 then some v4 else bif Nat.beq f 5 then some v5 else bif Nat.beq f 6 then some v6 else bif Nat.beq f 7 then some v7 else bif Nat.beq f 8 then some v8 else bif Nat.beq f 9 then some v9 else bif Nat.beq f 10 then some v10 else bif Nat.beq f 11 then some v11 else bif Nat.beq f 12 then some v12 else bif Nat.beq f 13 then some v13 else bif Nat.beq f 14 then some v14 else bif Nat.beq f 15 then some v15 else bif Nat.beq f 16 then some v16 else bif Nat.beq f 17 then some v17 else bif Nat.beq f 18 then some v18 else bif Nat.beq f 19 then some v19 else bif Nat.beq f 20 then some v20 else bif Nat.beq f 21 then some v21 else bif Nat.beq f 22 then some v22 else bif Nat.beq f 23 then some v23 else bif Nat.beq f 24 then some v24 else bif Nat.beq f 25 then some v25 else bif Nat.beq f 26 then some v26 else bif Nat.beq f 27 then some v27 else bif Nat.beq f 28 then some v28 else bif Nat.beq f 29 then some v29 else bif Nat.beq f 30 then some v30 else bif Nat.beq f 31 then some v31 else none
def env : Env := ⟨ft, md⟩
theorem is3 : FnComp ⟨Try.prog, md⟩ 3 v3 := ⟨Try.f3, _, fun t => false, Try.func3, rfl, by kernel_rfl, by kernel_rfl, by kernel_rfl⟩
theorem is4 : FnComp ⟨Try.prog, md⟩ 4 v4 := ⟨Try.f4, _, fun t => false, Try.func4, rfl, by kernel_rfl, by kernel_rfl, by kernel_rfl⟩
theorem is5 : FnComp ⟨Try.prog, md⟩ 5 v5 := ⟨Try.f5, _, fun t => false, Try.func5, rfl, by kernel_rfl, by kernel_rfl, by kernel_rfl⟩
theorem is6 : FnComp ⟨Try.prog, md⟩ 6 v6 := ⟨Try.f6, _, fun t => false, Try.func6, rfl, by kernel_rfl, by kernel_rfl, by kernel_rfl⟩
theorem is7 : FnComp ⟨Try.prog, md⟩ 7 v7 := ⟨Try.f7, _, fun t => false, Try.func7, rfl, by kernel_rfl, by kernel_rfl, by kernel_rfl⟩
theorem is8 : FnComp ⟨Try.prog, md⟩ 8 v8 := ⟨Try.f8, _, fun t => false, Try.func8, rfl, by kernel_rfl, by kernel_rfl, by kernel_rfl⟩
theorem is9 : FnComp ⟨Try.prog, md⟩ 9 v9 := ⟨Try.f9, _, fun t => false, Try.func9, rfl, by kernel_rfl, by kernel_rfl, by kernel_rfl⟩
theorem is10 : FnComp ⟨Try.prog, md⟩ 10 v10 := ⟨Try.f10, _, fun t => false, Try.func10, rfl, by kernel_rfl, by kernel_rfl, by kernel_rfl⟩
theorem is11 : FnComp ⟨Try.prog, md⟩ 11 v11 := ⟨Try.f11, _, fun t => false, Try.func11, rfl, by kernel_rfl, by kernel_rfl, by kernel_rfl⟩
theorem is12 : FnComp ⟨Try.prog, md⟩ 12 v12 := ⟨Try.f12, _, fun t => false, Try.func12, rfl, by kernel_rfl, by kernel_rfl, by kernel_rfl⟩
theorem is13 : FnComp ⟨Try.prog, md⟩ 13 v13 := ⟨Try.f13, _, fun t => false, Try.func13, rfl, by kernel_rfl, by kernel_rfl, by kernel_rfl⟩
theorem is14 : FnComp ⟨Try.prog, md⟩ 14 v14 := ⟨Try.f14, _, fun t => false, Try.func14, rfl, by kernel_rfl, by kernel_rfl, by kernel_rfl⟩
theorem is15 : FnComp ⟨Try.prog, md⟩ 15 v15 := ⟨Try.f15, _, fun t => false, Try.func15, rfl, by kernel_rfl, by kernel_rfl, by kernel_rfl⟩
theorem is16 : FnComp ⟨Try.prog, md⟩ 16 v16 := ⟨Try.f16, _, fun t => false, Try.func16, rfl, by kernel_rfl, by kernel_rfl, by kernel_rfl⟩
theorem is17 : FnComp ⟨Try.prog, md⟩ 17 v17 := ⟨Try.f17, _, fun t => false, Try.func17, rfl, by kernel_rfl, by kernel_rfl, by kernel_rfl⟩
theorem is18 : FnComp ⟨Try.prog, md⟩ 18 v18 := ⟨Try.f18, _, fun t => false, Try.func18, rfl, by kernel_rfl, by kernel_rfl, by kernel_rfl⟩
theorem is19 : FnComp ⟨Try.prog, md⟩ 19 v19 := ⟨Try.f19, _, fun t => false, Try.func19, rfl, by kernel_rfl, by kernel_rfl, by kernel_rfl⟩
theorem is20 : FnComp ⟨Try.prog, md⟩ 20 v20 := ⟨Try.f20, _, fun t => false, Try.func20, rfl, by kernel_rfl, by kernel_rfl, by kernel_rfl⟩
theorem is21 : FnComp ⟨Try.prog, md⟩ 21 v21 := ⟨Try.f21, _, fun t => false, Try.func21, rfl, by kernel_rfl, by kernel_rfl, by kernel_rfl⟩
theorem is22 : FnComp ⟨Try.prog, md⟩ 22 v22 := ⟨Try.f22, _, fun t => false, Try.func22, rfl, by kernel_rfl, by kernel_rfl, by kernel_rfl⟩
theorem is23 : FnComp ⟨Try.prog, md⟩ 23 v23 := ⟨Try.f23, _, fun t => false, Try.func23, rfl, by kernel_rfl, by kernel_rfl, by kernel_rfl⟩
theorem is24 : FnComp ⟨Try.prog, md⟩ 24 v24 := ⟨Try.f24, _, fun t => false, Try.func24, rfl, by kernel_rfl, by kernel_rfl, by kernel_rfl⟩
theorem is25 : FnComp ⟨Try.prog, md⟩ 25 v25 := ⟨Try.f25, _, fun t => false, Try.func25, rfl, by kernel_rfl, by kernel_rfl, by kernel_rfl⟩
theorem is26 : FnComp ⟨Try.prog, md⟩ 26 v26 := ⟨Try.f26, _, fun t => false, Try.func26, rfl, by kernel_rfl, by kernel_rfl, by kernel_rfl⟩
theorem is27 : FnComp ⟨Try.prog, md⟩ 27 v27 := ⟨Try.f27, _, fun t => false, Try.func27, rfl, by kernel_rfl, by kernel_rfl, by kernel_rfl⟩
theorem is28 : FnComp ⟨Try.prog, md⟩ 28 v28 := ⟨Try.f28, _, fun t => false, Try.func28, rfl, by kernel_rfl, by kernel_rfl, by kernel_rfl⟩
theorem is29 : FnComp ⟨Try.prog, md⟩ 29 v29 := ⟨Try.f29, _, fun t => false, Try.func29, rfl, by kernel_rfl, by kernel_rfl, by kernel_rfl⟩
theorem is30 : FnComp ⟨Try.prog, md⟩ 30 v30 := ⟨Try.f30, _, fun t => false, Try.func30, rfl, by kernel_rfl, by kernel_rfl, by kernel_rfl⟩
theorem is31 : FnComp ⟨Try.prog, md⟩ 31 v31 := ⟨Try.f31, _, fun t => false, Try.func31, rfl, by kernel_rfl, by kernel_rfl, by kernel_rfl⟩

theorem envOK : EnvOK ⟨Try.prog, md⟩ env := ⟨rfl, by kernel_rfl, fun f vf h => by
  change ft f = some vf at h
  unfold ft at h
  rcases ft_cons h with ⟨h1, h2⟩ | h
  · rw [h1, h2]; exact is3
  rcases ft_cons h with ⟨h1, h2⟩ | h
  · rw [h1, h2]; exact is4
  rcases ft_cons h with ⟨h1, h2⟩ | h
  · rw [h1, h2]; exact is5
  rcases ft_cons h with ⟨h1, h2⟩ | h
  · rw [h1, h2]; exact is6
  rcases ft_cons h with ⟨h1, h2⟩ | h
  · rw [h1, h2]; exact is7
  rcases ft_cons h with ⟨h1, h2⟩ | h
  · rw [h1, h2]; exact is8
  rcases ft_cons h with ⟨h1, h2⟩ | h
  · rw [h1, h2]; exact is9
  rcases ft_cons h with ⟨h1, h2⟩ | h
  · rw [h1, h2]; exact is10
  rcases ft_cons h with ⟨h1, h2⟩ | h
  · rw [h1, h2]; exact is11
  rcases ft_cons h with ⟨h1, h2⟩ | h
  · rw [h1, h2]; exact is12
  rcases ft_cons h with ⟨h1, h2⟩ | h
  · rw [h1, h2]; exact is13
  rcases ft_cons h with ⟨h1, h2⟩ | h
  · rw [h1, h2]; exact is14
  rcases ft_cons h with ⟨h1, h2⟩ | h
  · rw [h1, h2]; exact is15
  rcases ft_cons h with ⟨h1, h2⟩ | h
  · rw [h1, h2]; exact is16
  rcases ft_cons h with ⟨h1, h2⟩ | h
  · rw [h1, h2]; exact is17
  rcases ft_cons h with ⟨h1, h2⟩ | h
  · rw [h1, h2]; exact is18
  rcases ft_cons h with ⟨h1, h2⟩ | h
  · rw [h1, h2]; exact is19
  rcases ft_cons h with ⟨h1, h2⟩ | h
  · rw [h1, h2]; exact is20
  rcases ft_cons h with ⟨h1, h2⟩ | h
  · rw [h1, h2]; exact is21
  rcases ft_cons h with ⟨h1, h2⟩ | h
  · rw [h1, h2]; exact is22
  rcases ft_cons h with ⟨h1, h2⟩ | h
  · rw [h1, h2]; exact is23
  rcases ft_cons h with ⟨h1, h2⟩ | h
  · rw [h1, h2]; exact is24
  rcases ft_cons h with ⟨h1, h2⟩ | h
  · rw [h1, h2]; exact is25
  rcases ft_cons h with ⟨h1, h2⟩ | h
  · rw [h1, h2]; exact is26
  rcases ft_cons h with ⟨h1, h2⟩ | h
  · rw [h1, h2]; exact is27
  rcases ft_cons h with ⟨h1, h2⟩ | h
  · rw [h1, h2]; exact is28
  rcases ft_cons h with ⟨h1, h2⟩ | h
  · rw [h1, h2]; exact is29
  rcases ft_cons h with ⟨h1, h2⟩ | h
  · rw [h1, h2]; exact is30
  rcases ft_cons h with ⟨h1, h2⟩ | h
  · rw [h1, h2]; exact is31
  cases h⟩
end Go.Proofs.Yteflibnmicehcaa
