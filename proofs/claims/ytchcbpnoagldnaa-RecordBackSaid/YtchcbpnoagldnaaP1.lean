/-
  Part 1 of the functions and the law.
  The functions of this seat as code of the abstract machine, and that they are so. Printed by a program.
-/
import Derived.Test.YtchcbpnoagldnaaV8
import Derived.Test.YtchcbpnoagldnaaChecked
import Derived.KernelRfl
set_option linter.all false
set_option linter.unusedVariables false
set_option linter.unusedSimpArgs false
set_option linter.unusedSectionVars false
namespace Go.Proofs.Ytchcbpnoagldnaa
open Go Go.VM

def md : FuncId → VM.Mode := fun f => bif Nat.beq f 36 then .shared else bif Nat.beq f 37 then .shared else bif Nat.beq f 46 then .shared else bif Nat.beq f 47 then .shared else bif Nat.beq f 48 then .shared else bif Nat.beq f 49 then .shared else bif Nat.beq f 50 then .shared else bif Nat.beq f 51 then .shared else bif Nat.beq f 52 then .shared else bif Nat.beq f 53 then .shared else bif Nat.beq f 54 then .shared else bif Nat.beq f 55 then .shared else bif Nat.beq f 56 then .shared else bif Nat.beq f 57 then .shared else bif Nat.beq f 58 then .shared else bif Nat.beq f 59 then .shared else bif Nat.beq f 60 then .shared else bif Nat.beq f 61 then .shared else bif Nat.beq f 62 then .shared else bif Nat.beq f 64 then .shared else bif Nat.beq f 66 then .shared else bif Nat.beq f 69 then .shared else bif Nat.beq f 76 then .shared else bif Nat.beq f 77 then .shared else bif Nat.beq f 78 then .shared else bif Nat.beq f 79 then .shared else bif Nat.beq f 80 then .shared else bif Nat.beq f 81 then .shared else bif Nat.beq f 82 then .shared else bif Nat.beq f 83 then .shared else bif Nat.beq f 91 then .shared else bif Nat.beq f 93 then .shared else bif Nat.beq f 94 then .shared else .pure
/-- berthing/berthinglaw15.RecordTells -/
def c3 : VCode :=
  .seq (.ops [⟨some 3, none, .box (.t 0)⟩, ⟨some 4, none, .box (.t 1)⟩, ⟨some 6, none, .mov (.c (.bool false))⟩]) <|
  .seq (.seq (.ops [⟨some 13, none, .call .pure 6 []⟩, ⟨some 14, none, .un .not (.t 13)⟩]) <|
  .cond (.t 14) (.seq (.ops [⟨some 6, none, .mov (.c (.bool false))⟩]) <|
   .ret) (.skip)) <|
  .seq (.seq (.ops [⟨some 15, none, .loadN 3 (.t 3)⟩, ⟨some 16, none, .call .pure 7 [(.t 15)]⟩, ⟨some 17, none, .bin .num .gtr (.t 16) (.c (.int .i64 8000))⟩, ⟨some 18, none, .mov (.t 17)⟩, ⟨some 19, some (18, false), .loadN 3 (.t 4)⟩, ⟨some 20, some (18, false), .call .pure 7 [(.t 19)]⟩, ⟨some 21, some (18, false), .bin .num .gtr (.t 20) (.c (.int .i64 8000))⟩, ⟨some 22, none, .pick (.t 18) (.c (.bool true)) (.t 21)⟩, ⟨some 23, none, .mov (.t 22)⟩, ⟨some 24, some (23, false), .mov (.t 2)⟩, ⟨some 25, some (23, false), .lenStr (.t 24)⟩, ⟨some 26, some (23, false), .bin .num .gtr (.t 25) (.c (.int .i64 100))⟩, ⟨some 27, none, .pick (.t 23) (.c (.bool true)) (.t 26)⟩]) <|
  .cond (.t 27) (.seq (.ops [⟨some 6, none, .mov (.c (.bool true))⟩]) <|
   .ret) (.skip)) <|
  .seq (.ops [⟨some 7, none, .mov (.c (.str ⟨#[]⟩))⟩]) <|
  .seq (.seq (.ops [⟨some 28, none, .loadN 3 (.t 3)⟩, ⟨some 29, none, .call .pure 8 [(.t 28)]⟩]) <|
  .cond (.t 29) (.ops [⟨some 30, none, .loadN 3 (.t 3)⟩, ⟨some 31, none, .call .pure 9 [(.t 30)]⟩, ⟨some 7, none, .mov (.t 31)⟩]) (.skip)) <|
  .seq (.seq (.ops [⟨some 32, none, .fieldAddr 1 (.t 3)⟩, ⟨some 33, none, .load1 (.t 32)⟩, ⟨some 34, none, .lenS (.t 33)⟩, ⟨some 35, none, .mov (.c (.int .i64 0))⟩]) <|
  .block 0 (.loop (.seq (.ops [⟨some 36, none, .bin .num .lss (.t 35) (.t 34)⟩]) <|
    .seq (.cond (.t 36) (.skip) (.exit 0)) <|
    .seq (.block 1 (.seq (.ops [⟨some 37, none, .mov (.t 35)⟩, ⟨some 38, none, .idxAddrS 10 (.t 33) (.t 35)⟩, ⟨some 39, none, .loadN 10 (.t 38)⟩, ⟨some 9, none, .alloc [(.str ⟨#[]⟩), (.int .i64 0), (.int .i64 0), (.sl .nil 0 []), (.str ⟨#[]⟩), (.int .i64 0), (.int .i64 0), (.sl .nil 0 []), (.int .i64 0), (.int .i64 0)]⟩, ⟨some 8, none, .mov (.t 37)⟩, ⟨none, none, .storeN 10 (.t 9) (.t 39)⟩]) <|
     .seq (.ops [⟨some 40, none, .loadN 10 (.t 9)⟩, ⟨some 41, none, .call .pure 10 [(.t 40)]⟩, ⟨some 42, none, .loadN 10 (.t 9)⟩, ⟨some 43, none, .call .pure 11 [(.t 42)]⟩, ⟨some 44, none, .bin .bool .neq (.t 41) (.t 43)⟩, ⟨some 45, none, .mov (.t 44)⟩, ⟨some 46, some (45, false), .fieldAddr 0 (.t 9)⟩, ⟨some 47, some (45, false), .loadN 4 (.t 46)⟩, ⟨some 48, some (45, false), .fieldAddr 4 (.t 9)⟩, ⟨some 49, some (45, false), .loadN 4 (.t 48)⟩, ⟨some 50, some (45, false), .call .pure 12 [(.t 47), (.t 49)]⟩, ⟨some 51, some (45, false), .fieldAddr 0 (.t 9)⟩, ⟨some 52, some (45, false), .loadN 4 (.t 51)⟩, ⟨some 53, some (45, false), .fieldAddr 4 (.t 9)⟩, ⟨some 54, some (45, false), .loadN 4 (.t 53)⟩, ⟨some 55, some (45, false), .call .pure 13 [(.t 52), (.t 54)]⟩, ⟨some 56, some (45, false), .bin .bool .neq (.t 50) (.t 55)⟩, ⟨some 57, none, .pick (.t 45) (.c (.bool true)) (.t 56)⟩, ⟨some 58, none, .mov (.t 57)⟩, ⟨some 59, some (58, false), .mov (.t 8)⟩, ⟨some 60, some (58, false), .fieldAddr 1 (.t 4)⟩, ⟨some 61, some (58, false), .load1 (.t 60)⟩, ⟨some 62, some (58, false), .lenS (.t 61)⟩, ⟨some 63, some (58, false), .bin .num .lss (.t 59) (.t 62)⟩, ⟨some 64, some (58, false), .mov (.t 63)⟩, ⟨some 65, some (64, true), .fieldAddr 0 (.t 9)⟩, ⟨some 66, some (64, true), .loadN 4 (.t 65)⟩, ⟨some 67, some (64, true), .fieldAddr 1 (.t 4)⟩, ⟨some 68, some (64, true), .load1 (.t 67)⟩, ⟨some 69, some (64, true), .mov (.t 8)⟩, ⟨some 70, some (64, true), .idxAddrS 10 (.t 68) (.t 69)⟩, ⟨some 71, some (64, true), .fieldAddr 0 (.t 70)⟩, ⟨some 72, some (64, true), .loadN 4 (.t 71)⟩, ⟨some 73, some (64, true), .call .pure 12 [(.t 66), (.t 72)]⟩, ⟨some 74, some (64, true), .fieldAddr 0 (.t 9)⟩, ⟨some 75, some (64, true), .loadN 4 (.t 74)⟩, ⟨some 76, some (64, true), .fieldAddr 1 (.t 4)⟩, ⟨some 77, some (64, true), .load1 (.t 76)⟩, ⟨some 78, some (64, true), .mov (.t 8)⟩, ⟨some 79, some (64, true), .idxAddrS 10 (.t 77) (.t 78)⟩, ⟨some 80, some (64, true), .fieldAddr 0 (.t 79)⟩, ⟨some 81, some (64, true), .loadN 4 (.t 80)⟩, ⟨some 82, some (64, true), .call .pure 13 [(.t 75), (.t 81)]⟩, ⟨some 83, some (64, true), .bin .bool .neq (.t 73) (.t 82)⟩, ⟨some 84, some (58, false), .pick (.t 64) (.t 83) (.c (.bool false))⟩, ⟨some 85, none, .pick (.t 58) (.c (.bool true)) (.t 84)⟩]) <|
     .cond (.t 85) (.seq (.ops [⟨some 6, none, .mov (.c (.bool false))⟩]) <|
      .ret) (.skip))) <|
    .ops [⟨some 86, none, .bin .num .add (.t 35) (.c (.int .i64 1))⟩, ⟨some 35, none, .mov (.t 86)⟩]))) <|
  .seq (.ops [⟨some 88, none, .loadN 3 (.t 3)⟩, ⟨some 89, none, .mov (.t 2)⟩, ⟨some 90, none, .call .pure 14 [(.t 88), (.t 89)]⟩, ⟨some 87, none, .mov (.t 90)⟩, ⟨some 91, none, .extract 0 (.t 87)⟩, ⟨some 92, none, .extract 1 (.t 87)⟩, ⟨some 10, none, .mov (.t 91)⟩, ⟨some 11, none, .mov (.t 92)⟩]) <|
  .seq (.ops [⟨some 93, none, .loadN 3 (.t 3)⟩, ⟨some 94, none, .mov (.t 2)⟩, ⟨some 95, none, .call .pure 15 [(.t 93), (.t 94)]⟩, ⟨some 12, none, .mov (.t 95)⟩]) <|
  .seq (.ops [⟨some 96, none, .loadN 3 (.t 3)⟩, ⟨some 97, none, .call .pure 16 [(.t 96)]⟩, ⟨some 98, none, .loadN 3 (.t 3)⟩, ⟨some 99, none, .call .pure 8 [(.t 98)]⟩, ⟨some 100, none, .bin .bool .eql (.t 97) (.t 99)⟩, ⟨some 101, none, .mov (.t 100)⟩, ⟨some 102, some (101, true), .loadN 3 (.t 3)⟩, ⟨some 103, some (101, true), .loadN 3 (.t 4)⟩, ⟨some 104, some (101, true), .call .pure 17 [(.t 102), (.t 103)]⟩, ⟨some 105, some (101, true), .loadN 3 (.t 3)⟩, ⟨some 106, some (101, true), .loadN 3 (.t 4)⟩, ⟨some 107, some (101, true), .call .pure 18 [(.t 105), (.t 106)]⟩, ⟨some 108, some (101, true), .bin .bool .eql (.t 104) (.t 107)⟩, ⟨some 109, none, .pick (.t 101) (.t 108) (.c (.bool false))⟩, ⟨some 110, none, .mov (.t 109)⟩, ⟨some 111, some (110, true), .loadN 3 (.t 3)⟩, ⟨some 112, some (110, true), .call .pure 19 [(.t 111)]⟩, ⟨some 113, some (110, true), .strOfP (.t 112)⟩, ⟨some 114, some (110, true), .mov (.t 7)⟩, ⟨some 115, some (110, true), .bin .num .eql (.t 113) (.t 114)⟩, ⟨some 116, none, .pick (.t 110) (.t 115) (.c (.bool false))⟩, ⟨some 117, none, .mov (.t 116)⟩, ⟨some 118, some (117, true), .mov (.t 11)⟩, ⟨some 119, some (117, true), .mov (.t 12)⟩, ⟨some 120, some (117, true), .bin .num .geq (.t 119) (.c (.int .i64 0))⟩, ⟨some 121, some (117, true), .bin .bool .eql (.t 118) (.t 120)⟩, ⟨some 122, none, .pick (.t 117) (.t 121) (.c (.bool false))⟩, ⟨some 123, none, .mov (.t 122)⟩, ⟨some 124, some (123, true), .mov (.t 10)⟩, ⟨some 125, some (123, true), .mov (.t 12)⟩, ⟨some 126, some (123, true), .minmax true [(.t 125), (.c (.int .i64 0))]⟩, ⟨some 127, some (123, true), .bin .num .eql (.t 124) (.t 126)⟩, ⟨some 128, none, .pick (.t 123) (.t 127) (.c (.bool false))⟩, ⟨some 6, none, .mov (.t 128)⟩]) <|
  .ret
def v3 : VFunc := ⟨129, [.tmp 6], c3⟩
/-- berthing/berthinglaw15.RecordReads -/
def c4 : VCode :=
  .seq (.ops [⟨some 2, none, .mov (.c (.bool false))⟩]) <|
  .seq (.seq (.ops [⟨some 7, none, .call .pure 6 []⟩, ⟨some 8, none, .un .not (.t 7)⟩]) <|
  .cond (.t 8) (.seq (.ops [⟨some 2, none, .mov (.c (.bool false))⟩]) <|
   .ret) (.skip)) <|
  .seq (.seq (.ops [⟨some 9, none, .mov (.t 0)⟩, ⟨some 10, none, .lenS (.t 9)⟩, ⟨some 11, none, .bin .num .gtr (.t 10) (.c (.int .i64 5000))⟩]) <|
  .cond (.t 11) (.seq (.ops [⟨some 2, none, .mov (.c (.bool true))⟩]) <|
   .ret) (.skip)) <|
  .seq (.ops [⟨some 13, none, .mov (.t 0)⟩, ⟨some 14, none, .call .pure 20 [(.t 13)]⟩, ⟨some 12, none, .mov (.t 14)⟩, ⟨some 15, none, .extract 0 (.t 12)⟩, ⟨some 16, none, .extract 1 (.t 12)⟩, ⟨some 3, none, .alloc [(.int .i64 0), (.sl .nil 0 []), (.sl .nil 0 [])]⟩, ⟨none, none, .storeN 3 (.t 3) (.t 15)⟩, ⟨some 4, none, .mov (.t 16)⟩]) <|
  .seq (.ops [⟨some 18, none, .mov (.t 0)⟩, ⟨some 19, none, .strOfP (.t 18)⟩, ⟨some 20, none, .call .pure 21 [(.t 19)]⟩, ⟨some 17, none, .mov (.t 20)⟩, ⟨some 21, none, .extract 0 (.t 17)⟩, ⟨some 22, none, .extract 1 (.t 17)⟩, ⟨some 5, none, .alloc [(.int .i64 0), (.sl .nil 0 []), (.sl .nil 0 [])]⟩, ⟨none, none, .storeN 3 (.t 5) (.t 21)⟩, ⟨some 6, none, .mov (.t 22)⟩]) <|
  .seq (.ops [⟨some 23, none, .mov (.t 4)⟩, ⟨some 24, none, .mov (.t 6)⟩, ⟨some 25, none, .bin .num .eql (.t 23) (.t 24)⟩, ⟨some 26, none, .mov (.t 25)⟩, ⟨some 27, some (26, true), .loadN 3 (.t 3)⟩, ⟨some 28, some (26, true), .loadN 3 (.t 5)⟩, ⟨some 29, some (26, true), .call .pure 18 [(.t 27), (.t 28)]⟩, ⟨some 30, none, .pick (.t 26) (.t 29) (.c (.bool false))⟩, ⟨some 2, none, .mov (.t 30)⟩]) <|
  .ret
def v4 : VFunc := ⟨31, [.tmp 2], c4⟩
/-- berthing/berthinglaw15.RecordBack -/
def c5 : VCode :=
  .seq (.ops [⟨some 2, none, .box (.t 0)⟩, ⟨some 4, none, .mov (.c (.bool false))⟩]) <|
  .seq (.seq (.ops [⟨some 9, none, .call .pure 6 []⟩, ⟨some 10, none, .un .not (.t 9)⟩]) <|
  .cond (.t 10) (.seq (.ops [⟨some 4, none, .mov (.c (.bool false))⟩]) <|
   .ret) (.skip)) <|
  .seq (.seq (.ops [⟨some 11, none, .loadN 3 (.t 2)⟩, ⟨some 12, none, .call .pure 7 [(.t 11)]⟩, ⟨some 13, none, .bin .num .gtr (.t 12) (.c (.int .i64 8000))⟩, ⟨some 14, none, .mov (.t 13)⟩, ⟨some 15, some (14, false), .mov (.t 1)⟩, ⟨some 16, some (14, false), .lenS (.t 15)⟩, ⟨some 17, some (14, false), .bin .num .gtr (.t 16) (.c (.int .i64 5000))⟩, ⟨some 18, none, .pick (.t 14) (.c (.bool true)) (.t 17)⟩]) <|
  .cond (.t 18) (.seq (.ops [⟨some 4, none, .mov (.c (.bool true))⟩]) <|
   .ret) (.skip)) <|
  .seq (.seq (.ops [⟨some 19, none, .loadN 3 (.t 2)⟩, ⟨some 20, none, .call .pure 16 [(.t 19)]⟩]) <|
  .cond (.t 20) (.seq (.ops [⟨some 22, none, .loadN 3 (.t 2)⟩, ⟨some 23, none, .call .pure 19 [(.t 22)]⟩, ⟨some 24, none, .call .pure 20 [(.t 23)]⟩, ⟨some 21, none, .mov (.t 24)⟩, ⟨some 25, none, .extract 0 (.t 21)⟩, ⟨some 26, none, .extract 1 (.t 21)⟩, ⟨some 5, none, .alloc [(.int .i64 0), (.sl .nil 0 []), (.sl .nil 0 [])]⟩, ⟨none, none, .storeN 3 (.t 5) (.t 25)⟩, ⟨some 6, none, .mov (.t 26)⟩]) <|
   .seq (.ops [⟨some 27, none, .mov (.t 6)⟩, ⟨some 28, none, .bin .num .neq (.t 27) (.c (.int .i64 0))⟩, ⟨some 29, none, .mov (.t 28)⟩, ⟨some 30, some (29, false), .loadN 3 (.t 5)⟩, ⟨some 31, some (29, false), .loadN 3 (.t 2)⟩, ⟨some 32, some (29, false), .call .pure 17 [(.t 30), (.t 31)]⟩, ⟨some 33, some (29, false), .un .not (.t 32)⟩, ⟨some 34, none, .pick (.t 29) (.c (.bool true)) (.t 33)⟩, ⟨some 35, none, .mov (.t 34)⟩, ⟨some 36, some (35, false), .loadN 3 (.t 5)⟩, ⟨some 37, some (35, false), .call .pure 16 [(.t 36)]⟩, ⟨some 38, some (35, false), .un .not (.t 37)⟩, ⟨some 39, none, .pick (.t 35) (.c (.bool true)) (.t 38)⟩]) <|
   .cond (.t 39) (.seq (.ops [⟨some 4, none, .mov (.c (.bool false))⟩]) <|
    .ret) (.skip)) (.skip)) <|
  .seq (.ops [⟨some 41, none, .mov (.t 1)⟩, ⟨some 42, none, .call .pure 20 [(.t 41)]⟩, ⟨some 40, none, .mov (.t 42)⟩, ⟨some 43, none, .extract 0 (.t 40)⟩, ⟨some 44, none, .extract 1 (.t 40)⟩, ⟨some 7, none, .alloc [(.int .i64 0), (.sl .nil 0 []), (.sl .nil 0 [])]⟩, ⟨none, none, .storeN 3 (.t 7) (.t 43)⟩, ⟨some 8, none, .mov (.t 44)⟩]) <|
  .seq (.ops [⟨some 45, none, .mov (.t 8)⟩, ⟨some 46, none, .bin .num .neq (.t 45) (.c (.int .i64 0))⟩, ⟨some 47, none, .mov (.t 46)⟩, ⟨some 48, some (47, false), .loadN 3 (.t 7)⟩, ⟨some 49, some (47, false), .call .pure 19 [(.t 48)]⟩, ⟨some 50, some (47, false), .strOfP (.t 49)⟩, ⟨some 51, some (47, false), .mov (.t 1)⟩, ⟨some 52, some (47, false), .strOfP (.t 51)⟩, ⟨some 53, some (47, false), .bin .num .eql (.t 50) (.t 52)⟩, ⟨some 54, none, .pick (.t 47) (.c (.bool true)) (.t 53)⟩, ⟨some 4, none, .mov (.t 54)⟩]) <|
  .ret
def v5 : VFunc := ⟨55, [.tmp 4], c5⟩
/-- berthing/berthinglaw15.first -/
def c6 : VCode :=
  .seq (.ops [⟨some 0, none, .mov (.c (.bool false))⟩]) <|
  .seq (.ops [⟨some 12, none, .build [(.int .i64 0), (.int .i64 0), (.int .i64 0)] [(0, 1, (.c (.int .i64 1000))), (1, 1, (.c (.int .i64 1048576)))]⟩, ⟨some 1, none, .alloc [(.int .i64 0), (.int .i64 0), (.int .i64 0)]⟩, ⟨none, none, .storeN 3 (.t 1) (.t 12)⟩]) <|
  .seq (.ops [⟨some 13, none, .loadN 3 (.t 1)⟩, ⟨some 14, none, .loadN 3 (.t 1)⟩, ⟨some 15, none, .build [(.str ⟨#[]⟩), (.int .i64 0), (.int .i64 0), (.int .i64 0), (.int .i64 0), (.int .i64 0), (.int .i64 0), (.bool false), (.bool false), (.bool false)] [(0, 1, (.c (.str ⟨#[97]⟩))), (1, 3, (.t 13)), (4, 3, (.t 14))]⟩, ⟨some 16, none, .buildSlice false 10 1 [(.str ⟨#[]⟩), (.int .i64 0), (.int .i64 0), (.int .i64 0), (.int .i64 0), (.int .i64 0), (.int .i64 0), (.bool false), (.bool false), (.bool false)] [(0, 10, (.t 15))]⟩, ⟨some 17, none, .build [(.str ⟨#[]⟩), (.int .i64 0), (.int .i64 0), (.sl .nil 0 [])] [(0, 1, (.c (.str ⟨#[112]⟩))), (3, 1, (.t 16))]⟩, ⟨some 2, none, .alloc [(.str ⟨#[]⟩), (.int .i64 0), (.int .i64 0), (.sl .nil 0 [])]⟩, ⟨none, none, .storeN 4 (.t 2) (.t 17)⟩]) <|
  .seq (.ops [⟨some 18, none, .loadN 4 (.t 2)⟩, ⟨some 19, none, .loadN 4 (.t 2)⟩, ⟨some 20, none, .build [(.str ⟨#[]⟩), (.int .i64 0), (.int .i64 0), (.sl .nil 0 []), (.str ⟨#[]⟩), (.int .i64 0), (.int .i64 0), (.sl .nil 0 []), (.int .i64 0), (.int .i64 0)] [(0, 4, (.t 18)), (4, 4, (.t 19)), (8, 1, (.c (.int .i64 2))), (9, 1, (.c (.int .i64 1)))]⟩, ⟨some 21, none, .buildSlice false 10 1 [(.str ⟨#[]⟩), (.int .i64 0), (.int .i64 0), (.sl .nil 0 []), (.str ⟨#[]⟩), (.int .i64 0), (.int .i64 0), (.sl .nil 0 []), (.int .i64 0), (.int .i64 0)] [(0, 10, (.t 20))]⟩, ⟨some 22, none, .build [(.str ⟨#[]⟩), (.str ⟨#[]⟩), (.int .i64 0)] [(0, 1, (.c (.str ⟨#[112]⟩))), (1, 1, (.c (.str ⟨#[97]⟩)))]⟩, ⟨some 23, none, .build [(.int .i64 0), (.int .i64 0), (.int .i64 0), (.int .i64 0), (.int .i64 0), (.int .i64 0), (.int .i64 0), (.int .i64 0)] [(0, 1, (.c (.int .i64 1)))]⟩, ⟨some 24, none, .build [(.str ⟨#[]⟩), (.str ⟨#[]⟩), (.int .i64 0), (.int .i64 0), (.int .i64 0), (.int .i64 0), (.int .i64 0), (.int .i64 0), (.int .i64 0), (.int .i64 0), (.int .i64 0)] [(0, 3, (.t 22)), (3, 8, (.t 23))]⟩, ⟨some 25, none, .buildSlice false 11 1 [(.str ⟨#[]⟩), (.str ⟨#[]⟩), (.int .i64 0), (.int .i64 0), (.int .i64 0), (.int .i64 0), (.int .i64 0), (.int .i64 0), (.int .i64 0), (.int .i64 0), (.int .i64 0)] [(0, 11, (.t 24))]⟩, ⟨some 26, none, .build [(.int .i64 0), (.sl .nil 0 []), (.sl .nil 0 [])] [(0, 1, (.c (.int .i64 3))), (1, 1, (.t 21)), (2, 1, (.t 25))]⟩, ⟨some 3, none, .alloc [(.int .i64 0), (.sl .nil 0 []), (.sl .nil 0 [])]⟩, ⟨none, none, .storeN 3 (.t 3) (.t 26)⟩]) <|
  .seq (.ops [⟨some 28, none, .loadN 3 (.t 3)⟩, ⟨some 29, none, .call .pure 19 [(.t 28)]⟩, ⟨some 30, none, .call .pure 20 [(.t 29)]⟩, ⟨some 27, none, .mov (.t 30)⟩, ⟨some 31, none, .extract 0 (.t 27)⟩, ⟨some 32, none, .extract 1 (.t 27)⟩, ⟨some 4, none, .alloc [(.int .i64 0), (.sl .nil 0 []), (.sl .nil 0 [])]⟩, ⟨none, none, .storeN 3 (.t 4) (.t 31)⟩, ⟨some 5, none, .mov (.t 32)⟩]) <|
  .seq (.ops [⟨some 34, none, .call .pure 20 [(.c (.sl .nil 0 []))]⟩, ⟨some 33, none, .mov (.t 34)⟩, ⟨some 35, none, .extract 0 (.t 33)⟩, ⟨some 36, none, .extract 1 (.t 33)⟩, ⟨some 6, none, .alloc [(.int .i64 0), (.sl .nil 0 []), (.sl .nil 0 [])]⟩, ⟨none, none, .storeN 3 (.t 6) (.t 35)⟩, ⟨some 7, none, .mov (.t 36)⟩]) <|
  .seq (.ops [⟨some 38, none, .buildSlice false 1 4 [(.int .u8 0), (.int .u8 0), (.int .u8 0), (.int .u8 0)] [(0, 1, (.c (.int .u8 0))), (1, 1, (.c (.int .u8 0))), (2, 1, (.c (.int .u8 0))), (3, 1, (.c (.int .u8 0)))]⟩, ⟨some 39, none, .call .pure 20 [(.t 38)]⟩, ⟨some 37, none, .mov (.t 39)⟩, ⟨some 40, none, .extract 0 (.t 37)⟩, ⟨some 41, none, .extract 1 (.t 37)⟩, ⟨some 8, none, .alloc [(.int .i64 0), (.sl .nil 0 []), (.sl .nil 0 [])]⟩, ⟨none, none, .storeN 3 (.t 8) (.t 40)⟩, ⟨some 9, none, .mov (.t 41)⟩]) <|
  .seq (.ops [⟨some 43, none, .loadN 3 (.t 3)⟩, ⟨some 44, none, .call .pure 14 [(.t 43), (.c (.str ⟨#[112]⟩))]⟩, ⟨some 42, none, .mov (.t 44)⟩, ⟨some 45, none, .extract 0 (.t 42)⟩, ⟨some 46, none, .extract 1 (.t 42)⟩, ⟨some 10, none, .mov (.t 45)⟩, ⟨some 11, none, .mov (.t 46)⟩]) <|
  .seq (.ops [⟨some 47, none, .loadN 3 (.t 3)⟩, ⟨some 48, none, .call .pure 16 [(.t 47)]⟩, ⟨some 49, none, .mov (.t 48)⟩, ⟨some 50, some (49, true), .mov (.t 5)⟩, ⟨some 51, some (49, true), .bin .num .eql (.t 50) (.c (.int .i64 0))⟩, ⟨some 52, none, .pick (.t 49) (.t 51) (.c (.bool false))⟩, ⟨some 53, none, .mov (.t 52)⟩, ⟨some 54, some (53, true), .loadN 3 (.t 4)⟩, ⟨some 55, some (53, true), .loadN 3 (.t 3)⟩, ⟨some 56, some (53, true), .call .pure 17 [(.t 54), (.t 55)]⟩, ⟨some 57, none, .pick (.t 53) (.t 56) (.c (.bool false))⟩, ⟨some 58, none, .mov (.t 57)⟩, ⟨some 59, some (58, true), .mov (.t 7)⟩, ⟨some 60, some (58, true), .bin .num .eql (.t 59) (.c (.int .i64 10))⟩, ⟨some 61, none, .pick (.t 58) (.t 60) (.c (.bool false))⟩, ⟨some 62, none, .mov (.t 61)⟩, ⟨some 63, some (62, true), .mov (.t 9)⟩, ⟨some 64, some (62, true), .bin .num .eql (.t 63) (.c (.int .i64 13))⟩, ⟨some 65, none, .pick (.t 62) (.t 64) (.c (.bool false))⟩, ⟨some 66, none, .mov (.t 65)⟩, ⟨some 67, some (66, true), .build [(.int .i64 0), (.sl .nil 0 []), (.sl .nil 0 [])] []⟩, ⟨some 68, some (66, true), .call .pure 19 [(.t 67)]⟩, ⟨some 69, some (66, true), .strOfP (.t 68)⟩, ⟨some 70, some (66, true), .bin .num .eql (.t 69) (.c (.str ⟨#[0, 0, 0]⟩))⟩, ⟨some 71, none, .pick (.t 66) (.t 70) (.c (.bool false))⟩, ⟨some 72, none, .mov (.t 71)⟩, ⟨some 73, some (72, true), .mov (.t 10)⟩, ⟨some 74, some (72, true), .bin .num .eql (.t 73) (.c (.int .i64 0))⟩, ⟨some 75, none, .pick (.t 72) (.t 74) (.c (.bool false))⟩, ⟨some 76, none, .mov (.t 75)⟩, ⟨some 77, some (76, true), .mov (.t 11)⟩, ⟨some 78, none, .pick (.t 76) (.t 77) (.c (.bool false))⟩, ⟨some 79, none, .mov (.t 78)⟩, ⟨some 80, some (79, true), .loadN 4 (.t 2)⟩, ⟨some 81, some (79, true), .loadN 4 (.t 2)⟩, ⟨some 82, some (79, true), .call .pure 12 [(.t 80), (.t 81)]⟩, ⟨some 83, none, .pick (.t 79) (.t 82) (.c (.bool false))⟩, ⟨some 84, none, .mov (.t 83)⟩, ⟨some 85, some (84, true), .fieldAddr 1 (.t 3)⟩, ⟨some 86, some (84, true), .load1 (.t 85)⟩, ⟨some 87, some (84, true), .idxAddrS 10 (.t 86) (.c (.int .i64 0))⟩, ⟨some 88, some (84, true), .loadN 10 (.t 87)⟩, ⟨some 89, some (84, true), .call .pure 10 [(.t 88)]⟩, ⟨some 90, none, .pick (.t 84) (.t 89) (.c (.bool false))⟩, ⟨some 91, none, .mov (.t 90)⟩, ⟨some 92, some (91, true), .build [(.int .i64 0), (.sl .nil 0 []), (.sl .nil 0 [])] [(0, 1, (.c (.int .i64 (-1))))]⟩, ⟨some 93, some (91, true), .call .pure 16 [(.t 92)]⟩, ⟨some 94, some (91, true), .un .not (.t 93)⟩, ⟨some 95, none, .pick (.t 91) (.t 94) (.c (.bool false))⟩, ⟨some 0, none, .mov (.t 95)⟩]) <|
  .ret
def v6 : VFunc := ⟨96, [.tmp 0], c6⟩
/-- berthing/berthinglaw15.Great -/
def c7 : VCode :=
  .seq (.ops [⟨some 1, none, .box (.t 0)⟩, ⟨some 2, none, .mov (.c (.int .i64 0))⟩]) <|
  .seq (.ops [⟨some 8, none, .fieldAddr 2 (.t 1)⟩, ⟨some 9, none, .load1 (.t 8)⟩, ⟨some 10, none, .lenS (.t 9)⟩, ⟨some 11, none, .minmax false [(.t 10), (.c (.int .i64 500))]⟩, ⟨some 12, none, .bin .num .mul (.c (.int .i64 20)) (.t 11)⟩, ⟨some 3, none, .mov (.t 12)⟩]) <|
  .seq (.seq (.ops [⟨some 13, none, .fieldAddr 1 (.t 1)⟩, ⟨some 14, none, .load1 (.t 13)⟩, ⟨some 15, none, .lenS (.t 14)⟩, ⟨some 16, none, .mov (.c (.int .i64 0))⟩]) <|
  .block 0 (.loop (.seq (.ops [⟨some 17, none, .bin .num .lss (.t 16) (.t 15)⟩]) <|
    .seq (.cond (.t 17) (.skip) (.exit 0)) <|
    .seq (.block 1 (.seq (.ops [⟨some 18, none, .mov (.t 16)⟩, ⟨some 19, none, .idxAddrS 10 (.t 14) (.t 16)⟩, ⟨some 20, none, .loadN 10 (.t 19)⟩, ⟨some 5, none, .alloc [(.str ⟨#[]⟩), (.int .i64 0), (.int .i64 0), (.sl .nil 0 []), (.str ⟨#[]⟩), (.int .i64 0), (.int .i64 0), (.sl .nil 0 []), (.int .i64 0), (.int .i64 0)]⟩, ⟨some 4, none, .mov (.t 18)⟩, ⟨none, none, .storeN 10 (.t 5) (.t 20)⟩]) <|
     .seq (.seq (.ops [⟨some 21, none, .mov (.t 4)⟩, ⟨some 22, none, .bin .num .gtr (.t 21) (.c (.int .i64 30))⟩]) <|
     .cond (.t 22) (.seq (.ops [⟨some 2, none, .mov (.c (.int .i64 20000))⟩]) <|
      .ret) (.skip)) <|
     .ops [⟨some 23, none, .mov (.t 3)⟩, ⟨some 24, none, .fieldAddr 0 (.t 5)⟩, ⟨some 25, none, .loadN 4 (.t 24)⟩, ⟨some 26, none, .call .pure 22 [(.t 25)]⟩, ⟨some 27, none, .bin .num .add (.c (.int .i64 10)) (.t 26)⟩, ⟨some 28, none, .fieldAddr 4 (.t 5)⟩, ⟨some 29, none, .loadN 4 (.t 28)⟩, ⟨some 30, none, .call .pure 22 [(.t 29)]⟩, ⟨some 31, none, .bin .num .add (.t 27) (.t 30)⟩, ⟨some 32, none, .bin .num .add (.t 23) (.t 31)⟩, ⟨some 3, none, .mov (.t 32)⟩])) <|
    .ops [⟨some 33, none, .bin .num .add (.t 16) (.c (.int .i64 1))⟩, ⟨some 16, none, .mov (.t 33)⟩]))) <|
  .seq (.seq (.ops [⟨some 34, none, .fieldAddr 2 (.t 1)⟩, ⟨some 35, none, .load1 (.t 34)⟩, ⟨some 36, none, .lenS (.t 35)⟩, ⟨some 37, none, .mov (.c (.int .i64 0))⟩]) <|
  .block 2 (.loop (.seq (.ops [⟨some 38, none, .bin .num .lss (.t 37) (.t 36)⟩]) <|
    .seq (.cond (.t 38) (.skip) (.exit 2)) <|
    .seq (.block 3 (.seq (.ops [⟨some 39, none, .idxAddrS 11 (.t 35) (.t 37)⟩, ⟨some 40, none, .loadN 11 (.t 39)⟩, ⟨some 7, none, .alloc [(.str ⟨#[]⟩), (.str ⟨#[]⟩), (.int .i64 0), (.int .i64 0), (.int .i64 0), (.int .i64 0), (.int .i64 0), (.int .i64 0), (.int .i64 0), (.int .i64 0), (.int .i64 0)]⟩, ⟨none, none, .storeN 11 (.t 7) (.t 40)⟩]) <|
     .seq (.ops [⟨some 41, none, .mov (.t 3)⟩, ⟨some 42, none, .fieldAddr 0 (.t 7)⟩, ⟨some 43, none, .fieldAddr 0 (.t 42)⟩, ⟨some 44, none, .load1 (.t 43)⟩, ⟨some 45, none, .lenStr (.t 44)⟩, ⟨some 46, none, .fieldAddr 0 (.t 7)⟩, ⟨some 47, none, .fieldAddr 1 (.t 46)⟩, ⟨some 48, none, .load1 (.t 47)⟩, ⟨some 49, none, .lenStr (.t 48)⟩, ⟨some 50, none, .bin .num .add (.t 45) (.t 49)⟩, ⟨some 51, none, .minmax false [(.t 50), (.c (.int .i64 5000))]⟩, ⟨some 52, none, .bin .num .add (.t 41) (.t 51)⟩, ⟨some 3, none, .mov (.t 52)⟩]) <|
     .seq (.ops [⟨some 53, none, .mov (.t 3)⟩, ⟨some 54, none, .bin .num .gtr (.t 53) (.c (.int .i64 20000))⟩]) <|
     .cond (.t 54) (.seq (.ops [⟨some 55, none, .mov (.t 3)⟩, ⟨some 2, none, .mov (.t 55)⟩]) <|
      .ret) (.skip))) <|
    .ops [⟨some 56, none, .bin .num .add (.t 37) (.c (.int .i64 1))⟩, ⟨some 37, none, .mov (.t 56)⟩]))) <|
  .seq (.ops [⟨some 57, none, .mov (.t 3)⟩, ⟨some 2, none, .mov (.t 57)⟩]) <|
  .ret
def v7 : VFunc := ⟨58, [.tmp 2], c7⟩
/-- berthing/berthingref15.Right -/
def c8 : VCode :=
  .seq (.ops [⟨some 1, none, .box (.t 0)⟩, ⟨some 2, none, .mov (.c (.bool false))⟩]) <|
  .seq (.seq (.ops [⟨some 12, none, .fieldAddr 0 (.t 1)⟩, ⟨some 13, none, .load1 (.t 12)⟩, ⟨some 14, none, .bin .num .lss (.t 13) (.c (.int .i64 0))⟩, ⟨some 15, none, .mov (.t 14)⟩, ⟨some 16, some (15, false), .fieldAddr 0 (.t 1)⟩, ⟨some 17, some (15, false), .load1 (.t 16)⟩, ⟨some 18, some (15, false), .bin .num .gtr (.t 17) (.c (.int .i64 1099511627776))⟩, ⟨some 19, none, .pick (.t 15) (.c (.bool true)) (.t 18)⟩, ⟨some 20, none, .mov (.t 19)⟩, ⟨some 21, some (20, false), .fieldAddr 1 (.t 1)⟩, ⟨some 22, some (20, false), .load1 (.t 21)⟩, ⟨some 23, some (20, false), .lenS (.t 22)⟩, ⟨some 24, some (20, false), .bin .num .gtr (.t 23) (.c (.int .i64 16))⟩, ⟨some 25, none, .pick (.t 20) (.c (.bool true)) (.t 24)⟩]) <|
  .cond (.t 25) (.seq (.ops [⟨some 2, none, .mov (.c (.bool false))⟩]) <|
   .ret) (.skip)) <|
  .seq (.seq (.ops [⟨some 26, none, .fieldAddr 1 (.t 1)⟩, ⟨some 27, none, .load1 (.t 26)⟩, ⟨some 28, none, .lenS (.t 27)⟩, ⟨some 29, none, .mov (.c (.int .i64 0))⟩]) <|
  .block 0 (.loop (.seq (.ops [⟨some 30, none, .bin .num .lss (.t 29) (.t 28)⟩]) <|
    .seq (.cond (.t 30) (.skip) (.exit 0)) <|
    .seq (.block 1 (.seq (.ops [⟨some 31, none, .mov (.t 29)⟩, ⟨some 32, none, .idxAddrS 10 (.t 27) (.t 29)⟩, ⟨some 33, none, .loadN 10 (.t 32)⟩, ⟨some 4, none, .alloc [(.str ⟨#[]⟩), (.int .i64 0), (.int .i64 0), (.sl .nil 0 []), (.str ⟨#[]⟩), (.int .i64 0), (.int .i64 0), (.sl .nil 0 []), (.int .i64 0), (.int .i64 0)]⟩, ⟨some 3, none, .mov (.t 31)⟩, ⟨none, none, .storeN 10 (.t 4) (.t 33)⟩]) <|
     .seq (.seq (.ops [⟨some 34, none, .loadN 10 (.t 4)⟩, ⟨some 35, none, .call .pure 11 [(.t 34)]⟩, ⟨some 36, none, .un .not (.t 35)⟩, ⟨some 37, none, .mov (.t 36)⟩, ⟨some 38, some (37, false), .fieldAddr 8 (.t 4)⟩, ⟨some 39, some (37, false), .load1 (.t 38)⟩, ⟨some 40, some (37, false), .fieldAddr 0 (.t 1)⟩, ⟨some 41, some (37, false), .load1 (.t 40)⟩, ⟨some 42, some (37, false), .bin .num .geq (.t 39) (.t 41)⟩, ⟨some 43, none, .pick (.t 37) (.c (.bool true)) (.t 42)⟩]) <|
     .cond (.t 43) (.seq (.ops [⟨some 2, none, .mov (.c (.bool false))⟩]) <|
      .ret) (.skip)) <|
     .seq (.ops [⟨some 44, none, .fieldAddr 1 (.t 1)⟩, ⟨some 45, none, .load1 (.t 44)⟩, ⟨some 46, none, .mov (.t 3)⟩, ⟨some 47, none, .sliceS 10 (.t 45) none (some (.t 46)) none⟩, ⟨some 48, none, .lenS (.t 47)⟩, ⟨some 49, none, .mov (.c (.int .i64 0))⟩]) <|
     .block 2 (.loop (.seq (.ops [⟨some 50, none, .bin .num .lss (.t 49) (.t 48)⟩]) <|
       .seq (.cond (.t 50) (.skip) (.exit 2)) <|
       .seq (.block 3 (.seq (.ops [⟨some 51, none, .idxAddrS 10 (.t 47) (.t 49)⟩, ⟨some 52, none, .loadN 10 (.t 51)⟩, ⟨some 6, none, .alloc [(.str ⟨#[]⟩), (.int .i64 0), (.int .i64 0), (.sl .nil 0 []), (.str ⟨#[]⟩), (.int .i64 0), (.int .i64 0), (.sl .nil 0 []), (.int .i64 0), (.int .i64 0)]⟩, ⟨none, none, .storeN 10 (.t 6) (.t 52)⟩]) <|
        .seq (.ops [⟨some 53, none, .fieldAddr 8 (.t 6)⟩, ⟨some 54, none, .load1 (.t 53)⟩, ⟨some 55, none, .fieldAddr 8 (.t 4)⟩, ⟨some 56, none, .load1 (.t 55)⟩, ⟨some 57, none, .bin .num .eql (.t 54) (.t 56)⟩, ⟨some 58, none, .mov (.t 57)⟩, ⟨some 59, some (58, false), .fieldAddr 0 (.t 6)⟩, ⟨some 60, some (58, false), .fieldAddr 0 (.t 59)⟩, ⟨some 61, some (58, false), .load1 (.t 60)⟩, ⟨some 62, some (58, false), .fieldAddr 0 (.t 4)⟩, ⟨some 63, some (58, false), .fieldAddr 0 (.t 62)⟩, ⟨some 64, some (58, false), .load1 (.t 63)⟩, ⟨some 65, some (58, false), .bin .num .geq (.t 61) (.t 64)⟩, ⟨some 66, none, .pick (.t 58) (.c (.bool true)) (.t 65)⟩]) <|
        .cond (.t 66) (.seq (.ops [⟨some 2, none, .mov (.c (.bool false))⟩]) <|
         .ret) (.skip))) <|
       .ops [⟨some 67, none, .bin .num .add (.t 49) (.c (.int .i64 1))⟩, ⟨some 49, none, .mov (.t 67)⟩])))) <|
    .ops [⟨some 68, none, .bin .num .add (.t 29) (.c (.int .i64 1))⟩, ⟨some 29, none, .mov (.t 68)⟩]))) <|
  .seq (.seq (.ops [⟨some 69, none, .fieldAddr 2 (.t 1)⟩, ⟨some 70, none, .load1 (.t 69)⟩, ⟨some 71, none, .lenS (.t 70)⟩, ⟨some 72, none, .mov (.c (.int .i64 0))⟩]) <|
  .block 4 (.loop (.seq (.ops [⟨some 73, none, .bin .num .lss (.t 72) (.t 71)⟩]) <|
    .seq (.cond (.t 73) (.skip) (.exit 4)) <|
    .seq (.block 5 (.seq (.ops [⟨some 74, none, .mov (.t 72)⟩, ⟨some 75, none, .idxAddrS 11 (.t 70) (.t 72)⟩, ⟨some 76, none, .loadN 11 (.t 75)⟩, ⟨some 8, none, .alloc [(.str ⟨#[]⟩), (.str ⟨#[]⟩), (.int .i64 0), (.int .i64 0), (.int .i64 0), (.int .i64 0), (.int .i64 0), (.int .i64 0), (.int .i64 0), (.int .i64 0), (.int .i64 0)]⟩, ⟨some 7, none, .mov (.t 74)⟩, ⟨none, none, .storeN 11 (.t 8) (.t 76)⟩]) <|
     .seq (.ops [⟨some 77, none, .loadN 3 (.t 1)⟩, ⟨some 78, none, .fieldAddr 0 (.t 8)⟩, ⟨some 79, none, .fieldAddr 0 (.t 78)⟩, ⟨some 80, none, .load1 (.t 79)⟩, ⟨some 81, none, .call .pure 15 [(.t 77), (.t 80)]⟩, ⟨some 9, none, .mov (.t 81)⟩]) <|
     .seq (.seq (.ops [⟨some 82, none, .mov (.t 9)⟩, ⟨some 83, none, .bin .num .lss (.t 82) (.c (.int .i64 0))⟩, ⟨some 84, none, .mov (.t 83)⟩, ⟨some 85, some (84, false), .fieldAddr 1 (.t 1)⟩, ⟨some 86, some (84, false), .load1 (.t 85)⟩, ⟨some 87, some (84, false), .mov (.t 9)⟩, ⟨some 88, some (84, false), .idxAddrS 10 (.t 86) (.t 87)⟩, ⟨some 89, some (84, false), .fieldAddr 0 (.t 88)⟩, ⟨some 90, some (84, false), .loadN 4 (.t 89)⟩, ⟨some 91, some (84, false), .fieldAddr 0 (.t 8)⟩, ⟨some 92, some (84, false), .fieldAddr 1 (.t 91)⟩, ⟨some 93, some (84, false), .load1 (.t 92)⟩, ⟨some 94, some (84, false), .call .pure 23 [(.t 90), (.t 93)]⟩, ⟨some 95, some (84, false), .bin .num .lss (.t 94) (.c (.int .i64 0))⟩, ⟨some 96, none, .pick (.t 84) (.c (.bool true)) (.t 95)⟩, ⟨some 97, none, .mov (.t 96)⟩, ⟨some 98, some (97, false), .fieldAddr 0 (.t 8)⟩, ⟨some 99, some (97, false), .fieldAddr 2 (.t 98)⟩, ⟨some 100, some (97, false), .load1 (.t 99)⟩, ⟨some 101, some (97, false), .bin .num .lss (.t 100) (.c (.int .i64 0))⟩, ⟨some 102, none, .pick (.t 97) (.c (.bool true)) (.t 101)⟩, ⟨some 103, none, .mov (.t 102)⟩, ⟨some 104, some (103, false), .fieldAddr 0 (.t 8)⟩, ⟨some 105, some (103, false), .fieldAddr 2 (.t 104)⟩, ⟨some 106, some (103, false), .load1 (.t 105)⟩, ⟨some 107, some (103, false), .bin .num .gtr (.t 106) (.c (.int .i64 1))⟩, ⟨some 108, none, .pick (.t 103) (.c (.bool true)) (.t 107)⟩, ⟨some 109, none, .mov (.t 108)⟩, ⟨some 110, some (109, false), .fieldAddr 3 (.t 8)⟩, ⟨some 111, some (109, false), .loadN 8 (.t 110)⟩, ⟨some 112, some (109, false), .build [(.int .i64 0), (.int .i64 0), (.int .i64 0), (.int .i64 0), (.int .i64 0), (.int .i64 0), (.int .i64 0), (.int .i64 0)] []⟩, ⟨some 113, some (109, false), .bin (.agg [.i, .i, .i, .i, .i, .i, .i, .i]) .eql (.t 111) (.t 112)⟩, ⟨some 114, none, .pick (.t 109) (.c (.bool true)) (.t 113)⟩]) <|
     .cond (.t 114) (.seq (.ops [⟨some 2, none, .mov (.c (.bool false))⟩]) <|
      .ret) (.skip)) <|
     .seq (.seq (.ops [⟨some 115, none, .fieldAddr 3 (.t 8)⟩, ⟨some 116, none, .loadN 8 (.t 115)⟩, ⟨some 117, none, .mov (.c (.int .i64 0))⟩]) <|
     .block 6 (.loop (.seq (.ops [⟨some 118, none, .bin .num .lss (.t 117) (.c (.int .i64 8))⟩]) <|
       .seq (.cond (.t 118) (.skip) (.exit 6)) <|
       .seq (.block 7 (.seq (.ops [⟨some 119, none, .idxA1 8 (.t 116) (.t 117)⟩, ⟨some 11, none, .mov (.t 119)⟩]) <|
        .seq (.ops [⟨some 120, none, .mov (.t 11)⟩, ⟨some 121, none, .bin .num .lss (.t 120) (.c (.int .i64 0))⟩, ⟨some 122, none, .mov (.t 121)⟩, ⟨some 123, some (122, false), .mov (.t 11)⟩, ⟨some 124, some (122, false), .bin .num .gtr (.t 123) (.c (.int .i64 1073741824))⟩, ⟨some 125, none, .pick (.t 122) (.c (.bool true)) (.t 124)⟩]) <|
        .cond (.t 125) (.seq (.ops [⟨some 2, none, .mov (.c (.bool false))⟩]) <|
         .ret) (.skip))) <|
       .ops [⟨some 126, none, .bin .num .add (.t 117) (.c (.int .i64 1))⟩, ⟨some 117, none, .mov (.t 126)⟩]))) <|
     .seq (.ops [⟨some 127, none, .mov (.t 7)⟩, ⟨some 128, none, .bin .num .gtr (.t 127) (.c (.int .i64 0))⟩, ⟨some 129, none, .mov (.t 128)⟩, ⟨some 130, some (129, true), .fieldAddr 2 (.t 1)⟩, ⟨some 131, some (129, true), .load1 (.t 130)⟩, ⟨some 132, some (129, true), .mov (.t 7)⟩, ⟨some 133, some (129, true), .bin .num .sub (.t 132) (.c (.int .i64 1))⟩, ⟨some 134, some (129, true), .idxAddrS 11 (.t 131) (.t 133)⟩, ⟨some 135, some (129, true), .fieldAddr 0 (.t 134)⟩, ⟨some 136, some (129, true), .loadN 3 (.t 135)⟩, ⟨some 137, some (129, true), .fieldAddr 0 (.t 8)⟩, ⟨some 138, some (129, true), .loadN 3 (.t 137)⟩, ⟨some 139, some (129, true), .call .pure 24 [(.t 136), (.t 138)]⟩, ⟨some 140, some (129, true), .un .not (.t 139)⟩, ⟨some 141, none, .pick (.t 129) (.t 140) (.c (.bool false))⟩]) <|
     .cond (.t 141) (.seq (.ops [⟨some 2, none, .mov (.c (.bool false))⟩]) <|
      .ret) (.skip))) <|
    .ops [⟨some 142, none, .bin .num .add (.t 72) (.c (.int .i64 1))⟩, ⟨some 72, none, .mov (.t 142)⟩]))) <|
  .seq (.ops [⟨some 2, none, .mov (.c (.bool true))⟩]) <|
  .ret
def v8 : VFunc := ⟨143, [.tmp 2], c8⟩
/-- berthing/berthingref15.Put -/
def c9 : VCode :=
  .seq (.ops [⟨some 1, none, .box (.t 0)⟩, ⟨some 2, none, .mov (.c (.str ⟨#[]⟩))⟩]) <|
  .seq (.ops [⟨some 13, none, .fieldAddr 0 (.t 1)⟩, ⟨some 14, none, .load1 (.t 13)⟩, ⟨some 15, none, .conv .u64 (.t 14)⟩, ⟨some 16, none, .call .pure 25 [(.t 15)]⟩, ⟨some 17, none, .fieldAddr 1 (.t 1)⟩, ⟨some 18, none, .load1 (.t 17)⟩, ⟨some 19, none, .lenS (.t 18)⟩, ⟨some 20, none, .conv .u64 (.t 19)⟩, ⟨some 21, none, .call .pure 25 [(.t 20)]⟩, ⟨some 22, none, .bin .num .add (.t 16) (.t 21)⟩, ⟨some 3, none, .mov (.t 22)⟩]) <|
  .seq (.seq (.ops [⟨some 23, none, .fieldAddr 1 (.t 1)⟩, ⟨some 24, none, .load1 (.t 23)⟩, ⟨some 25, none, .lenS (.t 24)⟩, ⟨some 26, none, .mov (.c (.int .i64 0))⟩]) <|
  .block 0 (.loop (.seq (.ops [⟨some 27, none, .bin .num .lss (.t 26) (.t 25)⟩]) <|
    .seq (.cond (.t 27) (.skip) (.exit 0)) <|
    .seq (.block 1 (.seq (.ops [⟨some 28, none, .idxAddrS 10 (.t 24) (.t 26)⟩, ⟨some 29, none, .loadN 10 (.t 28)⟩, ⟨some 5, none, .alloc [(.str ⟨#[]⟩), (.int .i64 0), (.int .i64 0), (.sl .nil 0 []), (.str ⟨#[]⟩), (.int .i64 0), (.int .i64 0), (.sl .nil 0 []), (.int .i64 0), (.int .i64 0)]⟩, ⟨none, none, .storeN 10 (.t 5) (.t 29)⟩]) <|
     .seq (.ops [⟨some 30, none, .mov (.t 3)⟩, ⟨some 31, none, .fieldAddr 0 (.t 5)⟩, ⟨some 32, none, .fieldAddr 0 (.t 31)⟩, ⟨some 33, none, .load1 (.t 32)⟩, ⟨some 34, none, .call .pure 26 [(.t 33)]⟩, ⟨some 35, none, .fieldAddr 0 (.t 5)⟩, ⟨some 36, none, .fieldAddr 1 (.t 35)⟩, ⟨some 37, none, .load1 (.t 36)⟩, ⟨some 38, none, .call .pure 27 [(.t 37)]⟩, ⟨some 39, none, .bin .num .add (.t 34) (.t 38)⟩, ⟨some 40, none, .fieldAddr 0 (.t 5)⟩, ⟨some 41, none, .fieldAddr 2 (.t 40)⟩, ⟨some 42, none, .load1 (.t 41)⟩, ⟨some 43, none, .conv .u64 (.t 42)⟩, ⟨some 44, none, .call .pure 25 [(.t 43)]⟩, ⟨some 45, none, .bin .num .add (.t 39) (.t 44)⟩, ⟨some 46, none, .fieldAddr 0 (.t 5)⟩, ⟨some 47, none, .fieldAddr 3 (.t 46)⟩, ⟨some 48, none, .load1 (.t 47)⟩, ⟨some 49, none, .lenS (.t 48)⟩, ⟨some 50, none, .conv .u64 (.t 49)⟩, ⟨some 51, none, .call .pure 25 [(.t 50)]⟩, ⟨some 52, none, .bin .num .add (.t 45) (.t 51)⟩, ⟨some 53, none, .bin .num .add (.t 30) (.t 52)⟩, ⟨some 3, none, .mov (.t 53)⟩]) <|
     .seq (.seq (.ops [⟨some 54, none, .fieldAddr 0 (.t 5)⟩, ⟨some 55, none, .fieldAddr 3 (.t 54)⟩, ⟨some 56, none, .load1 (.t 55)⟩, ⟨some 57, none, .lenS (.t 56)⟩, ⟨some 58, none, .mov (.c (.int .i64 0))⟩]) <|
     .block 2 (.loop (.seq (.ops [⟨some 59, none, .bin .num .lss (.t 58) (.t 57)⟩]) <|
       .seq (.cond (.t 59) (.skip) (.exit 2)) <|
       .seq (.block 3 (.seq (.ops [⟨some 60, none, .mov (.t 58)⟩, ⟨some 61, none, .idxAddrS 10 (.t 56) (.t 58)⟩, ⟨some 62, none, .loadN 10 (.t 61)⟩, ⟨some 7, none, .alloc [(.str ⟨#[]⟩), (.int .i64 0), (.int .i64 0), (.int .i64 0), (.int .i64 0), (.int .i64 0), (.int .i64 0), (.bool false), (.bool false), (.bool false)]⟩, ⟨some 6, none, .mov (.t 60)⟩, ⟨none, none, .storeN 10 (.t 7) (.t 62)⟩]) <|
        .seq (.ops [⟨some 63, none, .fieldAddr 4 (.t 5)⟩, ⟨some 64, none, .fieldAddr 3 (.t 63)⟩, ⟨some 65, none, .load1 (.t 64)⟩, ⟨some 66, none, .mov (.t 6)⟩, ⟨some 67, none, .idxAddrS 10 (.t 65) (.t 66)⟩, ⟨some 68, none, .loadN 10 (.t 67)⟩, ⟨some 8, none, .alloc [(.str ⟨#[]⟩), (.int .i64 0), (.int .i64 0), (.int .i64 0), (.int .i64 0), (.int .i64 0), (.int .i64 0), (.bool false), (.bool false), (.bool false)]⟩, ⟨none, none, .storeN 10 (.t 8) (.t 68)⟩]) <|
        .seq (.ops [⟨some 69, none, .mov (.t 3)⟩, ⟨some 70, none, .fieldAddr 0 (.t 7)⟩, ⟨some 71, none, .load1 (.t 70)⟩, ⟨some 72, none, .call .pure 26 [(.t 71)]⟩, ⟨some 73, none, .fieldAddr 7 (.t 7)⟩, ⟨some 74, none, .idxAddrA 3 1 (.t 73) (.c (.int .i64 0))⟩, ⟨some 75, none, .load1 (.t 74)⟩, ⟨some 76, none, .call .pure 28 [(.t 75)]⟩, ⟨some 77, none, .bin .num .add (.t 72) (.t 76)⟩, ⟨some 78, none, .fieldAddr 7 (.t 7)⟩, ⟨some 79, none, .idxAddrA 3 1 (.t 78) (.c (.int .i64 1))⟩, ⟨some 80, none, .load1 (.t 79)⟩, ⟨some 81, none, .call .pure 28 [(.t 80)]⟩, ⟨some 82, none, .bin .num .add (.t 77) (.t 81)⟩, ⟨some 83, none, .fieldAddr 7 (.t 7)⟩, ⟨some 84, none, .idxAddrA 3 1 (.t 83) (.c (.int .i64 2))⟩, ⟨some 85, none, .load1 (.t 84)⟩, ⟨some 86, none, .call .pure 28 [(.t 85)]⟩, ⟨some 87, none, .bin .num .add (.t 82) (.t 86)⟩, ⟨some 88, none, .bin .num .add (.t 69) (.t 87)⟩, ⟨some 3, none, .mov (.t 88)⟩]) <|
        .ops [⟨some 89, none, .mov (.t 3)⟩, ⟨some 90, none, .fieldAddr 1 (.t 7)⟩, ⟨some 91, none, .loadN 3 (.t 90)⟩, ⟨some 92, none, .call .pure 29 [(.t 91)]⟩, ⟨some 93, none, .fieldAddr 4 (.t 7)⟩, ⟨some 94, none, .loadN 3 (.t 93)⟩, ⟨some 95, none, .call .pure 29 [(.t 94)]⟩, ⟨some 96, none, .bin .num .add (.t 92) (.t 95)⟩, ⟨some 97, none, .fieldAddr 1 (.t 8)⟩, ⟨some 98, none, .loadN 3 (.t 97)⟩, ⟨some 99, none, .call .pure 29 [(.t 98)]⟩, ⟨some 100, none, .bin .num .add (.t 96) (.t 99)⟩, ⟨some 101, none, .fieldAddr 4 (.t 8)⟩, ⟨some 102, none, .loadN 3 (.t 101)⟩, ⟨some 103, none, .call .pure 29 [(.t 102)]⟩, ⟨some 104, none, .bin .num .add (.t 100) (.t 103)⟩, ⟨some 105, none, .bin .num .add (.t 89) (.t 104)⟩, ⟨some 3, none, .mov (.t 105)⟩])) <|
       .ops [⟨some 106, none, .bin .num .add (.t 58) (.c (.int .i64 1))⟩, ⟨some 58, none, .mov (.t 106)⟩]))) <|
     .ops [⟨some 107, none, .mov (.t 3)⟩, ⟨some 108, none, .fieldAddr 8 (.t 5)⟩, ⟨some 109, none, .load1 (.t 108)⟩, ⟨some 110, none, .conv .u64 (.t 109)⟩, ⟨some 111, none, .call .pure 25 [(.t 110)]⟩, ⟨some 112, none, .fieldAddr 9 (.t 5)⟩, ⟨some 113, none, .load1 (.t 112)⟩, ⟨some 114, none, .conv .u64 (.t 113)⟩, ⟨some 115, none, .call .pure 25 [(.t 114)]⟩, ⟨some 116, none, .bin .num .add (.t 111) (.t 115)⟩, ⟨some 117, none, .bin .num .add (.t 107) (.t 116)⟩, ⟨some 3, none, .mov (.t 117)⟩])) <|
    .ops [⟨some 118, none, .bin .num .add (.t 26) (.c (.int .i64 1))⟩, ⟨some 26, none, .mov (.t 118)⟩]))) <|
  .seq (.ops [⟨some 119, none, .mov (.t 3)⟩, ⟨some 120, none, .fieldAddr 2 (.t 1)⟩, ⟨some 121, none, .load1 (.t 120)⟩, ⟨some 122, none, .lenS (.t 121)⟩, ⟨some 123, none, .conv .u64 (.t 122)⟩, ⟨some 124, none, .call .pure 25 [(.t 123)]⟩, ⟨some 125, none, .bin .num .add (.t 119) (.t 124)⟩, ⟨some 3, none, .mov (.t 125)⟩]) <|
  .seq (.seq (.ops [⟨some 126, none, .fieldAddr 2 (.t 1)⟩, ⟨some 127, none, .load1 (.t 126)⟩, ⟨some 128, none, .lenS (.t 127)⟩, ⟨some 129, none, .mov (.c (.int .i64 0))⟩]) <|
  .block 4 (.loop (.seq (.ops [⟨some 130, none, .bin .num .lss (.t 129) (.t 128)⟩]) <|
    .seq (.cond (.t 130) (.skip) (.exit 4)) <|
    .seq (.block 5 (.seq (.ops [⟨some 131, none, .idxAddrS 11 (.t 127) (.t 129)⟩, ⟨some 132, none, .loadN 11 (.t 131)⟩, ⟨some 10, none, .alloc [(.str ⟨#[]⟩), (.str ⟨#[]⟩), (.int .i64 0), (.int .i64 0), (.int .i64 0), (.int .i64 0), (.int .i64 0), (.int .i64 0), (.int .i64 0), (.int .i64 0), (.int .i64 0)]⟩, ⟨none, none, .storeN 11 (.t 10) (.t 132)⟩]) <|
     .seq (.ops [⟨some 133, none, .mov (.t 3)⟩, ⟨some 134, none, .fieldAddr 0 (.t 10)⟩, ⟨some 135, none, .fieldAddr 0 (.t 134)⟩, ⟨some 136, none, .load1 (.t 135)⟩, ⟨some 137, none, .call .pure 26 [(.t 136)]⟩, ⟨some 138, none, .fieldAddr 0 (.t 10)⟩, ⟨some 139, none, .fieldAddr 1 (.t 138)⟩, ⟨some 140, none, .load1 (.t 139)⟩, ⟨some 141, none, .call .pure 26 [(.t 140)]⟩, ⟨some 142, none, .bin .num .add (.t 137) (.t 141)⟩, ⟨some 143, none, .fieldAddr 0 (.t 10)⟩, ⟨some 144, none, .fieldAddr 2 (.t 143)⟩, ⟨some 145, none, .load1 (.t 144)⟩, ⟨some 146, none, .conv .u64 (.t 145)⟩, ⟨some 147, none, .call .pure 25 [(.t 146)]⟩, ⟨some 148, none, .bin .num .add (.t 142) (.t 147)⟩, ⟨some 149, none, .bin .num .add (.t 133) (.t 148)⟩, ⟨some 3, none, .mov (.t 149)⟩]) <|
     .seq (.ops [⟨some 150, none, .fieldAddr 3 (.t 10)⟩, ⟨some 151, none, .loadN 8 (.t 150)⟩, ⟨some 152, none, .mov (.c (.int .i64 0))⟩]) <|
     .block 6 (.loop (.seq (.ops [⟨some 153, none, .bin .num .lss (.t 152) (.c (.int .i64 8))⟩]) <|
       .seq (.cond (.t 153) (.skip) (.exit 6)) <|
       .seq (.block 7 (.seq (.ops [⟨some 154, none, .idxA1 8 (.t 151) (.t 152)⟩, ⟨some 12, none, .mov (.t 154)⟩]) <|
        .ops [⟨some 155, none, .mov (.t 3)⟩, ⟨some 156, none, .mov (.t 12)⟩, ⟨some 157, none, .conv .u64 (.t 156)⟩, ⟨some 158, none, .call .pure 25 [(.t 157)]⟩, ⟨some 159, none, .bin .num .add (.t 155) (.t 158)⟩, ⟨some 3, none, .mov (.t 159)⟩])) <|
       .ops [⟨some 160, none, .bin .num .add (.t 152) (.c (.int .i64 1))⟩, ⟨some 152, none, .mov (.t 160)⟩])))) <|
    .ops [⟨some 161, none, .bin .num .add (.t 129) (.c (.int .i64 1))⟩, ⟨some 129, none, .mov (.t 161)⟩]))) <|
  .seq (.ops [⟨some 162, none, .mov (.t 3)⟩, ⟨some 2, none, .mov (.t 162)⟩]) <|
  .ret
def v9 : VFunc := ⟨163, [.tmp 2], c9⟩
/-- berthing/record.Entry -/
def c10 : VCode :=
  .seq (.ops [⟨some 1, none, .box (.t 0)⟩, ⟨some 2, none, .mov (.c (.bool false))⟩]) <|
  .seq (.ops [⟨some 3, none, .fieldAddr 0 (.t 1)⟩, ⟨some 4, none, .loadN 4 (.t 3)⟩, ⟨some 5, none, .call .pure 30 [(.t 4)]⟩, ⟨some 6, none, .mov (.t 5)⟩, ⟨some 7, some (6, true), .fieldAddr 4 (.t 1)⟩, ⟨some 8, some (6, true), .loadN 4 (.t 7)⟩, ⟨some 9, some (6, true), .call .pure 30 [(.t 8)]⟩, ⟨some 10, none, .pick (.t 6) (.t 9) (.c (.bool false))⟩, ⟨some 11, none, .mov (.t 10)⟩, ⟨some 12, some (11, true), .fieldAddr 0 (.t 1)⟩, ⟨some 13, some (11, true), .loadN 4 (.t 12)⟩, ⟨some 14, some (11, true), .fieldAddr 4 (.t 1)⟩, ⟨some 15, some (11, true), .loadN 4 (.t 14)⟩, ⟨some 16, some (11, true), .call .pure 12 [(.t 13), (.t 15)]⟩, ⟨some 17, none, .pick (.t 11) (.t 16) (.c (.bool false))⟩, ⟨some 18, none, .mov (.t 17)⟩, ⟨some 19, some (18, true), .fieldAddr 0 (.t 1)⟩, ⟨some 20, some (18, true), .loadN 4 (.t 19)⟩, ⟨some 21, some (18, true), .call .pure 31 [(.t 20)]⟩, ⟨some 22, some (18, true), .fieldAddr 4 (.t 1)⟩, ⟨some 23, some (18, true), .loadN 4 (.t 22)⟩, ⟨some 24, some (18, true), .call .pure 31 [(.t 23)]⟩, ⟨some 25, some (18, true), .bin .num .eql (.t 21) (.t 24)⟩, ⟨some 26, none, .pick (.t 18) (.t 25) (.c (.bool false))⟩, ⟨some 27, none, .mov (.t 26)⟩, ⟨some 28, some (27, true), .fieldAddr 8 (.t 1)⟩, ⟨some 29, some (27, true), .load1 (.t 28)⟩, ⟨some 30, some (27, true), .bin .num .geq (.t 29) (.c (.int .i64 0))⟩, ⟨some 31, none, .pick (.t 27) (.t 30) (.c (.bool false))⟩, ⟨some 32, none, .mov (.t 31)⟩, ⟨some 33, some (32, true), .fieldAddr 8 (.t 1)⟩, ⟨some 34, some (32, true), .load1 (.t 33)⟩, ⟨some 35, some (32, true), .bin .num .leq (.t 34) (.c (.int .i64 1099511627776))⟩, ⟨some 36, none, .pick (.t 32) (.t 35) (.c (.bool false))⟩, ⟨some 37, none, .mov (.t 36)⟩, ⟨some 38, some (37, true), .fieldAddr 9 (.t 1)⟩, ⟨some 39, some (37, true), .load1 (.t 38)⟩, ⟨some 40, some (37, true), .bin .num .geq (.t 39) (.c (.int .i64 0))⟩, ⟨some 41, none, .pick (.t 37) (.t 40) (.c (.bool false))⟩, ⟨some 42, none, .mov (.t 41)⟩, ⟨some 43, some (42, true), .fieldAddr 9 (.t 1)⟩, ⟨some 44, some (42, true), .load1 (.t 43)⟩, ⟨some 45, some (42, true), .fieldAddr 0 (.t 1)⟩, ⟨some 46, some (42, true), .fieldAddr 3 (.t 45)⟩, ⟨some 47, some (42, true), .load1 (.t 46)⟩, ⟨some 48, some (42, true), .lenS (.t 47)⟩, ⟨some 49, some (42, true), .bin .num .shl (.c (.int .i64 1)) (.t 48)⟩, ⟨some 50, some (42, true), .bin .num .lss (.t 44) (.t 49)⟩, ⟨some 51, none, .pick (.t 42) (.t 50) (.c (.bool false))⟩, ⟨some 2, none, .mov (.t 51)⟩]) <|
  .ret
def v10 : VFunc := ⟨52, [.tmp 2], c10⟩
/-- berthing/berthingref15.Entry -/
def c11 : VCode :=
  .seq (.ops [⟨some 1, none, .box (.t 0)⟩, ⟨some 2, none, .mov (.c (.bool false))⟩]) <|
  .seq (.draw [(3, [(.str ⟨#[]⟩), (.int .i64 0), (.int .i64 0), (.sl .nil 0 [])]), (4, [(.str ⟨#[]⟩), (.int .i64 0), (.int .i64 0), (.sl .nil 0 [])])] [⟨some 6, none, .fieldAddr 0 (.t 1)⟩, ⟨some 7, none, .loadN 4 (.t 6)⟩, ⟨some 8, none, .fieldAddr 4 (.t 1)⟩, ⟨some 9, none, .loadN 4 (.t 8)⟩, ⟨none, none, .idle⟩, ⟨none, none, .idle⟩, ⟨none, none, .storeN 4 (.t 3) (.t 7)⟩, ⟨none, none, .storeN 4 (.t 4) (.t 9)⟩] [(3, 6)]) <|
  .seq (.seq (.ops [⟨some 10, none, .loadN 4 (.t 3)⟩, ⟨some 11, none, .call .pure 32 [(.t 10)]⟩, ⟨some 12, none, .un .not (.t 11)⟩, ⟨some 13, none, .mov (.t 12)⟩, ⟨some 14, some (13, false), .loadN 4 (.t 4)⟩, ⟨some 15, some (13, false), .call .pure 32 [(.t 14)]⟩, ⟨some 16, some (13, false), .un .not (.t 15)⟩, ⟨some 17, none, .pick (.t 13) (.c (.bool true)) (.t 16)⟩, ⟨some 18, none, .mov (.t 17)⟩, ⟨some 19, some (18, false), .loadN 4 (.t 3)⟩, ⟨some 20, some (18, false), .loadN 4 (.t 4)⟩, ⟨some 21, some (18, false), .call .pure 13 [(.t 19), (.t 20)]⟩, ⟨some 22, some (18, false), .un .not (.t 21)⟩, ⟨some 23, none, .pick (.t 18) (.c (.bool true)) (.t 22)⟩, ⟨some 24, none, .mov (.t 23)⟩, ⟨some 25, some (24, false), .loadN 4 (.t 3)⟩, ⟨some 26, some (24, false), .call .pure 33 [(.t 25)]⟩, ⟨some 27, some (24, false), .loadN 4 (.t 4)⟩, ⟨some 28, some (24, false), .call .pure 33 [(.t 27)]⟩, ⟨some 29, some (24, false), .bin .num .neq (.t 26) (.t 28)⟩, ⟨some 30, none, .pick (.t 24) (.c (.bool true)) (.t 29)⟩, ⟨some 31, none, .mov (.t 30)⟩, ⟨some 32, some (31, false), .fieldAddr 8 (.t 1)⟩, ⟨some 33, some (31, false), .load1 (.t 32)⟩, ⟨some 34, some (31, false), .bin .num .lss (.t 33) (.c (.int .i64 0))⟩, ⟨some 35, none, .pick (.t 31) (.c (.bool true)) (.t 34)⟩, ⟨some 36, none, .mov (.t 35)⟩, ⟨some 37, some (36, false), .fieldAddr 8 (.t 1)⟩, ⟨some 38, some (36, false), .load1 (.t 37)⟩, ⟨some 39, some (36, false), .bin .num .gtr (.t 38) (.c (.int .i64 1099511627776))⟩, ⟨some 40, none, .pick (.t 36) (.c (.bool true)) (.t 39)⟩, ⟨some 41, none, .mov (.t 40)⟩, ⟨some 42, some (41, false), .fieldAddr 9 (.t 1)⟩, ⟨some 43, some (41, false), .load1 (.t 42)⟩, ⟨some 44, some (41, false), .bin .num .lss (.t 43) (.c (.int .i64 0))⟩, ⟨some 45, none, .pick (.t 41) (.c (.bool true)) (.t 44)⟩]) <|
  .cond (.t 45) (.seq (.ops [⟨some 2, none, .mov (.c (.bool false))⟩]) <|
   .ret) (.skip)) <|
  .seq (.ops [⟨some 5, none, .mov (.c (.int .i64 1))⟩]) <|
  .seq (.seq (.ops [⟨some 46, none, .fieldAddr 3 (.t 3)⟩, ⟨some 47, none, .load1 (.t 46)⟩, ⟨some 48, none, .lenS (.t 47)⟩, ⟨some 49, none, .mov (.c (.int .i64 0))⟩]) <|
  .block 0 (.loop (.seq (.ops [⟨some 50, none, .bin .num .lss (.t 49) (.t 48)⟩]) <|
    .seq (.cond (.t 50) (.skip) (.exit 0)) <|
    .seq (.block 1 (.ops [⟨some 51, none, .mov (.t 5)⟩, ⟨some 52, none, .bin .num .mul (.t 51) (.c (.int .i64 2))⟩, ⟨some 5, none, .mov (.t 52)⟩])) <|
    .ops [⟨some 53, none, .bin .num .add (.t 49) (.c (.int .i64 1))⟩, ⟨some 49, none, .mov (.t 53)⟩]))) <|
  .seq (.ops [⟨some 54, none, .fieldAddr 9 (.t 1)⟩, ⟨some 55, none, .load1 (.t 54)⟩, ⟨some 56, none, .mov (.t 5)⟩, ⟨some 57, none, .bin .num .lss (.t 55) (.t 56)⟩, ⟨some 2, none, .mov (.t 57)⟩]) <|
  .ret
def v11 : VFunc := ⟨58, [.tmp 2], c11⟩
/-- berthing/record.Kin -/
def c12 : VCode :=
  .seq (.ops [⟨some 2, none, .box (.t 0)⟩, ⟨some 3, none, .box (.t 1)⟩, ⟨some 4, none, .mov (.c (.bool false))⟩]) <|
  .seq (.ops [⟨some 5, none, .mov (.f 34)⟩]) <|
  .seq (.ops [⟨some 6, none, .fieldAddr 0 (.t 2)⟩, ⟨some 7, none, .load1 (.t 6)⟩, ⟨some 8, none, .fieldAddr 0 (.t 3)⟩, ⟨some 9, none, .load1 (.t 8)⟩, ⟨some 10, none, .bin .num .eql (.t 7) (.t 9)⟩, ⟨some 11, none, .mov (.t 10)⟩, ⟨some 12, some (11, true), .fieldAddr 1 (.t 2)⟩, ⟨some 13, some (11, true), .load1 (.t 12)⟩, ⟨some 14, some (11, true), .fieldAddr 1 (.t 3)⟩, ⟨some 15, some (11, true), .load1 (.t 14)⟩, ⟨some 16, some (11, true), .bin .num .eql (.t 13) (.t 15)⟩, ⟨some 17, none, .pick (.t 11) (.t 16) (.c (.bool false))⟩, ⟨some 18, none, .mov (.t 17)⟩, ⟨some 19, some (18, true), .fieldAddr 2 (.t 2)⟩, ⟨some 20, some (18, true), .load1 (.t 19)⟩, ⟨some 21, some (18, true), .fieldAddr 2 (.t 3)⟩, ⟨some 22, some (18, true), .load1 (.t 21)⟩, ⟨some 23, some (18, true), .bin .num .eql (.t 20) (.t 22)⟩, ⟨some 24, none, .pick (.t 18) (.t 23) (.c (.bool false))⟩, ⟨some 25, none, .mov (.t 24)⟩, ⟨some 26, some (25, true), .fieldAddr 3 (.t 2)⟩, ⟨some 27, some (25, true), .load1 (.t 26)⟩, ⟨some 28, some (25, true), .fieldAddr 3 (.t 3)⟩, ⟨some 29, some (25, true), .load1 (.t 28)⟩, ⟨some 30, some (25, true), .mov (.t 5)⟩, ⟨some 31, some (25, true), .call .pure 35 [(.t 27), (.t 29), (.t 30)]⟩, ⟨some 32, none, .pick (.t 25) (.t 31) (.c (.bool false))⟩, ⟨some 4, none, .mov (.t 32)⟩]) <|
  .ret
def v12 : VFunc := ⟨33, [.tmp 4], c12⟩
/-- berthing/berthingref15.Kin -/
def c13 : VCode :=
  .seq (.ops [⟨some 2, none, .box (.t 0)⟩, ⟨some 3, none, .box (.t 1)⟩, ⟨some 4, none, .mov (.c (.bool false))⟩]) <|
  .seq (.seq (.ops [⟨some 7, none, .fieldAddr 0 (.t 2)⟩, ⟨some 8, none, .load1 (.t 7)⟩, ⟨some 9, none, .fieldAddr 0 (.t 3)⟩, ⟨some 10, none, .load1 (.t 9)⟩, ⟨some 11, none, .bin .num .neq (.t 8) (.t 10)⟩, ⟨some 12, none, .mov (.t 11)⟩, ⟨some 13, some (12, false), .fieldAddr 1 (.t 2)⟩, ⟨some 14, some (12, false), .load1 (.t 13)⟩, ⟨some 15, some (12, false), .fieldAddr 1 (.t 3)⟩, ⟨some 16, some (12, false), .load1 (.t 15)⟩, ⟨some 17, some (12, false), .bin .num .neq (.t 14) (.t 16)⟩, ⟨some 18, none, .pick (.t 12) (.c (.bool true)) (.t 17)⟩, ⟨some 19, none, .mov (.t 18)⟩, ⟨some 20, some (19, false), .fieldAddr 2 (.t 2)⟩, ⟨some 21, some (19, false), .load1 (.t 20)⟩, ⟨some 22, some (19, false), .fieldAddr 2 (.t 3)⟩, ⟨some 23, some (19, false), .load1 (.t 22)⟩, ⟨some 24, some (19, false), .bin .num .neq (.t 21) (.t 23)⟩, ⟨some 25, none, .pick (.t 19) (.c (.bool true)) (.t 24)⟩, ⟨some 26, none, .mov (.t 25)⟩, ⟨some 27, some (26, false), .fieldAddr 3 (.t 2)⟩, ⟨some 28, some (26, false), .load1 (.t 27)⟩, ⟨some 29, some (26, false), .lenS (.t 28)⟩, ⟨some 30, some (26, false), .fieldAddr 3 (.t 3)⟩, ⟨some 31, some (26, false), .load1 (.t 30)⟩, ⟨some 32, some (26, false), .lenS (.t 31)⟩, ⟨some 33, some (26, false), .bin .num .neq (.t 29) (.t 32)⟩, ⟨some 34, none, .pick (.t 26) (.c (.bool true)) (.t 33)⟩]) <|
  .cond (.t 34) (.seq (.ops [⟨some 4, none, .mov (.c (.bool false))⟩]) <|
   .ret) (.skip)) <|
  .seq (.seq (.ops [⟨some 35, none, .fieldAddr 3 (.t 2)⟩, ⟨some 36, none, .load1 (.t 35)⟩, ⟨some 37, none, .lenS (.t 36)⟩, ⟨some 38, none, .mov (.c (.int .i64 0))⟩]) <|
  .block 0 (.loop (.seq (.ops [⟨some 39, none, .bin .num .lss (.t 38) (.t 37)⟩]) <|
    .seq (.cond (.t 39) (.skip) (.exit 0)) <|
    .seq (.block 1 (.seq (.ops [⟨some 40, none, .mov (.t 38)⟩, ⟨some 41, none, .idxAddrS 10 (.t 36) (.t 38)⟩, ⟨some 42, none, .loadN 10 (.t 41)⟩, ⟨some 6, none, .alloc [(.str ⟨#[]⟩), (.int .i64 0), (.int .i64 0), (.int .i64 0), (.int .i64 0), (.int .i64 0), (.int .i64 0), (.bool false), (.bool false), (.bool false)]⟩, ⟨some 5, none, .mov (.t 40)⟩, ⟨none, none, .storeN 10 (.t 6) (.t 42)⟩]) <|
     .seq (.ops [⟨some 43, none, .fieldAddr 0 (.t 6)⟩, ⟨some 44, none, .load1 (.t 43)⟩, ⟨some 45, none, .fieldAddr 3 (.t 3)⟩, ⟨some 46, none, .load1 (.t 45)⟩, ⟨some 47, none, .mov (.t 5)⟩, ⟨some 48, none, .idxAddrS 10 (.t 46) (.t 47)⟩, ⟨some 49, none, .fieldAddr 0 (.t 48)⟩, ⟨some 50, none, .load1 (.t 49)⟩, ⟨some 51, none, .bin .num .neq (.t 44) (.t 50)⟩, ⟨some 52, none, .mov (.t 51)⟩, ⟨some 53, some (52, false), .fieldAddr 7 (.t 6)⟩, ⟨some 54, some (52, false), .loadN 3 (.t 53)⟩, ⟨some 55, some (52, false), .fieldAddr 3 (.t 3)⟩, ⟨some 56, some (52, false), .load1 (.t 55)⟩, ⟨some 57, some (52, false), .mov (.t 5)⟩, ⟨some 58, some (52, false), .idxAddrS 10 (.t 56) (.t 57)⟩, ⟨some 59, some (52, false), .fieldAddr 7 (.t 58)⟩, ⟨some 60, some (52, false), .loadN 3 (.t 59)⟩, ⟨some 61, some (52, false), .bin (.agg [.b, .b, .b]) .neq (.t 54) (.t 60)⟩, ⟨some 62, none, .pick (.t 52) (.c (.bool true)) (.t 61)⟩]) <|
     .cond (.t 62) (.seq (.ops [⟨some 4, none, .mov (.c (.bool false))⟩]) <|
      .ret) (.skip))) <|
    .ops [⟨some 63, none, .bin .num .add (.t 38) (.c (.int .i64 1))⟩, ⟨some 38, none, .mov (.t 63)⟩]))) <|
  .seq (.ops [⟨some 4, none, .mov (.c (.bool true))⟩]) <|
  .ret
def v13 : VFunc := ⟨64, [.tmp 4], c13⟩
/-- berthing/record.Find -/
def c14 : VCode :=
  .seq (.ops [⟨some 2, none, .box (.t 0)⟩, ⟨some 3, none, .box (.t 1)⟩, ⟨some 4, none, .mov (.c (.int .i64 0))⟩, ⟨some 5, none, .mov (.c (.bool false))⟩]) <|
  .seq (.ops [⟨some 7, none, .fieldAddr 1 (.t 2)⟩, ⟨some 8, none, .load1 (.t 7)⟩, ⟨some 9, none, .mkFn 37 [] [(.t 3)]⟩, ⟨some 10, none, .call .shared 36 [(.t 8), (.t 9)]⟩, ⟨some 6, none, .mov (.t 10)⟩]) <|
  .seq (.ops [⟨some 11, none, .mov (.t 6)⟩, ⟨some 12, none, .minmax true [(.t 11), (.c (.int .i64 0))]⟩, ⟨some 13, none, .mov (.t 6)⟩, ⟨some 14, none, .bin .num .geq (.t 13) (.c (.int .i64 0))⟩, ⟨some 4, none, .mov (.t 12)⟩, ⟨some 5, none, .mov (.t 14)⟩]) <|
  .ret
def v14 : VFunc := ⟨15, [.tmp 4, .tmp 5], c14⟩
/-- berthing/berthingref15.Find -/
def c15 : VCode :=
  .seq (.ops [⟨some 2, none, .box (.t 0)⟩, ⟨some 4, none, .mov (.c (.int .i64 0))⟩]) <|
  .seq (.seq (.ops [⟨some 7, none, .fieldAddr 1 (.t 2)⟩, ⟨some 8, none, .load1 (.t 7)⟩, ⟨some 9, none, .lenS (.t 8)⟩, ⟨some 10, none, .mov (.c (.int .i64 0))⟩]) <|
  .block 0 (.loop (.seq (.ops [⟨some 11, none, .bin .num .lss (.t 10) (.t 9)⟩]) <|
    .seq (.cond (.t 11) (.skip) (.exit 0)) <|
    .seq (.block 1 (.seq (.ops [⟨some 12, none, .mov (.t 10)⟩, ⟨some 13, none, .idxAddrS 10 (.t 8) (.t 10)⟩, ⟨some 14, none, .loadN 10 (.t 13)⟩, ⟨some 6, none, .alloc [(.str ⟨#[]⟩), (.int .i64 0), (.int .i64 0), (.sl .nil 0 []), (.str ⟨#[]⟩), (.int .i64 0), (.int .i64 0), (.sl .nil 0 []), (.int .i64 0), (.int .i64 0)]⟩, ⟨some 5, none, .mov (.t 12)⟩, ⟨none, none, .storeN 10 (.t 6) (.t 14)⟩]) <|
     .seq (.ops [⟨some 15, none, .fieldAddr 0 (.t 6)⟩, ⟨some 16, none, .fieldAddr 0 (.t 15)⟩, ⟨some 17, none, .load1 (.t 16)⟩, ⟨some 18, none, .mov (.t 1)⟩, ⟨some 19, none, .bin .num .eql (.t 17) (.t 18)⟩]) <|
     .cond (.t 19) (.seq (.ops [⟨some 20, none, .mov (.t 5)⟩, ⟨some 4, none, .mov (.t 20)⟩]) <|
      .ret) (.skip))) <|
    .ops [⟨some 21, none, .bin .num .add (.t 10) (.c (.int .i64 1))⟩, ⟨some 10, none, .mov (.t 21)⟩]))) <|
  .seq (.ops [⟨some 4, none, .mov (.c (.int .i64 (-1)))⟩]) <|
  .ret
def v15 : VFunc := ⟨22, [.tmp 4], c15⟩
/-- berthing/record.Right -/
def c16 : VCode :=
  .seq (.ops [⟨some 1, none, .box (.t 0)⟩, ⟨some 2, none, .mov (.c (.bool false))⟩]) <|
  .seq (.seq (.ops [⟨some 5, none, .fieldAddr 0 (.t 1)⟩, ⟨some 6, none, .load1 (.t 5)⟩, ⟨some 7, none, .bin .num .lss (.t 6) (.c (.int .i64 0))⟩, ⟨some 8, none, .mov (.t 7)⟩, ⟨some 9, some (8, false), .fieldAddr 0 (.t 1)⟩, ⟨some 10, some (8, false), .load1 (.t 9)⟩, ⟨some 11, some (8, false), .bin .num .gtr (.t 10) (.c (.int .i64 1099511627776))⟩, ⟨some 12, none, .pick (.t 8) (.c (.bool true)) (.t 11)⟩, ⟨some 13, none, .mov (.t 12)⟩, ⟨some 14, some (13, false), .fieldAddr 1 (.t 1)⟩, ⟨some 15, some (13, false), .load1 (.t 14)⟩, ⟨some 16, some (13, false), .lenS (.t 15)⟩, ⟨some 17, some (13, false), .bin .num .gtr (.t 16) (.c (.int .i64 16))⟩, ⟨some 18, none, .pick (.t 13) (.c (.bool true)) (.t 17)⟩, ⟨some 19, none, .mov (.t 18)⟩, ⟨some 20, some (19, false), .loadN 3 (.t 1)⟩, ⟨some 21, some (19, false), .call .pure 38 [(.t 20)]⟩, ⟨some 22, some (19, false), .un .not (.t 21)⟩, ⟨some 23, none, .pick (.t 19) (.c (.bool true)) (.t 22)⟩]) <|
  .cond (.t 23) (.seq (.ops [⟨some 2, none, .mov (.c (.bool false))⟩]) <|
   .ret) (.skip)) <|
  .seq (.seq (.ops [⟨some 24, none, .fieldAddr 2 (.t 1)⟩, ⟨some 25, none, .load1 (.t 24)⟩, ⟨some 26, none, .lenS (.t 25)⟩, ⟨some 27, none, .mov (.c (.int .i64 0))⟩]) <|
  .block 0 (.loop (.seq (.ops [⟨some 28, none, .bin .num .lss (.t 27) (.t 26)⟩]) <|
    .seq (.cond (.t 28) (.skip) (.exit 0)) <|
    .seq (.block 1 (.seq (.ops [⟨some 29, none, .mov (.t 27)⟩, ⟨some 30, none, .idxAddrS 11 (.t 25) (.t 27)⟩, ⟨some 31, none, .loadN 11 (.t 30)⟩, ⟨some 4, none, .alloc [(.str ⟨#[]⟩), (.str ⟨#[]⟩), (.int .i64 0), (.int .i64 0), (.int .i64 0), (.int .i64 0), (.int .i64 0), (.int .i64 0), (.int .i64 0), (.int .i64 0), (.int .i64 0)]⟩, ⟨some 3, none, .mov (.t 29)⟩, ⟨none, none, .storeN 11 (.t 4) (.t 31)⟩]) <|
     .seq (.ops [⟨some 32, none, .loadN 3 (.t 1)⟩, ⟨some 33, none, .loadN 11 (.t 4)⟩, ⟨some 34, none, .call .pure 39 [(.t 32), (.t 33)]⟩, ⟨some 35, none, .un .not (.t 34)⟩, ⟨some 36, none, .mov (.t 35)⟩, ⟨some 37, some (36, false), .mov (.t 3)⟩, ⟨some 38, some (36, false), .bin .num .gtr (.t 37) (.c (.int .i64 0))⟩, ⟨some 39, some (36, false), .mov (.t 38)⟩, ⟨some 40, some (39, true), .fieldAddr 2 (.t 1)⟩, ⟨some 41, some (39, true), .load1 (.t 40)⟩, ⟨some 42, some (39, true), .mov (.t 3)⟩, ⟨some 43, some (39, true), .bin .num .sub (.t 42) (.c (.int .i64 1))⟩, ⟨some 44, some (39, true), .idxAddrS 11 (.t 41) (.t 43)⟩, ⟨some 45, some (39, true), .fieldAddr 0 (.t 44)⟩, ⟨some 46, some (39, true), .loadN 3 (.t 45)⟩, ⟨some 47, some (39, true), .fieldAddr 0 (.t 4)⟩, ⟨some 48, some (39, true), .loadN 3 (.t 47)⟩, ⟨some 49, some (39, true), .call .pure 40 [(.t 46), (.t 48)]⟩, ⟨some 50, some (39, true), .bin .num .geq (.t 49) (.c (.int .i64 0))⟩, ⟨some 51, some (36, false), .pick (.t 39) (.t 50) (.c (.bool false))⟩, ⟨some 52, none, .pick (.t 36) (.c (.bool true)) (.t 51)⟩]) <|
     .cond (.t 52) (.seq (.ops [⟨some 2, none, .mov (.c (.bool false))⟩]) <|
      .ret) (.skip))) <|
    .ops [⟨some 53, none, .bin .num .add (.t 27) (.c (.int .i64 1))⟩, ⟨some 27, none, .mov (.t 53)⟩]))) <|
  .seq (.ops [⟨some 2, none, .mov (.c (.bool true))⟩]) <|
  .ret
def v16 : VFunc := ⟨54, [.tmp 2], c16⟩
/-- berthing/record.Same -/
def c17 : VCode :=
  .seq (.ops [⟨some 2, none, .box (.t 0)⟩, ⟨some 3, none, .box (.t 1)⟩, ⟨some 4, none, .mov (.c (.bool false))⟩]) <|
  .seq (.ops [⟨some 5, none, .mov (.f 41)⟩]) <|
  .seq (.ops [⟨some 6, none, .fieldAddr 0 (.t 2)⟩, ⟨some 7, none, .load1 (.t 6)⟩, ⟨some 8, none, .fieldAddr 0 (.t 3)⟩, ⟨some 9, none, .load1 (.t 8)⟩, ⟨some 10, none, .bin .num .eql (.t 7) (.t 9)⟩, ⟨some 11, none, .mov (.t 10)⟩, ⟨some 12, some (11, true), .fieldAddr 1 (.t 2)⟩, ⟨some 13, some (11, true), .load1 (.t 12)⟩, ⟨some 14, some (11, true), .fieldAddr 1 (.t 3)⟩, ⟨some 15, some (11, true), .load1 (.t 14)⟩, ⟨some 16, some (11, true), .mov (.t 5)⟩, ⟨some 17, some (11, true), .call .pure 43 [(.t 13), (.t 15), (.t 16)]⟩, ⟨some 18, none, .pick (.t 11) (.t 17) (.c (.bool false))⟩, ⟨some 19, none, .mov (.t 18)⟩, ⟨some 20, some (19, true), .fieldAddr 2 (.t 2)⟩, ⟨some 21, some (19, true), .load1 (.t 20)⟩, ⟨some 22, some (19, true), .fieldAddr 2 (.t 3)⟩, ⟨some 23, some (19, true), .load1 (.t 22)⟩, ⟨some 24, some (19, true), .call .pure 44 [(.t 21), (.t 23)]⟩, ⟨some 25, none, .pick (.t 19) (.t 24) (.c (.bool false))⟩, ⟨some 4, none, .mov (.t 25)⟩]) <|
  .ret
def v17 : VFunc := ⟨26, [.tmp 4], c17⟩
/-- berthing/berthingref15.Same -/
def c18 : VCode :=
  .seq (.ops [⟨some 2, none, .box (.t 0)⟩, ⟨some 3, none, .box (.t 1)⟩, ⟨some 4, none, .mov (.c (.bool false))⟩]) <|
  .seq (.seq (.ops [⟨some 10, none, .fieldAddr 0 (.t 2)⟩, ⟨some 11, none, .load1 (.t 10)⟩, ⟨some 12, none, .fieldAddr 0 (.t 3)⟩, ⟨some 13, none, .load1 (.t 12)⟩, ⟨some 14, none, .bin .num .neq (.t 11) (.t 13)⟩, ⟨some 15, none, .mov (.t 14)⟩, ⟨some 16, some (15, false), .fieldAddr 1 (.t 2)⟩, ⟨some 17, some (15, false), .load1 (.t 16)⟩, ⟨some 18, some (15, false), .lenS (.t 17)⟩, ⟨some 19, some (15, false), .fieldAddr 1 (.t 3)⟩, ⟨some 20, some (15, false), .load1 (.t 19)⟩, ⟨some 21, some (15, false), .lenS (.t 20)⟩, ⟨some 22, some (15, false), .bin .num .neq (.t 18) (.t 21)⟩, ⟨some 23, none, .pick (.t 15) (.c (.bool true)) (.t 22)⟩, ⟨some 24, none, .mov (.t 23)⟩, ⟨some 25, some (24, false), .fieldAddr 2 (.t 2)⟩, ⟨some 26, some (24, false), .load1 (.t 25)⟩, ⟨some 27, some (24, false), .lenS (.t 26)⟩, ⟨some 28, some (24, false), .fieldAddr 2 (.t 3)⟩, ⟨some 29, some (24, false), .load1 (.t 28)⟩, ⟨some 30, some (24, false), .lenS (.t 29)⟩, ⟨some 31, some (24, false), .bin .num .neq (.t 27) (.t 30)⟩, ⟨some 32, none, .pick (.t 24) (.c (.bool true)) (.t 31)⟩]) <|
  .cond (.t 32) (.seq (.ops [⟨some 4, none, .mov (.c (.bool false))⟩]) <|
   .ret) (.skip)) <|
  .seq (.seq (.ops [⟨some 33, none, .fieldAddr 1 (.t 2)⟩, ⟨some 34, none, .load1 (.t 33)⟩, ⟨some 35, none, .lenS (.t 34)⟩, ⟨some 36, none, .mov (.c (.int .i64 0))⟩]) <|
  .block 0 (.loop (.seq (.ops [⟨some 37, none, .bin .num .lss (.t 36) (.t 35)⟩]) <|
    .seq (.cond (.t 37) (.skip) (.exit 0)) <|
    .seq (.block 1 (.seq (.ops [⟨some 38, none, .mov (.t 36)⟩, ⟨some 39, none, .idxAddrS 10 (.t 34) (.t 36)⟩, ⟨some 40, none, .loadN 10 (.t 39)⟩, ⟨some 6, none, .alloc [(.str ⟨#[]⟩), (.int .i64 0), (.int .i64 0), (.sl .nil 0 []), (.str ⟨#[]⟩), (.int .i64 0), (.int .i64 0), (.sl .nil 0 []), (.int .i64 0), (.int .i64 0)]⟩, ⟨some 5, none, .mov (.t 38)⟩, ⟨none, none, .storeN 10 (.t 6) (.t 40)⟩]) <|
     .seq (.ops [⟨some 41, none, .fieldAddr 1 (.t 3)⟩, ⟨some 42, none, .load1 (.t 41)⟩, ⟨some 43, none, .mov (.t 5)⟩, ⟨some 44, none, .idxAddrS 10 (.t 42) (.t 43)⟩, ⟨some 45, none, .loadN 10 (.t 44)⟩, ⟨some 7, none, .alloc [(.str ⟨#[]⟩), (.int .i64 0), (.int .i64 0), (.sl .nil 0 []), (.str ⟨#[]⟩), (.int .i64 0), (.int .i64 0), (.sl .nil 0 []), (.int .i64 0), (.int .i64 0)]⟩, ⟨none, none, .storeN 10 (.t 7) (.t 45)⟩]) <|
     .seq (.ops [⟨some 46, none, .fieldAddr 0 (.t 6)⟩, ⟨some 47, none, .loadN 4 (.t 46)⟩, ⟨some 48, none, .fieldAddr 0 (.t 7)⟩, ⟨some 49, none, .loadN 4 (.t 48)⟩, ⟨some 50, none, .call .pure 45 [(.t 47), (.t 49)]⟩, ⟨some 51, none, .un .not (.t 50)⟩, ⟨some 52, none, .mov (.t 51)⟩, ⟨some 53, some (52, false), .fieldAddr 4 (.t 6)⟩, ⟨some 54, some (52, false), .loadN 4 (.t 53)⟩, ⟨some 55, some (52, false), .fieldAddr 4 (.t 7)⟩, ⟨some 56, some (52, false), .loadN 4 (.t 55)⟩, ⟨some 57, some (52, false), .call .pure 45 [(.t 54), (.t 56)]⟩, ⟨some 58, some (52, false), .un .not (.t 57)⟩, ⟨some 59, none, .pick (.t 52) (.c (.bool true)) (.t 58)⟩, ⟨some 60, none, .mov (.t 59)⟩, ⟨some 61, some (60, false), .fieldAddr 8 (.t 6)⟩, ⟨some 62, some (60, false), .load1 (.t 61)⟩, ⟨some 63, some (60, false), .fieldAddr 8 (.t 7)⟩, ⟨some 64, some (60, false), .load1 (.t 63)⟩, ⟨some 65, some (60, false), .bin .num .neq (.t 62) (.t 64)⟩, ⟨some 66, none, .pick (.t 60) (.c (.bool true)) (.t 65)⟩, ⟨some 67, none, .mov (.t 66)⟩, ⟨some 68, some (67, false), .fieldAddr 9 (.t 6)⟩, ⟨some 69, some (67, false), .load1 (.t 68)⟩, ⟨some 70, some (67, false), .fieldAddr 9 (.t 7)⟩, ⟨some 71, some (67, false), .load1 (.t 70)⟩, ⟨some 72, some (67, false), .bin .num .neq (.t 69) (.t 71)⟩, ⟨some 73, none, .pick (.t 67) (.c (.bool true)) (.t 72)⟩]) <|
     .cond (.t 73) (.seq (.ops [⟨some 4, none, .mov (.c (.bool false))⟩]) <|
      .ret) (.skip))) <|
    .ops [⟨some 74, none, .bin .num .add (.t 36) (.c (.int .i64 1))⟩, ⟨some 36, none, .mov (.t 74)⟩]))) <|
  .seq (.seq (.ops [⟨some 75, none, .fieldAddr 2 (.t 2)⟩, ⟨some 76, none, .load1 (.t 75)⟩, ⟨some 77, none, .lenS (.t 76)⟩, ⟨some 78, none, .mov (.c (.int .i64 0))⟩]) <|
  .block 2 (.loop (.seq (.ops [⟨some 79, none, .bin .num .lss (.t 78) (.t 77)⟩]) <|
    .seq (.cond (.t 79) (.skip) (.exit 2)) <|
    .seq (.block 3 (.seq (.ops [⟨some 80, none, .mov (.t 78)⟩, ⟨some 81, none, .idxAddrS 11 (.t 76) (.t 78)⟩, ⟨some 82, none, .loadN 11 (.t 81)⟩, ⟨some 9, none, .alloc [(.str ⟨#[]⟩), (.str ⟨#[]⟩), (.int .i64 0), (.int .i64 0), (.int .i64 0), (.int .i64 0), (.int .i64 0), (.int .i64 0), (.int .i64 0), (.int .i64 0), (.int .i64 0)]⟩, ⟨some 8, none, .mov (.t 80)⟩, ⟨none, none, .storeN 11 (.t 9) (.t 82)⟩]) <|
     .seq (.ops [⟨some 83, none, .loadN 11 (.t 9)⟩, ⟨some 84, none, .fieldAddr 2 (.t 3)⟩, ⟨some 85, none, .load1 (.t 84)⟩, ⟨some 86, none, .mov (.t 8)⟩, ⟨some 87, none, .idxAddrS 11 (.t 85) (.t 86)⟩, ⟨some 88, none, .loadN 11 (.t 87)⟩, ⟨some 89, none, .bin (.agg [.s, .s, .i, .i, .i, .i, .i, .i, .i, .i, .i]) .neq (.t 83) (.t 88)⟩]) <|
     .cond (.t 89) (.seq (.ops [⟨some 4, none, .mov (.c (.bool false))⟩]) <|
      .ret) (.skip))) <|
    .ops [⟨some 90, none, .bin .num .add (.t 78) (.c (.int .i64 1))⟩, ⟨some 78, none, .mov (.t 90)⟩]))) <|
  .seq (.ops [⟨some 4, none, .mov (.c (.bool true))⟩]) <|
  .ret
def v18 : VFunc := ⟨91, [.tmp 4], c18⟩
/-- berthing/record.Put -/
def c19 : VCode :=
  .seq (.ops [⟨some 1, none, .box (.t 0)⟩, ⟨some 2, none, .mov (.c (.sl .nil 0 []))⟩]) <|
  .seq (.seq (.ops [⟨some 15, none, .loadN 3 (.t 1)⟩, ⟨some 16, none, .call .pure 16 [(.t 15)]⟩, ⟨some 17, none, .un .not (.t 16)⟩]) <|
  .cond (.t 17) (.seq (.ops [⟨some 2, none, .mov (.c (.sl .nil 0 []))⟩]) <|
   .ret) (.skip)) <|
  .seq (.ops [⟨some 18, none, .build [(.sl .nil 0 [])] []⟩, ⟨some 19, none, .box (.t 18)⟩, ⟨some 3, none, .mov (.t 19)⟩]) <|
  .seq (.ops [⟨some 20, none, .mov (.t 3)⟩, ⟨some 21, none, .fieldAddr 0 (.t 1)⟩, ⟨some 22, none, .load1 (.t 21)⟩, ⟨some 23, none, .conv .u64 (.t 22)⟩, ⟨some 24, none, .call .shared 46 [(.t 20), (.t 23)]⟩]) <|
  .seq (.ops [⟨some 25, none, .mov (.t 3)⟩, ⟨some 26, none, .fieldAddr 1 (.t 1)⟩, ⟨some 27, none, .load1 (.t 26)⟩, ⟨some 28, none, .lenS (.t 27)⟩, ⟨some 29, none, .conv .u64 (.t 28)⟩, ⟨some 30, none, .call .shared 46 [(.t 25), (.t 29)]⟩]) <|
  .seq (.seq (.ops [⟨some 31, none, .fieldAddr 1 (.t 1)⟩, ⟨some 32, none, .load1 (.t 31)⟩, ⟨some 33, none, .lenS (.t 32)⟩, ⟨some 34, none, .mov (.c (.int .i64 0))⟩]) <|
  .block 0 (.loop (.seq (.ops [⟨some 35, none, .bin .num .lss (.t 34) (.t 33)⟩]) <|
    .seq (.cond (.t 35) (.skip) (.exit 0)) <|
    .seq (.block 1 (.seq (.ops [⟨some 36, none, .idxAddrS 10 (.t 32) (.t 34)⟩, ⟨some 37, none, .loadN 10 (.t 36)⟩, ⟨some 5, none, .alloc [(.str ⟨#[]⟩), (.int .i64 0), (.int .i64 0), (.sl .nil 0 []), (.str ⟨#[]⟩), (.int .i64 0), (.int .i64 0), (.sl .nil 0 []), (.int .i64 0), (.int .i64 0)]⟩, ⟨none, none, .storeN 10 (.t 5) (.t 37)⟩]) <|
     .seq (.ops [⟨some 38, none, .mov (.t 3)⟩, ⟨some 39, none, .fieldAddr 0 (.t 5)⟩, ⟨some 40, none, .fieldAddr 0 (.t 39)⟩, ⟨some 41, none, .load1 (.t 40)⟩, ⟨some 42, none, .call .shared 47 [(.t 38), (.t 41)]⟩]) <|
     .seq (.ops [⟨some 43, none, .mov (.t 3)⟩, ⟨some 44, none, .fieldAddr 0 (.t 5)⟩, ⟨some 45, none, .fieldAddr 1 (.t 44)⟩, ⟨some 46, none, .load1 (.t 45)⟩, ⟨some 47, none, .call .shared 48 [(.t 43), (.t 46)]⟩]) <|
     .seq (.ops [⟨some 48, none, .mov (.t 3)⟩, ⟨some 49, none, .fieldAddr 0 (.t 5)⟩, ⟨some 50, none, .fieldAddr 2 (.t 49)⟩, ⟨some 51, none, .load1 (.t 50)⟩, ⟨some 52, none, .conv .u64 (.t 51)⟩, ⟨some 53, none, .call .shared 46 [(.t 48), (.t 52)]⟩]) <|
     .seq (.ops [⟨some 54, none, .mov (.t 3)⟩, ⟨some 55, none, .fieldAddr 0 (.t 5)⟩, ⟨some 56, none, .fieldAddr 3 (.t 55)⟩, ⟨some 57, none, .load1 (.t 56)⟩, ⟨some 58, none, .lenS (.t 57)⟩, ⟨some 59, none, .conv .u64 (.t 58)⟩, ⟨some 60, none, .call .shared 46 [(.t 54), (.t 59)]⟩]) <|
     .seq (.seq (.ops [⟨some 61, none, .fieldAddr 0 (.t 5)⟩, ⟨some 62, none, .fieldAddr 3 (.t 61)⟩, ⟨some 63, none, .load1 (.t 62)⟩, ⟨some 64, none, .lenS (.t 63)⟩, ⟨some 65, none, .mov (.c (.int .i64 0))⟩]) <|
     .block 2 (.loop (.seq (.ops [⟨some 66, none, .bin .num .lss (.t 65) (.t 64)⟩]) <|
       .seq (.cond (.t 66) (.skip) (.exit 2)) <|
       .seq (.block 3 (.seq (.ops [⟨some 67, none, .mov (.t 65)⟩, ⟨some 68, none, .idxAddrS 10 (.t 63) (.t 65)⟩, ⟨some 69, none, .loadN 10 (.t 68)⟩, ⟨some 7, none, .alloc [(.str ⟨#[]⟩), (.int .i64 0), (.int .i64 0), (.int .i64 0), (.int .i64 0), (.int .i64 0), (.int .i64 0), (.bool false), (.bool false), (.bool false)]⟩, ⟨some 6, none, .mov (.t 67)⟩, ⟨none, none, .storeN 10 (.t 7) (.t 69)⟩]) <|
        .seq (.ops [⟨some 70, none, .mov (.t 3)⟩, ⟨some 71, none, .fieldAddr 0 (.t 7)⟩, ⟨some 72, none, .load1 (.t 71)⟩, ⟨some 73, none, .call .shared 47 [(.t 70), (.t 72)]⟩]) <|
        .seq (.seq (.ops [⟨some 74, none, .fieldAddr 7 (.t 7)⟩, ⟨some 75, none, .loadN 3 (.t 74)⟩, ⟨some 76, none, .mov (.c (.int .i64 0))⟩]) <|
        .block 4 (.loop (.seq (.ops [⟨some 77, none, .bin .num .lss (.t 76) (.c (.int .i64 3))⟩]) <|
          .seq (.cond (.t 77) (.skip) (.exit 4)) <|
          .seq (.block 5 (.seq (.ops [⟨some 78, none, .idxA1 3 (.t 75) (.t 76)⟩, ⟨some 9, none, .mov (.t 78)⟩]) <|
           .ops [⟨some 79, none, .mov (.t 3)⟩, ⟨some 80, none, .mov (.t 9)⟩, ⟨some 81, none, .call .shared 49 [(.t 79), (.t 80)]⟩])) <|
          .ops [⟨some 82, none, .bin .num .add (.t 76) (.c (.int .i64 1))⟩, ⟨some 76, none, .mov (.t 82)⟩]))) <|
        .seq (.ops [⟨some 83, none, .fieldAddr 4 (.t 5)⟩, ⟨some 84, none, .fieldAddr 3 (.t 83)⟩, ⟨some 85, none, .load1 (.t 84)⟩, ⟨some 86, none, .mov (.t 6)⟩, ⟨some 87, none, .idxAddrS 10 (.t 85) (.t 86)⟩, ⟨some 88, none, .loadN 10 (.t 87)⟩, ⟨some 10, none, .alloc [(.str ⟨#[]⟩), (.int .i64 0), (.int .i64 0), (.int .i64 0), (.int .i64 0), (.int .i64 0), (.int .i64 0), (.bool false), (.bool false), (.bool false)]⟩, ⟨none, none, .storeN 10 (.t 10) (.t 88)⟩]) <|
        .ops [⟨some 89, none, .mov (.t 3)⟩, ⟨some 90, none, .fieldAddr 1 (.t 7)⟩, ⟨some 91, none, .loadN 3 (.t 90)⟩, ⟨some 92, none, .fieldAddr 4 (.t 7)⟩, ⟨some 93, none, .loadN 3 (.t 92)⟩, ⟨some 94, none, .fieldAddr 1 (.t 10)⟩, ⟨some 95, none, .loadN 3 (.t 94)⟩, ⟨some 96, none, .fieldAddr 4 (.t 10)⟩, ⟨some 97, none, .loadN 3 (.t 96)⟩, ⟨some 98, none, .buildSlice false 3 4 [(.int .i64 0), (.int .i64 0), (.int .i64 0), (.int .i64 0), (.int .i64 0), (.int .i64 0), (.int .i64 0), (.int .i64 0), (.int .i64 0), (.int .i64 0), (.int .i64 0), (.int .i64 0)] [(0, 3, (.t 91)), (3, 3, (.t 93)), (6, 3, (.t 95)), (9, 3, (.t 97))]⟩, ⟨some 99, none, .call .shared 50 [(.t 89), (.t 98)]⟩])) <|
       .ops [⟨some 100, none, .bin .num .add (.t 65) (.c (.int .i64 1))⟩, ⟨some 65, none, .mov (.t 100)⟩]))) <|
     .seq (.ops [⟨some 101, none, .mov (.t 3)⟩, ⟨some 102, none, .fieldAddr 8 (.t 5)⟩, ⟨some 103, none, .load1 (.t 102)⟩, ⟨some 104, none, .conv .u64 (.t 103)⟩, ⟨some 105, none, .call .shared 46 [(.t 101), (.t 104)]⟩]) <|
     .ops [⟨some 106, none, .mov (.t 3)⟩, ⟨some 107, none, .fieldAddr 9 (.t 5)⟩, ⟨some 108, none, .load1 (.t 107)⟩, ⟨some 109, none, .conv .u64 (.t 108)⟩, ⟨some 110, none, .call .shared 46 [(.t 106), (.t 109)]⟩])) <|
    .ops [⟨some 111, none, .bin .num .add (.t 34) (.c (.int .i64 1))⟩, ⟨some 34, none, .mov (.t 111)⟩]))) <|
  .seq (.ops [⟨some 112, none, .mov (.t 3)⟩, ⟨some 113, none, .fieldAddr 2 (.t 1)⟩, ⟨some 114, none, .load1 (.t 113)⟩, ⟨some 115, none, .lenS (.t 114)⟩, ⟨some 116, none, .conv .u64 (.t 115)⟩, ⟨some 117, none, .call .shared 46 [(.t 112), (.t 116)]⟩]) <|
  .seq (.seq (.ops [⟨some 118, none, .fieldAddr 2 (.t 1)⟩, ⟨some 119, none, .load1 (.t 118)⟩, ⟨some 120, none, .lenS (.t 119)⟩, ⟨some 121, none, .mov (.c (.int .i64 0))⟩]) <|
  .block 6 (.loop (.seq (.ops [⟨some 122, none, .bin .num .lss (.t 121) (.t 120)⟩]) <|
    .seq (.cond (.t 122) (.skip) (.exit 6)) <|
    .seq (.block 7 (.seq (.ops [⟨some 123, none, .idxAddrS 11 (.t 119) (.t 121)⟩, ⟨some 124, none, .loadN 11 (.t 123)⟩, ⟨some 12, none, .alloc [(.str ⟨#[]⟩), (.str ⟨#[]⟩), (.int .i64 0), (.int .i64 0), (.int .i64 0), (.int .i64 0), (.int .i64 0), (.int .i64 0), (.int .i64 0), (.int .i64 0), (.int .i64 0)]⟩, ⟨none, none, .storeN 11 (.t 12) (.t 124)⟩]) <|
     .seq (.ops [⟨some 125, none, .mov (.t 3)⟩, ⟨some 126, none, .fieldAddr 0 (.t 12)⟩, ⟨some 127, none, .fieldAddr 0 (.t 126)⟩, ⟨some 128, none, .load1 (.t 127)⟩, ⟨some 129, none, .call .shared 47 [(.t 125), (.t 128)]⟩]) <|
     .seq (.ops [⟨some 130, none, .mov (.t 3)⟩, ⟨some 131, none, .fieldAddr 0 (.t 12)⟩, ⟨some 132, none, .fieldAddr 1 (.t 131)⟩, ⟨some 133, none, .load1 (.t 132)⟩, ⟨some 134, none, .call .shared 47 [(.t 130), (.t 133)]⟩]) <|
     .seq (.ops [⟨some 135, none, .mov (.t 3)⟩, ⟨some 136, none, .fieldAddr 0 (.t 12)⟩, ⟨some 137, none, .fieldAddr 2 (.t 136)⟩, ⟨some 138, none, .load1 (.t 137)⟩, ⟨some 139, none, .conv .u64 (.t 138)⟩, ⟨some 140, none, .call .shared 46 [(.t 135), (.t 139)]⟩]) <|
     .seq (.ops [⟨some 141, none, .fieldAddr 3 (.t 12)⟩, ⟨some 142, none, .loadN 8 (.t 141)⟩, ⟨some 143, none, .mov (.c (.int .i64 0))⟩]) <|
     .block 8 (.loop (.seq (.ops [⟨some 144, none, .bin .num .lss (.t 143) (.c (.int .i64 8))⟩]) <|
       .seq (.cond (.t 144) (.skip) (.exit 8)) <|
       .seq (.block 9 (.seq (.ops [⟨some 145, none, .idxA1 8 (.t 142) (.t 143)⟩, ⟨some 14, none, .mov (.t 145)⟩]) <|
        .ops [⟨some 146, none, .mov (.t 3)⟩, ⟨some 147, none, .mov (.t 14)⟩, ⟨some 148, none, .conv .u64 (.t 147)⟩, ⟨some 149, none, .call .shared 46 [(.t 146), (.t 148)]⟩])) <|
       .ops [⟨some 150, none, .bin .num .add (.t 143) (.c (.int .i64 1))⟩, ⟨some 143, none, .mov (.t 150)⟩])))) <|
    .ops [⟨some 151, none, .bin .num .add (.t 121) (.c (.int .i64 1))⟩, ⟨some 121, none, .mov (.t 151)⟩]))) <|
  .seq (.ops [⟨some 152, none, .mov (.t 3)⟩, ⟨some 153, none, .call .shared 51 [(.t 152)]⟩, ⟨some 2, none, .mov (.t 153)⟩]) <|
  .ret
def v19 : VFunc := ⟨154, [.tmp 2], c19⟩
/-- berthing/record.Get -/
def c20 : VCode :=
  .seq (.ops [⟨some 2, none, .alloc [(.int .i64 0), (.sl .nil 0 []), (.sl .nil 0 [])]⟩, ⟨some 3, none, .mov (.c (.int .i64 0))⟩]) <|
  .seq (.ops [⟨some 9, none, .mov (.t 0)⟩, ⟨some 10, none, .call .shared 52 [(.t 9)]⟩, ⟨some 4, none, .mov (.t 10)⟩]) <|
  .seq (.ops [⟨some 11, none, .mov (.t 4)⟩, ⟨some 12, none, .call .shared 53 [(.t 11), (.c (.int .i64 1099511627776))]⟩, ⟨some 13, none, .build [(.int .i64 0), (.sl .nil 0 []), (.sl .nil 0 [])] [(0, 1, (.t 12))]⟩, ⟨some 5, none, .alloc [(.int .i64 0), (.sl .nil 0 []), (.sl .nil 0 [])]⟩, ⟨none, none, .storeN 3 (.t 5) (.t 13)⟩]) <|
  .seq (.seq (.ops [⟨some 14, none, .mov (.t 4)⟩, ⟨some 15, none, .call .shared 53 [(.t 14), (.c (.int .i64 16))]⟩, ⟨some 16, none, .mov (.c (.int .i64 0))⟩]) <|
  .block 0 (.loop (.seq (.ops [⟨some 17, none, .bin .num .lss (.t 16) (.t 15)⟩]) <|
    .seq (.cond (.t 17) (.skip) (.exit 0)) <|
    .seq (.block 1 (.draw [] [⟨some 18, none, .fieldAddr 1 (.t 5)⟩, ⟨some 19, none, .load1 (.t 18)⟩, ⟨some 20, none, .mov (.t 4)⟩, ⟨some 21, none, .call .shared 54 [(.t 20)]⟩, ⟨some 22, none, .buildSlice false 10 1 [(.str ⟨#[]⟩), (.int .i64 0), (.int .i64 0), (.sl .nil 0 []), (.str ⟨#[]⟩), (.int .i64 0), (.int .i64 0), (.sl .nil 0 []), (.int .i64 0), (.int .i64 0)] [(0, 10, (.t 21))]⟩, ⟨some 23, none, .append false false 10 128 (.t 19) (.t 22)⟩, ⟨some 24, none, .fieldAddr 1 (.t 5)⟩, ⟨none, none, .store1 (.t 24) (.t 23)⟩] [(1, 3)])) <|
    .ops [⟨some 25, none, .bin .num .add (.t 16) (.c (.int .i64 1))⟩, ⟨some 16, none, .mov (.t 25)⟩]))) <|
  .seq (.seq (.ops [⟨some 26, none, .mov (.t 4)⟩, ⟨some 27, none, .call .shared 53 [(.t 26), (.c (.int .i64 192))]⟩, ⟨some 28, none, .mov (.c (.int .i64 0))⟩]) <|
  .block 2 (.loop (.seq (.ops [⟨some 29, none, .bin .num .lss (.t 28) (.t 27)⟩]) <|
    .seq (.cond (.t 29) (.skip) (.exit 2)) <|
    .seq (.block 3 (.seq (.ops [⟨some 30, none, .mov (.t 4)⟩, ⟨some 31, none, .call .shared 55 [(.t 30), (.c (.int .i64 16))]⟩, ⟨some 32, none, .mov (.t 4)⟩, ⟨some 33, none, .call .shared 55 [(.t 32), (.c (.int .i64 16))]⟩, ⟨some 34, none, .mov (.t 4)⟩, ⟨some 35, none, .call .shared 53 [(.t 34), (.c (.int .i64 1))]⟩, ⟨some 36, none, .build [(.str ⟨#[]⟩), (.str ⟨#[]⟩), (.int .i64 0)] [(0, 1, (.t 31)), (1, 1, (.t 33)), (2, 1, (.t 35))]⟩, ⟨some 37, none, .build [(.str ⟨#[]⟩), (.str ⟨#[]⟩), (.int .i64 0), (.int .i64 0), (.int .i64 0), (.int .i64 0), (.int .i64 0), (.int .i64 0), (.int .i64 0), (.int .i64 0), (.int .i64 0)] [(0, 3, (.t 36))]⟩, ⟨some 6, none, .alloc [(.str ⟨#[]⟩), (.str ⟨#[]⟩), (.int .i64 0), (.int .i64 0), (.int .i64 0), (.int .i64 0), (.int .i64 0), (.int .i64 0), (.int .i64 0), (.int .i64 0), (.int .i64 0)]⟩, ⟨none, none, .storeN 11 (.t 6) (.t 37)⟩]) <|
     .seq (.seq (.ops [⟨some 38, none, .mov (.c (.int .i64 0))⟩]) <|
     .block 4 (.loop (.seq (.ops [⟨some 39, none, .bin .num .lss (.t 38) (.c (.int .i64 8))⟩]) <|
       .seq (.cond (.t 39) (.skip) (.exit 4)) <|
       .seq (.block 5 (.seq (.ops [⟨some 40, none, .mov (.t 38)⟩, ⟨some 7, none, .mov (.t 40)⟩]) <|
        .ops [⟨some 41, none, .mov (.t 7)⟩, ⟨some 42, none, .mov (.t 4)⟩, ⟨some 43, none, .call .shared 53 [(.t 42), (.c (.int .i64 1073741824))]⟩, ⟨some 44, none, .fieldAddr 3 (.t 6)⟩, ⟨some 45, none, .idxAddrA 8 1 (.t 44) (.t 41)⟩, ⟨none, none, .store1 (.t 45) (.t 43)⟩])) <|
       .ops [⟨some 46, none, .bin .num .add (.t 38) (.c (.int .i64 1))⟩, ⟨some 38, none, .mov (.t 46)⟩]))) <|
     .ops [⟨some 47, none, .fieldAddr 2 (.t 5)⟩, ⟨some 48, none, .load1 (.t 47)⟩, ⟨some 49, none, .loadN 11 (.t 6)⟩, ⟨some 50, none, .buildSlice false 11 1 [(.str ⟨#[]⟩), (.str ⟨#[]⟩), (.int .i64 0), (.int .i64 0), (.int .i64 0), (.int .i64 0), (.int .i64 0), (.int .i64 0), (.int .i64 0), (.int .i64 0), (.int .i64 0)] [(0, 11, (.t 49))]⟩, ⟨some 51, none, .append false false 11 104 (.t 48) (.t 50)⟩, ⟨some 52, none, .fieldAddr 2 (.t 5)⟩, ⟨none, none, .store1 (.t 52) (.t 51)⟩])) <|
    .ops [⟨some 53, none, .bin .num .add (.t 28) (.c (.int .i64 1))⟩, ⟨some 28, none, .mov (.t 53)⟩]))) <|
  .seq (.seq (.ops [⟨some 54, none, .mov (.t 4)⟩, ⟨some 55, none, .call .shared 56 [(.t 54)]⟩, ⟨some 8, none, .mov (.t 55)⟩]) <|
  .seq (.ops [⟨some 56, none, .mov (.t 8)⟩, ⟨some 57, none, .bin .num .neq (.t 56) (.c (.int .i64 0))⟩]) <|
  .cond (.t 57) (.seq (.ops [⟨some 58, none, .build [(.int .i64 0), (.sl .nil 0 []), (.sl .nil 0 [])] []⟩, ⟨some 59, none, .mov (.t 8)⟩, ⟨none, none, .storeN 3 (.t 2) (.t 58)⟩, ⟨some 3, none, .mov (.t 59)⟩]) <|
   .ret) (.skip)) <|
  .seq (.seq (.ops [⟨some 60, none, .loadN 3 (.t 5)⟩, ⟨some 61, none, .call .pure 16 [(.t 60)]⟩, ⟨some 62, none, .un .not (.t 61)⟩]) <|
  .cond (.t 62) (.seq (.ops [⟨some 63, none, .build [(.int .i64 0), (.sl .nil 0 []), (.sl .nil 0 [])] []⟩, ⟨none, none, .storeN 3 (.t 2) (.t 63)⟩, ⟨some 3, none, .mov (.c (.int .i64 11))⟩]) <|
   .ret) (.skip)) <|
  .seq (.ops [⟨some 64, none, .loadN 3 (.t 5)⟩, ⟨none, none, .storeN 3 (.t 2) (.t 64)⟩, ⟨some 3, none, .mov (.c (.int .i64 0))⟩]) <|
  .ret
def v20 : VFunc := ⟨65, [.cellN 3 2, .tmp 3], c20⟩
/-- berthing/berthingref15.Get -/
def c21 : VCode :=
  .seq (.ops [⟨some 2, none, .alloc [(.int .i64 0), (.sl .nil 0 []), (.sl .nil 0 [])]⟩, ⟨some 3, none, .mov (.c (.int .i64 0))⟩]) <|
  .seq (.ops [⟨some 17, none, .mov (.t 0)⟩, ⟨some 18, none, .build [(.str ⟨#[]⟩), (.int .i64 0)] [(0, 1, (.t 17))]⟩, ⟨some 19, none, .box (.t 18)⟩, ⟨some 4, none, .mov (.t 19)⟩]) <|
  .seq (.ops [⟨some 5, none, .alloc [(.int .i64 0), (.sl .nil 0 []), (.sl .nil 0 [])]⟩]) <|
  .seq (.ops [⟨some 20, none, .mov (.t 4)⟩, ⟨some 21, none, .call .shared 57 [(.t 20), (.c (.int .u64 1099511627776))]⟩, ⟨some 22, none, .conv .i64 (.t 21)⟩, ⟨some 23, none, .fieldAddr 0 (.t 5)⟩, ⟨none, none, .store1 (.t 23) (.t 22)⟩]) <|
  .seq (.ops [⟨some 24, none, .mov (.t 4)⟩, ⟨some 25, none, .call .shared 57 [(.t 24), (.c (.int .u64 16))]⟩, ⟨some 26, none, .conv .i64 (.t 25)⟩, ⟨some 6, none, .mov (.t 26)⟩]) <|
  .seq (.seq (.ops [⟨some 7, none, .mov (.c (.int .i64 0))⟩]) <|
  .block 0 (.loop (.seq (.seq (.ops [⟨some 27, none, .mov (.t 7)⟩, ⟨some 28, none, .mov (.t 6)⟩, ⟨some 29, none, .bin .num .lss (.t 27) (.t 28)⟩, ⟨some 30, none, .mov (.t 29)⟩, ⟨some 31, some (30, true), .mov (.t 4)⟩, ⟨some 32, some (30, true), .nilCheck (.t 31)⟩, ⟨some 33, some (30, true), .fieldAddr 1 (.t 32)⟩, ⟨some 34, some (30, true), .load1 (.t 33)⟩, ⟨some 35, some (30, true), .bin .num .eql (.t 34) (.c (.int .i64 0))⟩, ⟨some 36, none, .pick (.t 30) (.t 35) (.c (.bool false))⟩]) <|
    .cond (.t 36) (.skip) (.exit 0)) <|
    .seq (.block 1 (.seq (.ops [⟨some 8, none, .alloc [(.str ⟨#[]⟩), (.int .i64 0), (.int .i64 0), (.sl .nil 0 [])]⟩]) <|
     .seq (.ops [⟨some 39, none, .mov (.t 4)⟩, ⟨some 40, none, .call .shared 58 [(.t 39), (.c (.int .i64 16))]⟩, ⟨some 41, none, .fieldAddr 0 (.t 8)⟩, ⟨none, none, .store1 (.t 41) (.t 40)⟩]) <|
     .seq (.ops [⟨some 42, none, .mov (.t 4)⟩, ⟨some 43, none, .call .shared 59 [(.t 42), (.c (.int .i64 (-1000))), (.c (.int .i64 1000))]⟩, ⟨some 44, none, .fieldAddr 1 (.t 8)⟩, ⟨none, none, .store1 (.t 44) (.t 43)⟩]) <|
     .seq (.ops [⟨some 45, none, .mov (.t 4)⟩, ⟨some 46, none, .call .shared 57 [(.t 45), (.c (.int .u64 2))]⟩, ⟨some 47, none, .conv .i64 (.t 46)⟩, ⟨some 48, none, .fieldAddr 2 (.t 8)⟩, ⟨none, none, .store1 (.t 48) (.t 47)⟩]) <|
     .seq (.ops [⟨some 49, none, .loadN 4 (.t 8)⟩, ⟨some 50, none, .loadN 4 (.t 8)⟩, ⟨some 51, none, .build [(.str ⟨#[]⟩), (.int .i64 0), (.int .i64 0), (.sl .nil 0 []), (.str ⟨#[]⟩), (.int .i64 0), (.int .i64 0), (.sl .nil 0 []), (.int .i64 0), (.int .i64 0)] [(0, 4, (.t 49)), (4, 4, (.t 50))]⟩, ⟨some 9, none, .alloc [(.str ⟨#[]⟩), (.int .i64 0), (.int .i64 0), (.sl .nil 0 []), (.str ⟨#[]⟩), (.int .i64 0), (.int .i64 0), (.sl .nil 0 []), (.int .i64 0), (.int .i64 0)]⟩, ⟨none, none, .storeN 10 (.t 9) (.t 51)⟩]) <|
     .seq (.ops [⟨some 52, none, .mov (.t 4)⟩, ⟨some 53, none, .call .shared 57 [(.t 52), (.c (.int .u64 6))]⟩, ⟨some 54, none, .conv .i64 (.t 53)⟩, ⟨some 10, none, .mov (.t 54)⟩]) <|
     .seq (.seq (.ops [⟨some 11, none, .mov (.c (.int .i64 0))⟩]) <|
     .block 2 (.loop (.seq (.seq (.ops [⟨some 55, none, .mov (.t 11)⟩, ⟨some 56, none, .mov (.t 10)⟩, ⟨some 57, none, .bin .num .lss (.t 55) (.t 56)⟩]) <|
       .cond (.t 57) (.skip) (.exit 2)) <|
       .seq (.block 3 (.seq (.ops [⟨some 12, none, .alloc [(.str ⟨#[]⟩), (.int .i64 0), (.int .i64 0), (.int .i64 0), (.int .i64 0), (.int .i64 0), (.int .i64 0), (.bool false), (.bool false), (.bool false)]⟩]) <|
        .seq (.ops [⟨some 60, none, .mov (.t 4)⟩, ⟨some 61, none, .call .shared 58 [(.t 60), (.c (.int .i64 16))]⟩, ⟨some 62, none, .fieldAddr 0 (.t 12)⟩, ⟨none, none, .store1 (.t 62) (.t 61)⟩]) <|
        .seq (.ops [⟨some 63, none, .mov (.t 4)⟩, ⟨some 64, none, .call .shared 60 [(.t 63)]⟩, ⟨some 65, none, .fieldAddr 7 (.t 12)⟩, ⟨some 66, none, .idxAddrA 3 1 (.t 65) (.c (.int .i64 0))⟩, ⟨none, none, .store1 (.t 66) (.t 64)⟩]) <|
        .seq (.ops [⟨some 67, none, .mov (.t 4)⟩, ⟨some 68, none, .call .shared 60 [(.t 67)]⟩, ⟨some 69, none, .fieldAddr 7 (.t 12)⟩, ⟨some 70, none, .idxAddrA 3 1 (.t 69) (.c (.int .i64 1))⟩, ⟨none, none, .store1 (.t 70) (.t 68)⟩]) <|
        .seq (.ops [⟨some 71, none, .mov (.t 4)⟩, ⟨some 72, none, .call .shared 60 [(.t 71)]⟩, ⟨some 73, none, .fieldAddr 7 (.t 12)⟩, ⟨some 74, none, .idxAddrA 3 1 (.t 73) (.c (.int .i64 2))⟩, ⟨none, none, .store1 (.t 74) (.t 72)⟩]) <|
        .seq (.ops [⟨some 75, none, .loadN 10 (.t 12)⟩, ⟨some 13, none, .alloc [(.str ⟨#[]⟩), (.int .i64 0), (.int .i64 0), (.int .i64 0), (.int .i64 0), (.int .i64 0), (.int .i64 0), (.bool false), (.bool false), (.bool false)]⟩, ⟨none, none, .storeN 10 (.t 13) (.t 75)⟩]) <|
        .seq (.ops [⟨some 76, none, .mov (.t 4)⟩, ⟨some 77, none, .call .shared 61 [(.t 76)]⟩, ⟨some 78, none, .fieldAddr 1 (.t 12)⟩, ⟨none, none, .storeN 3 (.t 78) (.t 77)⟩]) <|
        .seq (.ops [⟨some 79, none, .mov (.t 4)⟩, ⟨some 80, none, .call .shared 61 [(.t 79)]⟩, ⟨some 81, none, .fieldAddr 4 (.t 12)⟩, ⟨none, none, .storeN 3 (.t 81) (.t 80)⟩]) <|
        .seq (.ops [⟨some 82, none, .mov (.t 4)⟩, ⟨some 83, none, .call .shared 61 [(.t 82)]⟩, ⟨some 84, none, .fieldAddr 1 (.t 13)⟩, ⟨none, none, .storeN 3 (.t 84) (.t 83)⟩]) <|
        .seq (.ops [⟨some 85, none, .mov (.t 4)⟩, ⟨some 86, none, .call .shared 61 [(.t 85)]⟩, ⟨some 87, none, .fieldAddr 4 (.t 13)⟩, ⟨none, none, .storeN 3 (.t 87) (.t 86)⟩]) <|
        .seq (.draw [] [⟨some 88, none, .buildSlice false 10 0 [] []⟩, ⟨some 89, none, .fieldAddr 0 (.t 9)⟩, ⟨some 90, none, .fieldAddr 3 (.t 89)⟩, ⟨some 91, none, .load1 (.t 90)⟩, ⟨some 92, none, .append false false 10 72 (.t 88) (.t 91)⟩, ⟨some 93, none, .loadN 10 (.t 12)⟩, ⟨some 94, none, .buildSlice false 10 1 [(.str ⟨#[]⟩), (.int .i64 0), (.int .i64 0), (.int .i64 0), (.int .i64 0), (.int .i64 0), (.int .i64 0), (.bool false), (.bool false), (.bool false)] [(0, 10, (.t 93))]⟩, ⟨some 95, none, .append false false 10 72 (.t 92) (.t 94)⟩, ⟨some 96, none, .fieldAddr 0 (.t 9)⟩, ⟨some 97, none, .fieldAddr 3 (.t 96)⟩, ⟨none, none, .store1 (.t 97) (.t 95)⟩] [(5, 4)]) <|
        .draw [] [⟨some 98, none, .buildSlice false 10 0 [] []⟩, ⟨some 99, none, .fieldAddr 4 (.t 9)⟩, ⟨some 100, none, .fieldAddr 3 (.t 99)⟩, ⟨some 101, none, .load1 (.t 100)⟩, ⟨some 102, none, .append false false 10 72 (.t 98) (.t 101)⟩, ⟨some 103, none, .loadN 10 (.t 13)⟩, ⟨some 104, none, .buildSlice false 10 1 [(.str ⟨#[]⟩), (.int .i64 0), (.int .i64 0), (.int .i64 0), (.int .i64 0), (.int .i64 0), (.int .i64 0), (.bool false), (.bool false), (.bool false)] [(0, 10, (.t 103))]⟩, ⟨some 105, none, .append false false 10 72 (.t 102) (.t 104)⟩, ⟨some 106, none, .fieldAddr 4 (.t 9)⟩, ⟨some 107, none, .fieldAddr 3 (.t 106)⟩, ⟨none, none, .store1 (.t 107) (.t 105)⟩] [(5, 4)])) <|
       .ops [⟨some 58, none, .mov (.t 11)⟩, ⟨some 59, none, .bin .num .add (.t 58) (.c (.int .i64 1))⟩, ⟨some 11, none, .mov (.t 59)⟩]))) <|
     .seq (.ops [⟨some 108, none, .mov (.t 4)⟩, ⟨some 109, none, .call .shared 57 [(.t 108), (.c (.int .u64 1099511627776))]⟩, ⟨some 110, none, .conv .i64 (.t 109)⟩, ⟨some 111, none, .fieldAddr 8 (.t 9)⟩, ⟨none, none, .store1 (.t 111) (.t 110)⟩]) <|
     .seq (.ops [⟨some 112, none, .mov (.t 4)⟩, ⟨some 113, none, .call .shared 57 [(.t 112), (.c (.int .u64 63))]⟩, ⟨some 114, none, .conv .i64 (.t 113)⟩, ⟨some 115, none, .fieldAddr 9 (.t 9)⟩, ⟨none, none, .store1 (.t 115) (.t 114)⟩]) <|
     .ops [⟨some 116, none, .fieldAddr 1 (.t 5)⟩, ⟨some 117, none, .load1 (.t 116)⟩, ⟨some 118, none, .loadN 10 (.t 9)⟩, ⟨some 119, none, .buildSlice false 10 1 [(.str ⟨#[]⟩), (.int .i64 0), (.int .i64 0), (.sl .nil 0 []), (.str ⟨#[]⟩), (.int .i64 0), (.int .i64 0), (.sl .nil 0 []), (.int .i64 0), (.int .i64 0)] [(0, 10, (.t 118))]⟩, ⟨some 120, none, .append false false 10 128 (.t 117) (.t 119)⟩, ⟨some 121, none, .fieldAddr 1 (.t 5)⟩, ⟨none, none, .store1 (.t 121) (.t 120)⟩])) <|
    .ops [⟨some 37, none, .mov (.t 7)⟩, ⟨some 38, none, .bin .num .add (.t 37) (.c (.int .i64 1))⟩, ⟨some 7, none, .mov (.t 38)⟩]))) <|
  .seq (.ops [⟨some 122, none, .mov (.t 4)⟩, ⟨some 123, none, .call .shared 57 [(.t 122), (.c (.int .u64 192))]⟩, ⟨some 124, none, .conv .i64 (.t 123)⟩, ⟨some 6, none, .mov (.t 124)⟩]) <|
  .seq (.seq (.ops [⟨some 14, none, .mov (.c (.int .i64 0))⟩]) <|
  .block 4 (.loop (.seq (.seq (.ops [⟨some 125, none, .mov (.t 14)⟩, ⟨some 126, none, .mov (.t 6)⟩, ⟨some 127, none, .bin .num .lss (.t 125) (.t 126)⟩, ⟨some 128, none, .mov (.t 127)⟩, ⟨some 129, some (128, true), .mov (.t 4)⟩, ⟨some 130, some (128, true), .nilCheck (.t 129)⟩, ⟨some 131, some (128, true), .fieldAddr 1 (.t 130)⟩, ⟨some 132, some (128, true), .load1 (.t 131)⟩, ⟨some 133, some (128, true), .bin .num .eql (.t 132) (.c (.int .i64 0))⟩, ⟨some 134, none, .pick (.t 128) (.t 133) (.c (.bool false))⟩]) <|
    .cond (.t 134) (.skip) (.exit 4)) <|
    .seq (.block 5 (.seq (.ops [⟨some 15, none, .alloc [(.str ⟨#[]⟩), (.str ⟨#[]⟩), (.int .i64 0), (.int .i64 0), (.int .i64 0), (.int .i64 0), (.int .i64 0), (.int .i64 0), (.int .i64 0), (.int .i64 0), (.int .i64 0)]⟩]) <|
     .seq (.ops [⟨some 137, none, .mov (.t 4)⟩, ⟨some 138, none, .call .shared 58 [(.t 137), (.c (.int .i64 16))]⟩, ⟨some 139, none, .fieldAddr 0 (.t 15)⟩, ⟨some 140, none, .fieldAddr 0 (.t 139)⟩, ⟨none, none, .store1 (.t 140) (.t 138)⟩]) <|
     .seq (.ops [⟨some 141, none, .mov (.t 4)⟩, ⟨some 142, none, .call .shared 58 [(.t 141), (.c (.int .i64 16))]⟩, ⟨some 143, none, .fieldAddr 0 (.t 15)⟩, ⟨some 144, none, .fieldAddr 1 (.t 143)⟩, ⟨none, none, .store1 (.t 144) (.t 142)⟩]) <|
     .seq (.ops [⟨some 145, none, .mov (.t 4)⟩, ⟨some 146, none, .call .shared 57 [(.t 145), (.c (.int .u64 1))]⟩, ⟨some 147, none, .conv .i64 (.t 146)⟩, ⟨some 148, none, .fieldAddr 0 (.t 15)⟩, ⟨some 149, none, .fieldAddr 2 (.t 148)⟩, ⟨none, none, .store1 (.t 149) (.t 147)⟩]) <|
     .seq (.seq (.ops [⟨some 16, none, .mov (.c (.int .i64 0))⟩]) <|
     .block 6 (.loop (.seq (.seq (.ops [⟨some 150, none, .mov (.t 16)⟩, ⟨some 151, none, .bin .num .lss (.t 150) (.c (.int .i64 8))⟩]) <|
       .cond (.t 151) (.skip) (.exit 6)) <|
       .seq (.block 7 (.ops [⟨some 154, none, .mov (.t 16)⟩, ⟨some 155, none, .mov (.t 4)⟩, ⟨some 156, none, .call .shared 57 [(.t 155), (.c (.int .u64 1073741824))]⟩, ⟨some 157, none, .conv .i64 (.t 156)⟩, ⟨some 158, none, .fieldAddr 3 (.t 15)⟩, ⟨some 159, none, .idxAddrA 8 1 (.t 158) (.t 154)⟩, ⟨none, none, .store1 (.t 159) (.t 157)⟩])) <|
       .ops [⟨some 152, none, .mov (.t 16)⟩, ⟨some 153, none, .bin .num .add (.t 152) (.c (.int .i64 1))⟩, ⟨some 16, none, .mov (.t 153)⟩]))) <|
     .ops [⟨some 160, none, .fieldAddr 2 (.t 5)⟩, ⟨some 161, none, .load1 (.t 160)⟩, ⟨some 162, none, .loadN 11 (.t 15)⟩, ⟨some 163, none, .buildSlice false 11 1 [(.str ⟨#[]⟩), (.str ⟨#[]⟩), (.int .i64 0), (.int .i64 0), (.int .i64 0), (.int .i64 0), (.int .i64 0), (.int .i64 0), (.int .i64 0), (.int .i64 0), (.int .i64 0)] [(0, 11, (.t 162))]⟩, ⟨some 164, none, .append false false 11 104 (.t 161) (.t 163)⟩, ⟨some 165, none, .fieldAddr 2 (.t 5)⟩, ⟨none, none, .store1 (.t 165) (.t 164)⟩])) <|
    .ops [⟨some 135, none, .mov (.t 14)⟩, ⟨some 136, none, .bin .num .add (.t 135) (.c (.int .i64 1))⟩, ⟨some 14, none, .mov (.t 136)⟩]))) <|
  .seq (.seq (.ops [⟨some 166, none, .mov (.t 4)⟩, ⟨some 167, none, .nilCheck (.t 166)⟩, ⟨some 168, none, .fieldAddr 0 (.t 167)⟩, ⟨some 169, none, .load1 (.t 168)⟩, ⟨some 170, none, .bin .num .neq (.t 169) (.c (.str ⟨#[]⟩))⟩]) <|
  .cond (.t 170) (.ops [⟨some 171, none, .mov (.t 4)⟩, ⟨some 172, none, .call .shared 62 [(.t 171), (.c (.int .i64 13))]⟩]) (.skip)) <|
  .seq (.seq (.ops [⟨some 173, none, .mov (.t 4)⟩, ⟨some 174, none, .nilCheck (.t 173)⟩, ⟨some 175, none, .fieldAddr 1 (.t 174)⟩, ⟨some 176, none, .load1 (.t 175)⟩, ⟨some 177, none, .bin .num .neq (.t 176) (.c (.int .i64 0))⟩]) <|
  .cond (.t 177) (.seq (.draw [] [⟨some 178, none, .build [(.int .i64 0), (.sl .nil 0 []), (.sl .nil 0 [])] []⟩, ⟨some 179, none, .mov (.t 4)⟩, ⟨some 180, none, .nilCheck (.t 179)⟩, ⟨some 181, none, .fieldAddr 1 (.t 180)⟩, ⟨some 182, none, .load1 (.t 181)⟩, ⟨none, none, .storeN 3 (.t 2) (.t 178)⟩, ⟨some 3, none, .mov (.t 182)⟩] [(4, 5)]) <|
   .ret) (.skip)) <|
  .seq (.seq (.ops [⟨some 183, none, .loadN 3 (.t 5)⟩, ⟨some 184, none, .call .pure 8 [(.t 183)]⟩, ⟨some 185, none, .un .not (.t 184)⟩]) <|
  .cond (.t 185) (.seq (.ops [⟨some 186, none, .build [(.int .i64 0), (.sl .nil 0 []), (.sl .nil 0 [])] []⟩, ⟨none, none, .storeN 3 (.t 2) (.t 186)⟩, ⟨some 3, none, .mov (.c (.int .i64 11))⟩]) <|
   .ret) (.skip)) <|
  .seq (.ops [⟨some 187, none, .loadN 3 (.t 5)⟩, ⟨none, none, .storeN 3 (.t 2) (.t 187)⟩, ⟨some 3, none, .mov (.c (.int .i64 0))⟩]) <|
  .ret
def v21 : VFunc := ⟨188, [.cellN 3 2, .tmp 3], c21⟩
/-- berthing/berthinglaw05.Great -/
def c22 : VCode :=
  .seq (.ops [⟨some 1, none, .box (.t 0)⟩, ⟨some 2, none, .mov (.c (.int .i64 0))⟩]) <|
  .seq (.ops [⟨some 6, none, .fieldAddr 0 (.t 1)⟩, ⟨some 7, none, .load1 (.t 6)⟩, ⟨some 8, none, .lenStr (.t 7)⟩, ⟨some 3, none, .mov (.t 8)⟩]) <|
  .seq (.seq (.ops [⟨some 9, none, .fieldAddr 3 (.t 1)⟩, ⟨some 10, none, .load1 (.t 9)⟩, ⟨some 11, none, .lenS (.t 10)⟩, ⟨some 12, none, .mov (.c (.int .i64 0))⟩]) <|
  .block 0 (.loop (.seq (.ops [⟨some 13, none, .bin .num .lss (.t 12) (.t 11)⟩]) <|
    .seq (.cond (.t 13) (.skip) (.exit 0)) <|
    .seq (.block 1 (.seq (.ops [⟨some 14, none, .mov (.t 12)⟩, ⟨some 15, none, .idxAddrS 10 (.t 10) (.t 12)⟩, ⟨some 16, none, .loadN 10 (.t 15)⟩, ⟨some 5, none, .alloc [(.str ⟨#[]⟩), (.int .i64 0), (.int .i64 0), (.int .i64 0), (.int .i64 0), (.int .i64 0), (.int .i64 0), (.bool false), (.bool false), (.bool false)]⟩, ⟨some 4, none, .mov (.t 14)⟩, ⟨none, none, .storeN 10 (.t 5) (.t 16)⟩]) <|
     .seq (.seq (.ops [⟨some 17, none, .mov (.t 4)⟩, ⟨some 18, none, .bin .num .gtr (.t 17) (.c (.int .i64 50))⟩]) <|
     .cond (.t 18) (.seq (.ops [⟨some 2, none, .mov (.c (.int .i64 5000))⟩]) <|
      .ret) (.skip)) <|
     .ops [⟨some 19, none, .mov (.t 3)⟩, ⟨some 20, none, .fieldAddr 0 (.t 5)⟩, ⟨some 21, none, .load1 (.t 20)⟩, ⟨some 22, none, .lenStr (.t 21)⟩, ⟨some 23, none, .minmax false [(.t 22), (.c (.int .i64 3000))]⟩, ⟨some 24, none, .bin .num .add (.c (.int .i64 10)) (.t 23)⟩, ⟨some 25, none, .bin .num .add (.t 19) (.t 24)⟩, ⟨some 3, none, .mov (.t 25)⟩])) <|
    .ops [⟨some 26, none, .bin .num .add (.t 12) (.c (.int .i64 1))⟩, ⟨some 12, none, .mov (.t 26)⟩]))) <|
  .seq (.ops [⟨some 27, none, .mov (.t 3)⟩, ⟨some 2, none, .mov (.t 27)⟩]) <|
  .ret
def v22 : VFunc := ⟨28, [.tmp 2], c22⟩
/-- berthing/berthingref05.Find -/
def c23 : VCode :=
  .seq (.ops [⟨some 2, none, .box (.t 0)⟩, ⟨some 4, none, .mov (.c (.int .i64 0))⟩]) <|
  .seq (.seq (.ops [⟨some 7, none, .fieldAddr 3 (.t 2)⟩, ⟨some 8, none, .load1 (.t 7)⟩, ⟨some 9, none, .lenS (.t 8)⟩, ⟨some 10, none, .mov (.c (.int .i64 0))⟩]) <|
  .block 0 (.loop (.seq (.ops [⟨some 11, none, .bin .num .lss (.t 10) (.t 9)⟩]) <|
    .seq (.cond (.t 11) (.skip) (.exit 0)) <|
    .seq (.block 1 (.seq (.ops [⟨some 12, none, .mov (.t 10)⟩, ⟨some 13, none, .idxAddrS 10 (.t 8) (.t 10)⟩, ⟨some 14, none, .loadN 10 (.t 13)⟩, ⟨some 6, none, .alloc [(.str ⟨#[]⟩), (.int .i64 0), (.int .i64 0), (.int .i64 0), (.int .i64 0), (.int .i64 0), (.int .i64 0), (.bool false), (.bool false), (.bool false)]⟩, ⟨some 5, none, .mov (.t 12)⟩, ⟨none, none, .storeN 10 (.t 6) (.t 14)⟩]) <|
     .seq (.ops [⟨some 15, none, .fieldAddr 0 (.t 6)⟩, ⟨some 16, none, .load1 (.t 15)⟩, ⟨some 17, none, .mov (.t 1)⟩, ⟨some 18, none, .bin .num .eql (.t 16) (.t 17)⟩]) <|
     .cond (.t 18) (.seq (.ops [⟨some 19, none, .mov (.t 5)⟩, ⟨some 4, none, .mov (.t 19)⟩]) <|
      .ret) (.skip))) <|
    .ops [⟨some 20, none, .bin .num .add (.t 10) (.c (.int .i64 1))⟩, ⟨some 10, none, .mov (.t 20)⟩]))) <|
  .seq (.ops [⟨some 4, none, .mov (.c (.int .i64 (-1)))⟩]) <|
  .ret
def v23 : VFunc := ⟨21, [.tmp 4], c23⟩
/-- berthing/berthingref08.Before -/
def c24 : VCode :=
  .seq (.ops [⟨some 2, none, .box (.t 0)⟩, ⟨some 3, none, .box (.t 1)⟩, ⟨some 4, none, .mov (.c (.bool false))⟩]) <|
  .seq (.seq (.ops [⟨some 5, none, .fieldAddr 0 (.t 2)⟩, ⟨some 6, none, .load1 (.t 5)⟩, ⟨some 7, none, .fieldAddr 0 (.t 3)⟩, ⟨some 8, none, .load1 (.t 7)⟩, ⟨some 9, none, .bin .num .neq (.t 6) (.t 8)⟩]) <|
  .cond (.t 9) (.seq (.ops [⟨some 10, none, .fieldAddr 0 (.t 2)⟩, ⟨some 11, none, .load1 (.t 10)⟩, ⟨some 12, none, .fieldAddr 0 (.t 3)⟩, ⟨some 13, none, .load1 (.t 12)⟩, ⟨some 14, none, .bin .num .lss (.t 11) (.t 13)⟩, ⟨some 4, none, .mov (.t 14)⟩]) <|
   .ret) (.skip)) <|
  .seq (.seq (.ops [⟨some 15, none, .fieldAddr 1 (.t 2)⟩, ⟨some 16, none, .load1 (.t 15)⟩, ⟨some 17, none, .fieldAddr 1 (.t 3)⟩, ⟨some 18, none, .load1 (.t 17)⟩, ⟨some 19, none, .bin .num .neq (.t 16) (.t 18)⟩]) <|
  .cond (.t 19) (.seq (.ops [⟨some 20, none, .fieldAddr 1 (.t 2)⟩, ⟨some 21, none, .load1 (.t 20)⟩, ⟨some 22, none, .fieldAddr 1 (.t 3)⟩, ⟨some 23, none, .load1 (.t 22)⟩, ⟨some 24, none, .bin .num .lss (.t 21) (.t 23)⟩, ⟨some 4, none, .mov (.t 24)⟩]) <|
   .ret) (.skip)) <|
  .seq (.ops [⟨some 25, none, .fieldAddr 2 (.t 2)⟩, ⟨some 26, none, .load1 (.t 25)⟩, ⟨some 27, none, .fieldAddr 2 (.t 3)⟩, ⟨some 28, none, .load1 (.t 27)⟩, ⟨some 29, none, .bin .num .lss (.t 26) (.t 28)⟩, ⟨some 4, none, .mov (.t 29)⟩]) <|
  .ret
def v24 : VFunc := ⟨30, [.tmp 4], c24⟩
/-- berthing/berthingref12.Number -/
def c25 : VCode :=
  .seq (.ops [⟨some 2, none, .mov (.c (.str ⟨#[]⟩))⟩]) <|
  .seq (.ops [⟨some 3, none, .mov (.c (.str ⟨#[]⟩))⟩]) <|
  .seq (.block 0 (.loop (.seq (.seq (.ops [⟨some 4, none, .mov (.t 0)⟩, ⟨some 5, none, .bin .num .gtr (.t 4) (.c (.int .u64 127))⟩]) <|
    .cond (.t 5) (.skip) (.exit 0)) <|
    .block 1 (.seq (.ops [⟨some 6, none, .mov (.t 3)⟩, ⟨some 7, none, .mov (.t 0)⟩, ⟨some 8, none, .bin .num .rem (.t 7) (.c (.int .u64 128))⟩, ⟨some 9, none, .bin .num .add (.t 8) (.c (.int .u64 128))⟩, ⟨some 10, none, .conv .u8 (.t 9)⟩, ⟨some 11, none, .buildSlice false 1 1 [(.int .u8 0)] [(0, 1, (.t 10))]⟩, ⟨some 12, none, .strOfP (.t 11)⟩, ⟨some 13, none, .bin .num .add (.t 6) (.t 12)⟩, ⟨some 3, none, .mov (.t 13)⟩]) <|
     .ops [⟨some 14, none, .mov (.t 0)⟩, ⟨some 15, none, .bin .num .quo (.t 14) (.c (.int .u64 128))⟩, ⟨some 0, none, .mov (.t 15)⟩])))) <|
  .seq (.ops [⟨some 16, none, .mov (.t 3)⟩, ⟨some 17, none, .mov (.t 0)⟩, ⟨some 18, none, .conv .u8 (.t 17)⟩, ⟨some 19, none, .buildSlice false 1 1 [(.int .u8 0)] [(0, 1, (.t 18))]⟩, ⟨some 20, none, .strOfP (.t 19)⟩, ⟨some 21, none, .bin .num .add (.t 16) (.t 20)⟩, ⟨some 2, none, .mov (.t 21)⟩]) <|
  .ret
def v25 : VFunc := ⟨22, [.tmp 2], c25⟩
/-- berthing/berthingref12.Text -/
def c26 : VCode :=
  .seq (.ops [⟨some 2, none, .mov (.c (.str ⟨#[]⟩))⟩]) <|
  .seq (.ops [⟨some 3, none, .mov (.t 0)⟩, ⟨some 4, none, .lenStr (.t 3)⟩, ⟨some 5, none, .conv .u64 (.t 4)⟩, ⟨some 6, none, .call .pure 25 [(.t 5)]⟩, ⟨some 7, none, .mov (.t 0)⟩, ⟨some 8, none, .bin .num .add (.t 6) (.t 7)⟩, ⟨some 2, none, .mov (.t 8)⟩]) <|
  .ret
def v26 : VFunc := ⟨9, [.tmp 2], c26⟩
/-- berthing/berthingref12.Signed -/
def c27 : VCode :=
  .seq (.ops [⟨some 2, none, .mov (.c (.str ⟨#[]⟩))⟩]) <|
  .seq (.seq (.ops [⟨some 3, none, .mov (.t 0)⟩, ⟨some 4, none, .bin .num .lss (.t 3) (.c (.int .i64 0))⟩]) <|
  .cond (.t 4) (.seq (.ops [⟨some 5, none, .mov (.t 0)⟩, ⟨some 6, none, .bin .num .add (.t 5) (.c (.int .i64 1))⟩, ⟨some 7, none, .un .neg (.t 6)⟩, ⟨some 8, none, .conv .u64 (.t 7)⟩, ⟨some 9, none, .bin .num .mul (.t 8) (.c (.int .u64 2))⟩, ⟨some 10, none, .bin .num .add (.t 9) (.c (.int .u64 1))⟩, ⟨some 11, none, .call .pure 25 [(.t 10)]⟩, ⟨some 2, none, .mov (.t 11)⟩]) <|
   .ret) (.skip)) <|
  .seq (.ops [⟨some 12, none, .mov (.t 0)⟩, ⟨some 13, none, .conv .u64 (.t 12)⟩, ⟨some 14, none, .bin .num .mul (.t 13) (.c (.int .u64 2))⟩, ⟨some 15, none, .call .pure 25 [(.t 14)]⟩, ⟨some 2, none, .mov (.t 15)⟩]) <|
  .ret
def v27 : VFunc := ⟨16, [.tmp 2], c27⟩
/-- berthing/berthingref12.Flag -/
def c28 : VCode :=
  .seq (.ops [⟨some 2, none, .mov (.c (.str ⟨#[]⟩))⟩]) <|
  .seq (.seq (.ops [⟨some 3, none, .mov (.t 0)⟩]) <|
  .cond (.t 3) (.seq (.ops [⟨some 2, none, .mov (.c (.str ⟨#[1]⟩))⟩]) <|
   .ret) (.skip)) <|
  .seq (.ops [⟨some 2, none, .mov (.c (.str ⟨#[0]⟩))⟩]) <|
  .ret
def v28 : VFunc := ⟨4, [.tmp 2], c28⟩
/-- berthing/berthingref15.vector -/
def c29 : VCode :=
  .seq (.ops [⟨some 1, none, .box (.t 0)⟩, ⟨some 2, none, .mov (.c (.str ⟨#[]⟩))⟩]) <|
  .seq (.ops [⟨some 3, none, .fieldAddr 0 (.t 1)⟩, ⟨some 4, none, .load1 (.t 3)⟩, ⟨some 5, none, .conv .u64 (.t 4)⟩, ⟨some 6, none, .call .pure 25 [(.t 5)]⟩, ⟨some 7, none, .fieldAddr 1 (.t 1)⟩, ⟨some 8, none, .load1 (.t 7)⟩, ⟨some 9, none, .conv .u64 (.t 8)⟩, ⟨some 10, none, .call .pure 25 [(.t 9)]⟩, ⟨some 11, none, .bin .num .add (.t 6) (.t 10)⟩, ⟨some 12, none, .fieldAddr 2 (.t 1)⟩, ⟨some 13, none, .load1 (.t 12)⟩, ⟨some 14, none, .conv .u64 (.t 13)⟩, ⟨some 15, none, .call .pure 25 [(.t 14)]⟩, ⟨some 16, none, .bin .num .add (.t 11) (.t 15)⟩, ⟨some 2, none, .mov (.t 16)⟩]) <|
  .ret
def v29 : VFunc := ⟨17, [.tmp 2], c29⟩
/-- berthing/spec.Pod -/
def c30 : VCode :=
  .seq (.ops [⟨some 1, none, .box (.t 0)⟩, ⟨some 2, none, .mov (.c (.bool false))⟩]) <|
  .seq (.ops [⟨some 11, none, .fieldAddr 3 (.t 1)⟩, ⟨some 12, none, .load1 (.t 11)⟩, ⟨some 13, none, .lenS (.t 12)⟩, ⟨some 3, none, .mov (.t 13)⟩]) <|
  .seq (.seq (.ops [⟨some 14, none, .fieldAddr 0 (.t 1)⟩, ⟨some 15, none, .load1 (.t 14)⟩, ⟨some 16, none, .call .pure 63 [(.t 15)]⟩, ⟨some 17, none, .un .not (.t 16)⟩, ⟨some 18, none, .mov (.t 17)⟩, ⟨some 19, some (18, false), .fieldAddr 1 (.t 1)⟩, ⟨some 20, some (18, false), .load1 (.t 19)⟩, ⟨some 21, some (18, false), .bin .num .lss (.t 20) (.c (.int .i64 (-1000)))⟩, ⟨some 22, none, .pick (.t 18) (.c (.bool true)) (.t 21)⟩, ⟨some 23, none, .mov (.t 22)⟩, ⟨some 24, some (23, false), .fieldAddr 1 (.t 1)⟩, ⟨some 25, some (23, false), .load1 (.t 24)⟩, ⟨some 26, some (23, false), .bin .num .gtr (.t 25) (.c (.int .i64 1000))⟩, ⟨some 27, none, .pick (.t 23) (.c (.bool true)) (.t 26)⟩, ⟨some 28, none, .mov (.t 27)⟩, ⟨some 29, some (28, false), .fieldAddr 2 (.t 1)⟩, ⟨some 30, some (28, false), .load1 (.t 29)⟩, ⟨some 31, some (28, false), .bin .num .lss (.t 30) (.c (.int .i64 0))⟩, ⟨some 32, none, .pick (.t 28) (.c (.bool true)) (.t 31)⟩, ⟨some 33, none, .mov (.t 32)⟩, ⟨some 34, some (33, false), .fieldAddr 2 (.t 1)⟩, ⟨some 35, some (33, false), .load1 (.t 34)⟩, ⟨some 36, some (33, false), .bin .num .gtr (.t 35) (.c (.int .i64 2))⟩, ⟨some 37, none, .pick (.t 33) (.c (.bool true)) (.t 36)⟩, ⟨some 38, none, .mov (.t 37)⟩, ⟨some 39, some (38, false), .mov (.t 3)⟩, ⟨some 40, some (38, false), .bin .num .lss (.t 39) (.c (.int .i64 1))⟩, ⟨some 41, none, .pick (.t 38) (.c (.bool true)) (.t 40)⟩, ⟨some 42, none, .mov (.t 41)⟩, ⟨some 43, some (42, false), .mov (.t 3)⟩, ⟨some 44, some (42, false), .bin .num .gtr (.t 43) (.c (.int .i64 6))⟩, ⟨some 45, none, .pick (.t 42) (.c (.bool true)) (.t 44)⟩]) <|
  .cond (.t 45) (.seq (.ops [⟨some 2, none, .mov (.c (.bool false))⟩]) <|
   .ret) (.skip)) <|
  .seq (.seq (.ops [⟨some 46, none, .fieldAddr 3 (.t 1)⟩, ⟨some 47, none, .load1 (.t 46)⟩, ⟨some 48, none, .lenS (.t 47)⟩, ⟨some 49, none, .mov (.c (.int .i64 0))⟩]) <|
  .block 0 (.loop (.seq (.ops [⟨some 50, none, .bin .num .lss (.t 49) (.t 48)⟩]) <|
    .seq (.cond (.t 50) (.skip) (.exit 0)) <|
    .seq (.block 1 (.seq (.ops [⟨some 51, none, .mov (.t 49)⟩, ⟨some 52, none, .idxAddrS 10 (.t 47) (.t 49)⟩, ⟨some 53, none, .loadN 10 (.t 52)⟩, ⟨some 5, none, .alloc [(.str ⟨#[]⟩), (.int .i64 0), (.int .i64 0), (.int .i64 0), (.int .i64 0), (.int .i64 0), (.int .i64 0), (.bool false), (.bool false), (.bool false)]⟩, ⟨some 4, none, .mov (.t 51)⟩, ⟨none, none, .storeN 10 (.t 5) (.t 53)⟩]) <|
     .seq (.ops [⟨some 55, none, .loadN 4 (.t 1)⟩, ⟨some 56, none, .fieldAddr 0 (.t 5)⟩, ⟨some 57, none, .load1 (.t 56)⟩, ⟨some 58, none, .call .shared 64 [(.t 55), (.t 57)]⟩, ⟨some 54, none, .mov (.t 58)⟩, ⟨some 59, none, .extract 0 (.t 54)⟩, ⟨some 60, none, .extract 1 (.t 54)⟩, ⟨some 6, none, .mov (.t 59)⟩, ⟨some 7, none, .mov (.t 60)⟩]) <|
     .seq (.ops [⟨some 61, none, .mov (.t 6)⟩, ⟨some 62, none, .mov (.t 4)⟩, ⟨some 63, none, .bin .num .neq (.t 61) (.t 62)⟩, ⟨some 64, none, .mov (.t 63)⟩, ⟨some 65, some (64, false), .loadN 10 (.t 5)⟩, ⟨some 66, some (64, false), .call .pure 65 [(.t 65)]⟩, ⟨some 67, some (64, false), .un .not (.t 66)⟩, ⟨some 68, none, .pick (.t 64) (.c (.bool true)) (.t 67)⟩]) <|
     .cond (.t 68) (.seq (.ops [⟨some 2, none, .mov (.c (.bool false))⟩]) <|
      .ret) (.skip))) <|
    .ops [⟨some 69, none, .bin .num .add (.t 49) (.c (.int .i64 1))⟩, ⟨some 49, none, .mov (.t 69)⟩]))) <|
  .seq (.ops [⟨some 71, none, .loadN 4 (.t 1)⟩, ⟨some 72, none, .call .shared 66 [(.t 71)]⟩, ⟨some 70, none, .mov (.t 72)⟩, ⟨some 73, none, .extract 0 (.t 70)⟩, ⟨some 74, none, .extract 1 (.t 70)⟩, ⟨some 75, none, .extract 2 (.t 70)⟩, ⟨some 8, none, .alloc [(.int .i64 0), (.int .i64 0), (.int .i64 0)]⟩, ⟨some 9, none, .alloc [(.int .i64 0), (.int .i64 0), (.int .i64 0)]⟩, ⟨none, none, .storeN 3 (.t 8) (.t 73)⟩, ⟨none, none, .storeN 3 (.t 9) (.t 74)⟩, ⟨some 10, none, .mov (.t 75)⟩]) <|
  .seq (.ops [⟨some 76, none, .mov (.t 10)⟩, ⟨some 2, none, .mov (.t 76)⟩]) <|
  .ret
def v30 : VFunc := ⟨77, [.tmp 2], c30⟩
/-- berthing/spec.Class -/
def c31 : VCode :=
  .seq (.ops [⟨some 1, none, .box (.t 0)⟩, ⟨some 2, none, .mov (.c (.int .i64 0))⟩]) <|
  .seq (.ops [⟨some 3, none, .mov (.c (.bool true))⟩, ⟨some 4, none, .mov (.c (.bool true))⟩]) <|
  .seq (.seq (.ops [⟨some 9, none, .fieldAddr 3 (.t 1)⟩, ⟨some 10, none, .load1 (.t 9)⟩, ⟨some 11, none, .lenS (.t 10)⟩, ⟨some 12, none, .mov (.c (.int .i64 0))⟩]) <|
  .block 0 (.loop (.seq (.ops [⟨some 13, none, .bin .num .lss (.t 12) (.t 11)⟩]) <|
    .seq (.cond (.t 13) (.skip) (.exit 0)) <|
    .seq (.block 1 (.seq (.ops [⟨some 14, none, .idxAddrS 10 (.t 10) (.t 12)⟩, ⟨some 15, none, .loadN 10 (.t 14)⟩, ⟨some 6, none, .alloc [(.str ⟨#[]⟩), (.int .i64 0), (.int .i64 0), (.int .i64 0), (.int .i64 0), (.int .i64 0), (.int .i64 0), (.bool false), (.bool false), (.bool false)]⟩, ⟨none, none, .storeN 10 (.t 6) (.t 15)⟩]) <|
     .seq (.draw [(7, [(.int .i64 0), (.int .i64 0), (.int .i64 0)]), (8, [(.int .i64 0), (.int .i64 0), (.int .i64 0)])] [⟨some 16, none, .fieldAddr 1 (.t 6)⟩, ⟨some 17, none, .loadN 3 (.t 16)⟩, ⟨some 18, none, .fieldAddr 4 (.t 6)⟩, ⟨some 19, none, .loadN 3 (.t 18)⟩, ⟨none, none, .idle⟩, ⟨none, none, .idle⟩, ⟨none, none, .storeN 3 (.t 7) (.t 17)⟩, ⟨none, none, .storeN 3 (.t 8) (.t 19)⟩] [(3, 6)]) <|
     .seq (.ops [⟨some 20, none, .mov (.t 3)⟩, ⟨some 21, none, .mov (.t 20)⟩, ⟨some 22, some (21, true), .fieldAddr 0 (.t 7)⟩, ⟨some 23, some (21, true), .load1 (.t 22)⟩, ⟨some 24, some (21, true), .fieldAddr 0 (.t 8)⟩, ⟨some 25, some (21, true), .load1 (.t 24)⟩, ⟨some 26, some (21, true), .bin .num .eql (.t 23) (.t 25)⟩, ⟨some 27, none, .pick (.t 21) (.t 26) (.c (.bool false))⟩, ⟨some 28, none, .mov (.t 27)⟩, ⟨some 29, some (28, true), .fieldAddr 1 (.t 7)⟩, ⟨some 30, some (28, true), .load1 (.t 29)⟩, ⟨some 31, some (28, true), .fieldAddr 1 (.t 8)⟩, ⟨some 32, some (28, true), .load1 (.t 31)⟩, ⟨some 33, some (28, true), .bin .num .eql (.t 30) (.t 32)⟩, ⟨some 34, none, .pick (.t 28) (.t 33) (.c (.bool false))⟩, ⟨some 35, none, .mov (.t 34)⟩, ⟨some 36, some (35, true), .fieldAddr 0 (.t 7)⟩, ⟨some 37, some (35, true), .load1 (.t 36)⟩, ⟨some 38, some (35, true), .bin .num .neq (.t 37) (.c (.int .i64 0))⟩, ⟨some 39, none, .pick (.t 35) (.t 38) (.c (.bool false))⟩, ⟨some 40, none, .mov (.t 39)⟩, ⟨some 41, some (40, true), .fieldAddr 1 (.t 7)⟩, ⟨some 42, some (40, true), .load1 (.t 41)⟩, ⟨some 43, some (40, true), .bin .num .neq (.t 42) (.c (.int .i64 0))⟩, ⟨some 44, none, .pick (.t 40) (.t 43) (.c (.bool false))⟩, ⟨some 3, none, .mov (.t 44)⟩]) <|
     .ops [⟨some 45, none, .mov (.t 4)⟩, ⟨some 46, none, .mov (.t 45)⟩, ⟨some 47, some (46, true), .fieldAddr 0 (.t 7)⟩, ⟨some 48, some (46, true), .load1 (.t 47)⟩, ⟨some 49, some (46, true), .bin .num .eql (.t 48) (.c (.int .i64 0))⟩, ⟨some 50, none, .pick (.t 46) (.t 49) (.c (.bool false))⟩, ⟨some 51, none, .mov (.t 50)⟩, ⟨some 52, some (51, true), .fieldAddr 0 (.t 8)⟩, ⟨some 53, some (51, true), .load1 (.t 52)⟩, ⟨some 54, some (51, true), .bin .num .eql (.t 53) (.c (.int .i64 0))⟩, ⟨some 55, none, .pick (.t 51) (.t 54) (.c (.bool false))⟩, ⟨some 56, none, .mov (.t 55)⟩, ⟨some 57, some (56, true), .fieldAddr 1 (.t 7)⟩, ⟨some 58, some (56, true), .load1 (.t 57)⟩, ⟨some 59, some (56, true), .bin .num .eql (.t 58) (.c (.int .i64 0))⟩, ⟨some 60, none, .pick (.t 56) (.t 59) (.c (.bool false))⟩, ⟨some 61, none, .mov (.t 60)⟩, ⟨some 62, some (61, true), .fieldAddr 1 (.t 8)⟩, ⟨some 63, some (61, true), .load1 (.t 62)⟩, ⟨some 64, some (61, true), .bin .num .eql (.t 63) (.c (.int .i64 0))⟩, ⟨some 65, none, .pick (.t 61) (.t 64) (.c (.bool false))⟩, ⟨some 4, none, .mov (.t 65)⟩])) <|
    .ops [⟨some 66, none, .bin .num .add (.t 12) (.c (.int .i64 1))⟩, ⟨some 12, none, .mov (.t 66)⟩]))) <|
  .seq (.block 2 (.seq (.ops [⟨some 68, none, .mov (.t 4)⟩, ⟨some 67, none, .mov (.t 68)⟩]) <|
   .cond (.t 67) (.seq (.ops [⟨some 2, none, .mov (.c (.int .i64 2))⟩]) <|
    .ret) (.seq (.ops [⟨some 70, none, .mov (.t 3)⟩, ⟨some 69, none, .mov (.t 70)⟩]) <|
    .cond (.t 69) (.seq (.ops [⟨some 2, none, .mov (.c (.int .i64 0))⟩]) <|
     .ret) (.skip)))) <|
  .seq (.ops [⟨some 2, none, .mov (.c (.int .i64 1))⟩]) <|
  .ret
def v31 : VFunc := ⟨71, [.tmp 2], c31⟩
/-- berthing/berthingref05.Pod -/
def c32 : VCode :=
  .seq (.ops [⟨some 1, none, .box (.t 0)⟩, ⟨some 2, none, .mov (.c (.bool false))⟩]) <|
  .seq (.seq (.ops [⟨some 10, none, .fieldAddr 0 (.t 1)⟩, ⟨some 11, none, .load1 (.t 10)⟩, ⟨some 12, none, .call .pure 67 [(.t 11)]⟩, ⟨some 13, none, .un .not (.t 12)⟩, ⟨some 14, none, .mov (.t 13)⟩, ⟨some 15, some (14, false), .fieldAddr 1 (.t 1)⟩, ⟨some 16, some (14, false), .load1 (.t 15)⟩, ⟨some 17, some (14, false), .bin .num .lss (.t 16) (.c (.int .i64 (-1000)))⟩, ⟨some 18, none, .pick (.t 14) (.c (.bool true)) (.t 17)⟩, ⟨some 19, none, .mov (.t 18)⟩, ⟨some 20, some (19, false), .fieldAddr 1 (.t 1)⟩, ⟨some 21, some (19, false), .load1 (.t 20)⟩, ⟨some 22, some (19, false), .bin .num .gtr (.t 21) (.c (.int .i64 1000))⟩, ⟨some 23, none, .pick (.t 19) (.c (.bool true)) (.t 22)⟩, ⟨some 24, none, .mov (.t 23)⟩, ⟨some 25, some (24, false), .fieldAddr 2 (.t 1)⟩, ⟨some 26, some (24, false), .load1 (.t 25)⟩, ⟨some 27, some (24, false), .bin .num .lss (.t 26) (.c (.int .i64 0))⟩, ⟨some 28, none, .pick (.t 24) (.c (.bool true)) (.t 27)⟩, ⟨some 29, none, .mov (.t 28)⟩, ⟨some 30, some (29, false), .fieldAddr 2 (.t 1)⟩, ⟨some 31, some (29, false), .load1 (.t 30)⟩, ⟨some 32, some (29, false), .bin .num .gtr (.t 31) (.c (.int .i64 2))⟩, ⟨some 33, none, .pick (.t 29) (.c (.bool true)) (.t 32)⟩, ⟨some 34, none, .mov (.t 33)⟩, ⟨some 35, some (34, false), .fieldAddr 3 (.t 1)⟩, ⟨some 36, some (34, false), .load1 (.t 35)⟩, ⟨some 37, some (34, false), .lenS (.t 36)⟩, ⟨some 38, some (34, false), .bin .num .lss (.t 37) (.c (.int .i64 1))⟩, ⟨some 39, none, .pick (.t 34) (.c (.bool true)) (.t 38)⟩, ⟨some 40, none, .mov (.t 39)⟩, ⟨some 41, some (40, false), .fieldAddr 3 (.t 1)⟩, ⟨some 42, some (40, false), .load1 (.t 41)⟩, ⟨some 43, some (40, false), .lenS (.t 42)⟩, ⟨some 44, some (40, false), .bin .num .gtr (.t 43) (.c (.int .i64 6))⟩, ⟨some 45, none, .pick (.t 40) (.c (.bool true)) (.t 44)⟩]) <|
  .cond (.t 45) (.seq (.ops [⟨some 2, none, .mov (.c (.bool false))⟩]) <|
   .ret) (.skip)) <|
  .seq (.seq (.ops [⟨some 46, none, .fieldAddr 3 (.t 1)⟩, ⟨some 47, none, .load1 (.t 46)⟩, ⟨some 48, none, .lenS (.t 47)⟩, ⟨some 49, none, .mov (.c (.int .i64 0))⟩]) <|
  .block 0 (.loop (.seq (.ops [⟨some 50, none, .bin .num .lss (.t 49) (.t 48)⟩]) <|
    .seq (.cond (.t 50) (.skip) (.exit 0)) <|
    .seq (.block 1 (.seq (.ops [⟨some 51, none, .mov (.t 49)⟩, ⟨some 52, none, .idxAddrS 10 (.t 47) (.t 49)⟩, ⟨some 53, none, .loadN 10 (.t 52)⟩, ⟨some 4, none, .alloc [(.str ⟨#[]⟩), (.int .i64 0), (.int .i64 0), (.int .i64 0), (.int .i64 0), (.int .i64 0), (.int .i64 0), (.bool false), (.bool false), (.bool false)]⟩, ⟨some 3, none, .mov (.t 51)⟩, ⟨none, none, .storeN 10 (.t 4) (.t 53)⟩]) <|
     .seq (.seq (.ops [⟨some 54, none, .loadN 10 (.t 4)⟩, ⟨some 55, none, .call .pure 68 [(.t 54)]⟩, ⟨some 56, none, .un .not (.t 55)⟩]) <|
     .cond (.t 56) (.seq (.ops [⟨some 2, none, .mov (.c (.bool false))⟩]) <|
      .ret) (.skip)) <|
     .seq (.ops [⟨some 57, none, .fieldAddr 3 (.t 1)⟩, ⟨some 58, none, .load1 (.t 57)⟩, ⟨some 59, none, .mov (.t 3)⟩, ⟨some 60, none, .sliceS 10 (.t 58) none (some (.t 59)) none⟩, ⟨some 61, none, .lenS (.t 60)⟩, ⟨some 62, none, .mov (.c (.int .i64 0))⟩]) <|
     .block 2 (.loop (.seq (.ops [⟨some 63, none, .bin .num .lss (.t 62) (.t 61)⟩]) <|
       .seq (.cond (.t 63) (.skip) (.exit 2)) <|
       .seq (.block 3 (.seq (.ops [⟨some 64, none, .idxAddrS 10 (.t 60) (.t 62)⟩, ⟨some 65, none, .loadN 10 (.t 64)⟩, ⟨some 6, none, .alloc [(.str ⟨#[]⟩), (.int .i64 0), (.int .i64 0), (.int .i64 0), (.int .i64 0), (.int .i64 0), (.int .i64 0), (.bool false), (.bool false), (.bool false)]⟩, ⟨none, none, .storeN 10 (.t 6) (.t 65)⟩]) <|
        .seq (.ops [⟨some 66, none, .fieldAddr 0 (.t 4)⟩, ⟨some 67, none, .load1 (.t 66)⟩, ⟨some 68, none, .fieldAddr 0 (.t 6)⟩, ⟨some 69, none, .load1 (.t 68)⟩, ⟨some 70, none, .bin .num .eql (.t 67) (.t 69)⟩]) <|
        .cond (.t 70) (.seq (.ops [⟨some 2, none, .mov (.c (.bool false))⟩]) <|
         .ret) (.skip))) <|
       .ops [⟨some 71, none, .bin .num .add (.t 62) (.c (.int .i64 1))⟩, ⟨some 62, none, .mov (.t 71)⟩])))) <|
    .ops [⟨some 72, none, .bin .num .add (.t 49) (.c (.int .i64 1))⟩, ⟨some 49, none, .mov (.t 72)⟩]))) <|
  .seq (.ops [⟨some 74, none, .loadN 4 (.t 1)⟩, ⟨some 75, none, .call .shared 69 [(.t 74)]⟩, ⟨some 73, none, .mov (.t 75)⟩, ⟨some 76, none, .extract 0 (.t 73)⟩, ⟨some 77, none, .extract 1 (.t 73)⟩, ⟨some 78, none, .extract 2 (.t 73)⟩, ⟨some 7, none, .alloc [(.int .i64 0), (.int .i64 0), (.int .i64 0)]⟩, ⟨some 8, none, .alloc [(.int .i64 0), (.int .i64 0), (.int .i64 0)]⟩, ⟨none, none, .storeN 3 (.t 7) (.t 76)⟩, ⟨none, none, .storeN 3 (.t 8) (.t 77)⟩, ⟨some 9, none, .mov (.t 78)⟩]) <|
  .seq (.ops [⟨some 79, none, .mov (.t 9)⟩, ⟨some 2, none, .mov (.t 79)⟩]) <|
  .ret
def v32 : VFunc := ⟨80, [.tmp 2], c32⟩
/-- berthing/berthingref05.Class -/
def c33 : VCode :=
  .seq (.ops [⟨some 1, none, .box (.t 0)⟩, ⟨some 2, none, .mov (.c (.int .i64 0))⟩]) <|
  .seq (.ops [⟨some 3, none, .mov (.c (.bool true))⟩]) <|
  .seq (.seq (.ops [⟨some 8, none, .fieldAddr 3 (.t 1)⟩, ⟨some 9, none, .load1 (.t 8)⟩, ⟨some 10, none, .lenS (.t 9)⟩, ⟨some 11, none, .mov (.c (.int .i64 0))⟩]) <|
  .block 0 (.loop (.seq (.ops [⟨some 12, none, .bin .num .lss (.t 11) (.t 10)⟩]) <|
    .seq (.cond (.t 12) (.skip) (.exit 0)) <|
    .seq (.block 1 (.seq (.ops [⟨some 13, none, .idxAddrS 10 (.t 9) (.t 11)⟩, ⟨some 14, none, .loadN 10 (.t 13)⟩, ⟨some 5, none, .alloc [(.str ⟨#[]⟩), (.int .i64 0), (.int .i64 0), (.int .i64 0), (.int .i64 0), (.int .i64 0), (.int .i64 0), (.bool false), (.bool false), (.bool false)]⟩, ⟨none, none, .storeN 10 (.t 5) (.t 14)⟩]) <|
     .ops [⟨some 15, none, .mov (.t 3)⟩, ⟨some 16, none, .mov (.t 15)⟩, ⟨some 17, some (16, true), .fieldAddr 1 (.t 5)⟩, ⟨some 18, some (16, true), .fieldAddr 0 (.t 17)⟩, ⟨some 19, some (16, true), .load1 (.t 18)⟩, ⟨some 20, some (16, true), .bin .num .eql (.t 19) (.c (.int .i64 0))⟩, ⟨some 21, none, .pick (.t 16) (.t 20) (.c (.bool false))⟩, ⟨some 22, none, .mov (.t 21)⟩, ⟨some 23, some (22, true), .fieldAddr 1 (.t 5)⟩, ⟨some 24, some (22, true), .fieldAddr 1 (.t 23)⟩, ⟨some 25, some (22, true), .load1 (.t 24)⟩, ⟨some 26, some (22, true), .bin .num .eql (.t 25) (.c (.int .i64 0))⟩, ⟨some 27, none, .pick (.t 22) (.t 26) (.c (.bool false))⟩, ⟨some 28, none, .mov (.t 27)⟩, ⟨some 29, some (28, true), .fieldAddr 4 (.t 5)⟩, ⟨some 30, some (28, true), .fieldAddr 0 (.t 29)⟩, ⟨some 31, some (28, true), .load1 (.t 30)⟩, ⟨some 32, some (28, true), .bin .num .eql (.t 31) (.c (.int .i64 0))⟩, ⟨some 33, none, .pick (.t 28) (.t 32) (.c (.bool false))⟩, ⟨some 34, none, .mov (.t 33)⟩, ⟨some 35, some (34, true), .fieldAddr 4 (.t 5)⟩, ⟨some 36, some (34, true), .fieldAddr 1 (.t 35)⟩, ⟨some 37, some (34, true), .load1 (.t 36)⟩, ⟨some 38, some (34, true), .bin .num .eql (.t 37) (.c (.int .i64 0))⟩, ⟨some 39, none, .pick (.t 34) (.t 38) (.c (.bool false))⟩, ⟨some 3, none, .mov (.t 39)⟩])) <|
    .ops [⟨some 40, none, .bin .num .add (.t 11) (.c (.int .i64 1))⟩, ⟨some 11, none, .mov (.t 40)⟩]))) <|
  .seq (.seq (.ops [⟨some 41, none, .mov (.t 3)⟩]) <|
  .cond (.t 41) (.seq (.ops [⟨some 2, none, .mov (.c (.int .i64 2))⟩]) <|
   .ret) (.skip)) <|
  .seq (.seq (.ops [⟨some 42, none, .fieldAddr 3 (.t 1)⟩, ⟨some 43, none, .load1 (.t 42)⟩, ⟨some 44, none, .lenS (.t 43)⟩, ⟨some 45, none, .mov (.c (.int .i64 0))⟩]) <|
  .block 2 (.loop (.seq (.ops [⟨some 46, none, .bin .num .lss (.t 45) (.t 44)⟩]) <|
    .seq (.cond (.t 46) (.skip) (.exit 2)) <|
    .seq (.block 3 (.seq (.ops [⟨some 47, none, .idxAddrS 10 (.t 43) (.t 45)⟩, ⟨some 48, none, .loadN 10 (.t 47)⟩, ⟨some 7, none, .alloc [(.str ⟨#[]⟩), (.int .i64 0), (.int .i64 0), (.int .i64 0), (.int .i64 0), (.int .i64 0), (.int .i64 0), (.bool false), (.bool false), (.bool false)]⟩, ⟨none, none, .storeN 10 (.t 7) (.t 48)⟩]) <|
     .seq (.ops [⟨some 49, none, .fieldAddr 1 (.t 7)⟩, ⟨some 50, none, .fieldAddr 0 (.t 49)⟩, ⟨some 51, none, .load1 (.t 50)⟩, ⟨some 52, none, .fieldAddr 4 (.t 7)⟩, ⟨some 53, none, .fieldAddr 0 (.t 52)⟩, ⟨some 54, none, .load1 (.t 53)⟩, ⟨some 55, none, .bin .num .neq (.t 51) (.t 54)⟩, ⟨some 56, none, .mov (.t 55)⟩, ⟨some 57, some (56, false), .fieldAddr 1 (.t 7)⟩, ⟨some 58, some (56, false), .fieldAddr 1 (.t 57)⟩, ⟨some 59, some (56, false), .load1 (.t 58)⟩, ⟨some 60, some (56, false), .fieldAddr 4 (.t 7)⟩, ⟨some 61, some (56, false), .fieldAddr 1 (.t 60)⟩, ⟨some 62, some (56, false), .load1 (.t 61)⟩, ⟨some 63, some (56, false), .bin .num .neq (.t 59) (.t 62)⟩, ⟨some 64, none, .pick (.t 56) (.c (.bool true)) (.t 63)⟩, ⟨some 65, none, .mov (.t 64)⟩, ⟨some 66, some (65, false), .fieldAddr 1 (.t 7)⟩, ⟨some 67, some (65, false), .fieldAddr 0 (.t 66)⟩, ⟨some 68, some (65, false), .load1 (.t 67)⟩, ⟨some 69, some (65, false), .bin .num .eql (.t 68) (.c (.int .i64 0))⟩, ⟨some 70, none, .pick (.t 65) (.c (.bool true)) (.t 69)⟩, ⟨some 71, none, .mov (.t 70)⟩, ⟨some 72, some (71, false), .fieldAddr 1 (.t 7)⟩, ⟨some 73, some (71, false), .fieldAddr 1 (.t 72)⟩, ⟨some 74, some (71, false), .load1 (.t 73)⟩, ⟨some 75, some (71, false), .bin .num .eql (.t 74) (.c (.int .i64 0))⟩, ⟨some 76, none, .pick (.t 71) (.c (.bool true)) (.t 75)⟩]) <|
     .cond (.t 76) (.seq (.ops [⟨some 2, none, .mov (.c (.int .i64 1))⟩]) <|
      .ret) (.skip))) <|
    .ops [⟨some 77, none, .bin .num .add (.t 45) (.c (.int .i64 1))⟩, ⟨some 45, none, .mov (.t 77)⟩]))) <|
  .seq (.ops [⟨some 2, none, .mov (.c (.int .i64 0))⟩]) <|
  .ret
def v33 : VFunc := ⟨78, [.tmp 2], c33⟩
/-- berthing/record.Kin$1 -/
def c34 : VCode :=
  .seq (.ops [⟨some 2, none, .box (.t 0)⟩, ⟨some 3, none, .box (.t 1)⟩, ⟨some 4, none, .mov (.c (.bool false))⟩]) <|
  .seq (.ops [⟨some 5, none, .fieldAddr 0 (.t 2)⟩, ⟨some 6, none, .load1 (.t 5)⟩, ⟨some 7, none, .fieldAddr 0 (.t 3)⟩, ⟨some 8, none, .load1 (.t 7)⟩, ⟨some 9, none, .bin .num .eql (.t 6) (.t 8)⟩, ⟨some 10, none, .mov (.t 9)⟩, ⟨some 11, some (10, true), .fieldAddr 7 (.t 2)⟩, ⟨some 12, some (10, true), .loadN 3 (.t 11)⟩, ⟨some 13, some (10, true), .fieldAddr 7 (.t 3)⟩, ⟨some 14, some (10, true), .loadN 3 (.t 13)⟩, ⟨some 15, some (10, true), .bin (.agg [.b, .b, .b]) .eql (.t 12) (.t 14)⟩, ⟨some 16, none, .pick (.t 10) (.t 15) (.c (.bool false))⟩, ⟨some 4, none, .mov (.t 16)⟩]) <|
  .ret
def v34 : VFunc := ⟨17, [.tmp 4], c34⟩
/-- slices.EqualFunc[[]berthing/api.Container,[]berthing/api.Container,berthing/api.Container,berthing/api.Container] -/
def c35 : VCode :=
  .seq (.ops [⟨some 6, none, .mov (.c (.bool false))⟩]) <|
  .seq (.seq (.ops [⟨some 10, none, .mov (.t 0)⟩, ⟨some 11, none, .lenS (.t 10)⟩, ⟨some 12, none, .mov (.t 1)⟩, ⟨some 13, none, .lenS (.t 12)⟩, ⟨some 14, none, .bin .num .neq (.t 11) (.t 13)⟩]) <|
  .cond (.t 14) (.seq (.ops [⟨some 6, none, .mov (.c (.bool false))⟩]) <|
   .ret) (.skip)) <|
  .seq (.seq (.ops [⟨some 15, none, .mov (.t 0)⟩, ⟨some 16, none, .lenS (.t 15)⟩, ⟨some 17, none, .mov (.c (.int .i64 0))⟩]) <|
  .block 0 (.loop (.seq (.ops [⟨some 18, none, .bin .num .lss (.t 17) (.t 16)⟩]) <|
    .seq (.cond (.t 18) (.skip) (.exit 0)) <|
    .seq (.block 1 (.seq (.ops [⟨some 19, none, .mov (.t 17)⟩, ⟨some 20, none, .idxAddrS 10 (.t 15) (.t 17)⟩, ⟨some 21, none, .loadN 10 (.t 20)⟩, ⟨some 8, none, .alloc [(.str ⟨#[]⟩), (.int .i64 0), (.int .i64 0), (.int .i64 0), (.int .i64 0), (.int .i64 0), (.int .i64 0), (.bool false), (.bool false), (.bool false)]⟩, ⟨some 7, none, .mov (.t 19)⟩, ⟨none, none, .storeN 10 (.t 8) (.t 21)⟩]) <|
     .seq (.ops [⟨some 22, none, .mov (.t 1)⟩, ⟨some 23, none, .mov (.t 7)⟩, ⟨some 24, none, .idxAddrS 10 (.t 22) (.t 23)⟩, ⟨some 25, none, .loadN 10 (.t 24)⟩, ⟨some 9, none, .alloc [(.str ⟨#[]⟩), (.int .i64 0), (.int .i64 0), (.int .i64 0), (.int .i64 0), (.int .i64 0), (.int .i64 0), (.bool false), (.bool false), (.bool false)]⟩, ⟨none, none, .storeN 10 (.t 9) (.t 25)⟩]) <|
     .seq (.ops [⟨some 26, none, .mov (.t 2)⟩, ⟨some 27, none, .loadN 10 (.t 8)⟩, ⟨some 28, none, .loadN 10 (.t 9)⟩, ⟨some 29, none, .callV (.t 26) [(.t 27), (.t 28)]⟩, ⟨some 30, none, .un .not (.t 29)⟩]) <|
     .cond (.t 30) (.seq (.ops [⟨some 6, none, .mov (.c (.bool false))⟩]) <|
      .ret) (.skip))) <|
    .ops [⟨some 31, none, .bin .num .add (.t 17) (.c (.int .i64 1))⟩, ⟨some 17, none, .mov (.t 31)⟩]))) <|
  .seq (.ops [⟨some 6, none, .mov (.c (.bool true))⟩]) <|
  .ret
def v35 : VFunc := ⟨32, [.tmp 6], c35⟩
/-- slices.IndexFunc[[]berthing/api.Entry,berthing/api.Entry] -/
def c36 : VCode :=
  .seq (.ops [⟨some 4, none, .mov (.c (.int .i64 0))⟩]) <|
  .seq (.seq (.ops [⟨some 6, none, .mov (.t 0)⟩, ⟨some 7, none, .lenS (.t 6)⟩, ⟨some 8, none, .mov (.c (.int .i64 0))⟩]) <|
  .block 0 (.loop (.seq (.ops [⟨some 9, none, .bin .num .lss (.t 8) (.t 7)⟩]) <|
    .seq (.cond (.t 9) (.skip) (.exit 0)) <|
    .seq (.block 1 (.seq (.ops [⟨some 10, none, .mov (.t 8)⟩, ⟨some 5, none, .mov (.t 10)⟩]) <|
     .seq (.ops [⟨some 11, none, .mov (.t 1)⟩, ⟨some 12, none, .mov (.t 0)⟩, ⟨some 13, none, .mov (.t 5)⟩, ⟨some 14, none, .idxAddrS 10 (.t 12) (.t 13)⟩, ⟨some 15, none, .loadN 10 (.t 14)⟩, ⟨some 16, none, .callV (.t 11) [(.t 15)]⟩]) <|
     .cond (.t 16) (.seq (.ops [⟨some 17, none, .mov (.t 5)⟩, ⟨some 4, none, .mov (.t 17)⟩]) <|
      .ret) (.skip))) <|
    .ops [⟨some 18, none, .bin .num .add (.t 8) (.c (.int .i64 1))⟩, ⟨some 8, none, .mov (.t 18)⟩]))) <|
  .seq (.ops [⟨some 4, none, .mov (.c (.int .i64 (-1)))⟩]) <|
  .ret
def v36 : VFunc := ⟨19, [.tmp 4], c36⟩
/-- berthing/record.Find$1 -/
def c37 : VCode :=
  .seq (.ops [⟨some 2, none, .box (.t 0)⟩, ⟨some 3, none, .mov (.c (.bool false))⟩]) <|
  .seq (.ops [⟨some 4, none, .fieldAddr 0 (.t 2)⟩, ⟨some 5, none, .fieldAddr 0 (.t 4)⟩, ⟨some 6, none, .load1 (.t 5)⟩, ⟨some 7, none, .load1 (.t 1)⟩, ⟨some 8, none, .bin .num .eql (.t 6) (.t 7)⟩, ⟨some 3, none, .mov (.t 8)⟩]) <|
  .ret
def v37 : VFunc := ⟨9, [.tmp 3], c37⟩
/-- berthing/record.entries -/
def c38 : VCode :=
  .seq (.ops [⟨some 1, none, .box (.t 0)⟩, ⟨some 2, none, .mov (.c (.bool false))⟩]) <|
  .seq (.ops [⟨some 6, none, .mkMap⟩, ⟨some 3, none, .mov (.t 6)⟩]) <|
  .seq (.seq (.ops [⟨some 7, none, .fieldAddr 1 (.t 1)⟩, ⟨some 8, none, .load1 (.t 7)⟩, ⟨some 9, none, .lenS (.t 8)⟩, ⟨some 10, none, .mov (.c (.int .i64 0))⟩]) <|
  .block 0 (.loop (.seq (.ops [⟨some 11, none, .bin .num .lss (.t 10) (.t 9)⟩]) <|
    .seq (.cond (.t 11) (.skip) (.exit 0)) <|
    .seq (.block 1 (.seq (.ops [⟨some 12, none, .mov (.t 10)⟩, ⟨some 13, none, .idxAddrS 10 (.t 8) (.t 10)⟩, ⟨some 14, none, .loadN 10 (.t 13)⟩, ⟨some 5, none, .alloc [(.str ⟨#[]⟩), (.int .i64 0), (.int .i64 0), (.sl .nil 0 []), (.str ⟨#[]⟩), (.int .i64 0), (.int .i64 0), (.sl .nil 0 []), (.int .i64 0), (.int .i64 0)]⟩, ⟨some 4, none, .mov (.t 12)⟩, ⟨none, none, .storeN 10 (.t 5) (.t 14)⟩]) <|
     .seq (.ops [⟨some 15, none, .mov (.t 3)⟩, ⟨some 16, none, .fieldAddr 8 (.t 5)⟩, ⟨some 17, none, .load1 (.t 16)⟩, ⟨some 18, none, .lookM false .i (.int .i64 0) (.t 15) (.t 17)⟩, ⟨some 19, none, .bin .num .add (.t 18) (.c (.int .i64 1))⟩, ⟨none, none, .updM .i (.t 15) (.t 17) (.t 19)⟩]) <|
     .seq (.ops [⟨some 20, none, .loadN 10 (.t 5)⟩, ⟨some 21, none, .call .pure 10 [(.t 20)]⟩, ⟨some 22, none, .un .not (.t 21)⟩, ⟨some 23, none, .mov (.t 22)⟩, ⟨some 24, some (23, false), .fieldAddr 8 (.t 5)⟩, ⟨some 25, some (23, false), .load1 (.t 24)⟩, ⟨some 26, some (23, false), .fieldAddr 0 (.t 1)⟩, ⟨some 27, some (23, false), .load1 (.t 26)⟩, ⟨some 28, some (23, false), .bin .num .geq (.t 25) (.t 27)⟩, ⟨some 29, none, .pick (.t 23) (.c (.bool true)) (.t 28)⟩, ⟨some 30, none, .mov (.t 29)⟩, ⟨some 31, some (30, false), .mov (.t 3)⟩, ⟨some 32, some (30, false), .fieldAddr 8 (.t 5)⟩, ⟨some 33, some (30, false), .load1 (.t 32)⟩, ⟨some 34, some (30, false), .lookM false .i (.int .i64 0) (.t 31) (.t 33)⟩, ⟨some 35, some (30, false), .bin .num .gtr (.t 34) (.c (.int .i64 1))⟩, ⟨some 36, none, .pick (.t 30) (.c (.bool true)) (.t 35)⟩, ⟨some 37, none, .mov (.t 36)⟩, ⟨some 38, some (37, false), .mov (.t 4)⟩, ⟨some 39, some (37, false), .bin .num .gtr (.t 38) (.c (.int .i64 0))⟩, ⟨some 40, some (37, false), .mov (.t 39)⟩, ⟨some 41, some (40, true), .fieldAddr 1 (.t 1)⟩, ⟨some 42, some (40, true), .load1 (.t 41)⟩, ⟨some 43, some (40, true), .mov (.t 4)⟩, ⟨some 44, some (40, true), .bin .num .sub (.t 43) (.c (.int .i64 1))⟩, ⟨some 45, some (40, true), .idxAddrS 10 (.t 42) (.t 44)⟩, ⟨some 46, some (40, true), .fieldAddr 0 (.t 45)⟩, ⟨some 47, some (40, true), .fieldAddr 0 (.t 46)⟩, ⟨some 48, some (40, true), .load1 (.t 47)⟩, ⟨some 49, some (40, true), .fieldAddr 0 (.t 5)⟩, ⟨some 50, some (40, true), .fieldAddr 0 (.t 49)⟩, ⟨some 51, some (40, true), .load1 (.t 50)⟩, ⟨some 52, some (40, true), .bin .num .geq (.t 48) (.t 51)⟩, ⟨some 53, some (37, false), .pick (.t 40) (.t 52) (.c (.bool false))⟩, ⟨some 54, none, .pick (.t 37) (.c (.bool true)) (.t 53)⟩]) <|
     .cond (.t 54) (.seq (.ops [⟨some 2, none, .mov (.c (.bool false))⟩]) <|
      .ret) (.skip))) <|
    .ops [⟨some 55, none, .bin .num .add (.t 10) (.c (.int .i64 1))⟩, ⟨some 10, none, .mov (.t 55)⟩]))) <|
  .seq (.ops [⟨some 56, none, .fieldAddr 1 (.t 1)⟩, ⟨some 57, none, .load1 (.t 56)⟩, ⟨some 58, none, .lenS (.t 57)⟩, ⟨some 59, none, .bin .num .leq (.t 58) (.c (.int .i64 16))⟩, ⟨some 2, none, .mov (.t 59)⟩]) <|
  .ret
def v38 : VFunc := ⟨60, [.tmp 2], c38⟩
/-- berthing/record.hold -/
def c39 : VCode :=
  .seq (.ops [⟨some 2, none, .box (.t 0)⟩, ⟨some 3, none, .box (.t 1)⟩, ⟨some 4, none, .mov (.c (.bool false))⟩]) <|
  .seq (.ops [⟨some 12, none, .loadN 3 (.t 2)⟩, ⟨some 13, none, .fieldAddr 0 (.t 3)⟩, ⟨some 14, none, .fieldAddr 0 (.t 13)⟩, ⟨some 15, none, .load1 (.t 14)⟩, ⟨some 16, none, .call .pure 14 [(.t 12), (.t 15)]⟩, ⟨some 11, none, .mov (.t 16)⟩, ⟨some 17, none, .extract 0 (.t 11)⟩, ⟨some 18, none, .extract 1 (.t 11)⟩, ⟨some 5, none, .mov (.t 17)⟩, ⟨some 6, none, .mov (.t 18)⟩]) <|
  .seq (.seq (.ops [⟨some 19, none, .mov (.t 6)⟩, ⟨some 20, none, .un .not (.t 19)⟩, ⟨some 21, none, .mov (.t 20)⟩, ⟨some 22, some (21, false), .fieldAddr 0 (.t 3)⟩, ⟨some 23, some (21, false), .fieldAddr 2 (.t 22)⟩, ⟨some 24, some (21, false), .load1 (.t 23)⟩, ⟨some 25, some (21, false), .bin .num .lss (.t 24) (.c (.int .i64 0))⟩, ⟨some 26, none, .pick (.t 21) (.c (.bool true)) (.t 25)⟩, ⟨some 27, none, .mov (.t 26)⟩, ⟨some 28, some (27, false), .fieldAddr 0 (.t 3)⟩, ⟨some 29, some (27, false), .fieldAddr 2 (.t 28)⟩, ⟨some 30, some (27, false), .load1 (.t 29)⟩, ⟨some 31, some (27, false), .bin .num .gtr (.t 30) (.c (.int .i64 1))⟩, ⟨some 32, none, .pick (.t 27) (.c (.bool true)) (.t 31)⟩, ⟨some 33, none, .mov (.t 32)⟩, ⟨some 34, some (33, false), .fieldAddr 3 (.t 3)⟩, ⟨some 35, some (33, false), .loadN 8 (.t 34)⟩, ⟨some 36, some (33, false), .build [(.int .i64 0), (.int .i64 0), (.int .i64 0), (.int .i64 0), (.int .i64 0), (.int .i64 0), (.int .i64 0), (.int .i64 0)] []⟩, ⟨some 37, some (33, false), .bin (.agg [.i, .i, .i, .i, .i, .i, .i, .i]) .eql (.t 35) (.t 36)⟩, ⟨some 38, none, .pick (.t 33) (.c (.bool true)) (.t 37)⟩]) <|
  .cond (.t 38) (.seq (.ops [⟨some 4, none, .mov (.c (.bool false))⟩]) <|
   .ret) (.skip)) <|
  .seq (.seq (.ops [⟨some 39, none, .fieldAddr 3 (.t 3)⟩, ⟨some 40, none, .loadN 8 (.t 39)⟩, ⟨some 41, none, .mov (.c (.int .i64 0))⟩]) <|
  .block 0 (.loop (.seq (.ops [⟨some 42, none, .bin .num .lss (.t 41) (.c (.int .i64 8))⟩]) <|
    .seq (.cond (.t 42) (.skip) (.exit 0)) <|
    .seq (.block 1 (.seq (.ops [⟨some 43, none, .idxA1 8 (.t 40) (.t 41)⟩, ⟨some 8, none, .mov (.t 43)⟩]) <|
     .seq (.ops [⟨some 44, none, .mov (.t 8)⟩, ⟨some 45, none, .bin .num .lss (.t 44) (.c (.int .i64 0))⟩, ⟨some 46, none, .mov (.t 45)⟩, ⟨some 47, some (46, false), .mov (.t 8)⟩, ⟨some 48, some (46, false), .bin .num .gtr (.t 47) (.c (.int .i64 1073741824))⟩, ⟨some 49, none, .pick (.t 46) (.c (.bool true)) (.t 48)⟩]) <|
     .cond (.t 49) (.seq (.ops [⟨some 4, none, .mov (.c (.bool false))⟩]) <|
      .ret) (.skip))) <|
    .ops [⟨some 50, none, .bin .num .add (.t 41) (.c (.int .i64 1))⟩, ⟨some 41, none, .mov (.t 50)⟩]))) <|
  .seq (.ops [⟨some 52, none, .fieldAddr 1 (.t 2)⟩, ⟨some 53, none, .load1 (.t 52)⟩, ⟨some 54, none, .mov (.t 5)⟩, ⟨some 55, none, .idxAddrS 10 (.t 53) (.t 54)⟩, ⟨some 56, none, .fieldAddr 0 (.t 55)⟩, ⟨some 57, none, .loadN 4 (.t 56)⟩, ⟨some 58, none, .fieldAddr 0 (.t 3)⟩, ⟨some 59, none, .fieldAddr 1 (.t 58)⟩, ⟨some 60, none, .load1 (.t 59)⟩, ⟨some 61, none, .call .shared 64 [(.t 57), (.t 60)]⟩, ⟨some 51, none, .mov (.t 61)⟩, ⟨some 62, none, .extract 0 (.t 51)⟩, ⟨some 63, none, .extract 1 (.t 51)⟩, ⟨some 9, none, .mov (.t 62)⟩, ⟨some 10, none, .mov (.t 63)⟩]) <|
  .seq (.ops [⟨some 64, none, .mov (.t 10)⟩, ⟨some 4, none, .mov (.t 64)⟩]) <|
  .ret
def v39 : VFunc := ⟨65, [.tmp 4], c39⟩
/-- berthing/record.compare -/
def c40 : VCode :=
  .seq (.ops [⟨some 2, none, .box (.t 0)⟩, ⟨some 3, none, .box (.t 1)⟩, ⟨some 4, none, .mov (.c (.int .i64 0))⟩]) <|
  .seq (.ops [⟨some 5, none, .fieldAddr 0 (.t 2)⟩, ⟨some 6, none, .load1 (.t 5)⟩, ⟨some 7, none, .fieldAddr 0 (.t 3)⟩, ⟨some 8, none, .load1 (.t 7)⟩, ⟨some 9, none, .call .pure 71 [(.t 6), (.t 8)]⟩, ⟨some 10, none, .fieldAddr 1 (.t 2)⟩, ⟨some 11, none, .load1 (.t 10)⟩, ⟨some 12, none, .fieldAddr 1 (.t 3)⟩, ⟨some 13, none, .load1 (.t 12)⟩, ⟨some 14, none, .call .pure 71 [(.t 11), (.t 13)]⟩, ⟨some 15, none, .fieldAddr 2 (.t 2)⟩, ⟨some 16, none, .load1 (.t 15)⟩, ⟨some 17, none, .fieldAddr 2 (.t 3)⟩, ⟨some 18, none, .load1 (.t 17)⟩, ⟨some 19, none, .call .pure 72 [(.t 16), (.t 18)]⟩, ⟨some 20, none, .buildSlice false 1 3 [(.int .i64 0), (.int .i64 0), (.int .i64 0)] [(0, 1, (.t 9)), (1, 1, (.t 14)), (2, 1, (.t 19))]⟩, ⟨some 21, none, .call .pure 70 [(.t 20)]⟩, ⟨some 4, none, .mov (.t 21)⟩]) <|
  .ret
def v40 : VFunc := ⟨22, [.tmp 4], c40⟩
/-- berthing/record.Same$1 -/
def c41 : VCode :=
  .seq (.ops [⟨some 2, none, .box (.t 0)⟩, ⟨some 3, none, .box (.t 1)⟩, ⟨some 4, none, .mov (.c (.bool false))⟩]) <|
  .seq (.ops [⟨some 5, none, .fieldAddr 0 (.t 2)⟩, ⟨some 6, none, .loadN 4 (.t 5)⟩, ⟨some 7, none, .fieldAddr 0 (.t 3)⟩, ⟨some 8, none, .loadN 4 (.t 7)⟩, ⟨some 9, none, .call .pure 42 [(.t 6), (.t 8)]⟩, ⟨some 10, none, .mov (.t 9)⟩, ⟨some 11, some (10, true), .fieldAddr 4 (.t 2)⟩, ⟨some 12, some (10, true), .loadN 4 (.t 11)⟩, ⟨some 13, some (10, true), .fieldAddr 4 (.t 3)⟩, ⟨some 14, some (10, true), .loadN 4 (.t 13)⟩, ⟨some 15, some (10, true), .call .pure 42 [(.t 12), (.t 14)]⟩, ⟨some 16, none, .pick (.t 10) (.t 15) (.c (.bool false))⟩, ⟨some 17, none, .mov (.t 16)⟩, ⟨some 18, some (17, true), .fieldAddr 8 (.t 2)⟩, ⟨some 19, some (17, true), .load1 (.t 18)⟩, ⟨some 20, some (17, true), .fieldAddr 8 (.t 3)⟩, ⟨some 21, some (17, true), .load1 (.t 20)⟩, ⟨some 22, some (17, true), .bin .num .eql (.t 19) (.t 21)⟩, ⟨some 23, none, .pick (.t 17) (.t 22) (.c (.bool false))⟩, ⟨some 24, none, .mov (.t 23)⟩, ⟨some 25, some (24, true), .fieldAddr 9 (.t 2)⟩, ⟨some 26, some (24, true), .load1 (.t 25)⟩, ⟨some 27, some (24, true), .fieldAddr 9 (.t 3)⟩, ⟨some 28, some (24, true), .load1 (.t 27)⟩, ⟨some 29, some (24, true), .bin .num .eql (.t 26) (.t 28)⟩, ⟨some 30, none, .pick (.t 24) (.t 29) (.c (.bool false))⟩, ⟨some 4, none, .mov (.t 30)⟩]) <|
  .ret
def v41 : VFunc := ⟨31, [.tmp 4], c41⟩
/-- berthing/spec.Same -/
def c42 : VCode :=
  .seq (.ops [⟨some 2, none, .box (.t 0)⟩, ⟨some 3, none, .box (.t 1)⟩, ⟨some 4, none, .mov (.c (.bool false))⟩]) <|
  .seq (.ops [⟨some 5, none, .fieldAddr 0 (.t 2)⟩, ⟨some 6, none, .load1 (.t 5)⟩, ⟨some 7, none, .fieldAddr 0 (.t 3)⟩, ⟨some 8, none, .load1 (.t 7)⟩, ⟨some 9, none, .bin .num .eql (.t 6) (.t 8)⟩, ⟨some 10, none, .mov (.t 9)⟩, ⟨some 11, some (10, true), .fieldAddr 1 (.t 2)⟩, ⟨some 12, some (10, true), .load1 (.t 11)⟩, ⟨some 13, some (10, true), .fieldAddr 1 (.t 3)⟩, ⟨some 14, some (10, true), .load1 (.t 13)⟩, ⟨some 15, some (10, true), .bin .num .eql (.t 12) (.t 14)⟩, ⟨some 16, none, .pick (.t 10) (.t 15) (.c (.bool false))⟩, ⟨some 17, none, .mov (.t 16)⟩, ⟨some 18, some (17, true), .fieldAddr 2 (.t 2)⟩, ⟨some 19, some (17, true), .load1 (.t 18)⟩, ⟨some 20, some (17, true), .fieldAddr 2 (.t 3)⟩, ⟨some 21, some (17, true), .load1 (.t 20)⟩, ⟨some 22, some (17, true), .bin .num .eql (.t 19) (.t 21)⟩, ⟨some 23, none, .pick (.t 17) (.t 22) (.c (.bool false))⟩, ⟨some 24, none, .mov (.t 23)⟩, ⟨some 25, some (24, true), .fieldAddr 3 (.t 2)⟩, ⟨some 26, some (24, true), .load1 (.t 25)⟩, ⟨some 27, some (24, true), .fieldAddr 3 (.t 3)⟩, ⟨some 28, some (24, true), .load1 (.t 27)⟩, ⟨some 29, some (24, true), .call .pure 73 [(.t 26), (.t 28)]⟩, ⟨some 30, none, .pick (.t 24) (.t 29) (.c (.bool false))⟩, ⟨some 4, none, .mov (.t 30)⟩]) <|
  .ret
def v42 : VFunc := ⟨31, [.tmp 4], c42⟩
/-- slices.EqualFunc[[]berthing/api.Entry,[]berthing/api.Entry,berthing/api.Entry,berthing/api.Entry] -/
def c43 : VCode :=
  .seq (.ops [⟨some 6, none, .mov (.c (.bool false))⟩]) <|
  .seq (.seq (.ops [⟨some 10, none, .mov (.t 0)⟩, ⟨some 11, none, .lenS (.t 10)⟩, ⟨some 12, none, .mov (.t 1)⟩, ⟨some 13, none, .lenS (.t 12)⟩, ⟨some 14, none, .bin .num .neq (.t 11) (.t 13)⟩]) <|
  .cond (.t 14) (.seq (.ops [⟨some 6, none, .mov (.c (.bool false))⟩]) <|
   .ret) (.skip)) <|
  .seq (.seq (.ops [⟨some 15, none, .mov (.t 0)⟩, ⟨some 16, none, .lenS (.t 15)⟩, ⟨some 17, none, .mov (.c (.int .i64 0))⟩]) <|
  .block 0 (.loop (.seq (.ops [⟨some 18, none, .bin .num .lss (.t 17) (.t 16)⟩]) <|
    .seq (.cond (.t 18) (.skip) (.exit 0)) <|
    .seq (.block 1 (.seq (.ops [⟨some 19, none, .mov (.t 17)⟩, ⟨some 20, none, .idxAddrS 10 (.t 15) (.t 17)⟩, ⟨some 21, none, .loadN 10 (.t 20)⟩, ⟨some 8, none, .alloc [(.str ⟨#[]⟩), (.int .i64 0), (.int .i64 0), (.sl .nil 0 []), (.str ⟨#[]⟩), (.int .i64 0), (.int .i64 0), (.sl .nil 0 []), (.int .i64 0), (.int .i64 0)]⟩, ⟨some 7, none, .mov (.t 19)⟩, ⟨none, none, .storeN 10 (.t 8) (.t 21)⟩]) <|
     .seq (.ops [⟨some 22, none, .mov (.t 1)⟩, ⟨some 23, none, .mov (.t 7)⟩, ⟨some 24, none, .idxAddrS 10 (.t 22) (.t 23)⟩, ⟨some 25, none, .loadN 10 (.t 24)⟩, ⟨some 9, none, .alloc [(.str ⟨#[]⟩), (.int .i64 0), (.int .i64 0), (.sl .nil 0 []), (.str ⟨#[]⟩), (.int .i64 0), (.int .i64 0), (.sl .nil 0 []), (.int .i64 0), (.int .i64 0)]⟩, ⟨none, none, .storeN 10 (.t 9) (.t 25)⟩]) <|
     .seq (.ops [⟨some 26, none, .mov (.t 2)⟩, ⟨some 27, none, .loadN 10 (.t 8)⟩, ⟨some 28, none, .loadN 10 (.t 9)⟩, ⟨some 29, none, .callV (.t 26) [(.t 27), (.t 28)]⟩, ⟨some 30, none, .un .not (.t 29)⟩]) <|
     .cond (.t 30) (.seq (.ops [⟨some 6, none, .mov (.c (.bool false))⟩]) <|
      .ret) (.skip))) <|
    .ops [⟨some 31, none, .bin .num .add (.t 17) (.c (.int .i64 1))⟩, ⟨some 17, none, .mov (.t 31)⟩]))) <|
  .seq (.ops [⟨some 6, none, .mov (.c (.bool true))⟩]) <|
  .ret
def v43 : VFunc := ⟨32, [.tmp 6], c43⟩
/-- slices.Equal[[]berthing/api.Hold,berthing/api.Hold] -/
def c44 : VCode :=
  .seq (.ops [⟨some 4, none, .mov (.c (.bool false))⟩]) <|
  .seq (.seq (.ops [⟨some 6, none, .mov (.t 0)⟩, ⟨some 7, none, .lenS (.t 6)⟩, ⟨some 8, none, .mov (.t 1)⟩, ⟨some 9, none, .lenS (.t 8)⟩, ⟨some 10, none, .bin .num .neq (.t 7) (.t 9)⟩]) <|
  .cond (.t 10) (.seq (.ops [⟨some 4, none, .mov (.c (.bool false))⟩]) <|
   .ret) (.skip)) <|
  .seq (.seq (.ops [⟨some 11, none, .mov (.t 0)⟩, ⟨some 12, none, .lenS (.t 11)⟩, ⟨some 13, none, .mov (.c (.int .i64 0))⟩]) <|
  .block 0 (.loop (.seq (.ops [⟨some 14, none, .bin .num .lss (.t 13) (.t 12)⟩]) <|
    .seq (.cond (.t 14) (.skip) (.exit 0)) <|
    .seq (.block 1 (.seq (.ops [⟨some 15, none, .mov (.t 13)⟩, ⟨some 5, none, .mov (.t 15)⟩]) <|
     .seq (.ops [⟨some 16, none, .mov (.t 0)⟩, ⟨some 17, none, .mov (.t 5)⟩, ⟨some 18, none, .idxAddrS 11 (.t 16) (.t 17)⟩, ⟨some 19, none, .loadN 11 (.t 18)⟩, ⟨some 20, none, .mov (.t 1)⟩, ⟨some 21, none, .mov (.t 5)⟩, ⟨some 22, none, .idxAddrS 11 (.t 20) (.t 21)⟩, ⟨some 23, none, .loadN 11 (.t 22)⟩, ⟨some 24, none, .bin (.agg [.s, .s, .i, .i, .i, .i, .i, .i, .i, .i, .i]) .neq (.t 19) (.t 23)⟩]) <|
     .cond (.t 24) (.seq (.ops [⟨some 4, none, .mov (.c (.bool false))⟩]) <|
      .ret) (.skip))) <|
    .ops [⟨some 25, none, .bin .num .add (.t 13) (.c (.int .i64 1))⟩, ⟨some 13, none, .mov (.t 25)⟩]))) <|
  .seq (.ops [⟨some 4, none, .mov (.c (.bool true))⟩]) <|
  .ret
def v44 : VFunc := ⟨26, [.tmp 4], c44⟩
/-- berthing/berthingref05.Same -/
def c45 : VCode :=
  .seq (.ops [⟨some 2, none, .box (.t 0)⟩, ⟨some 3, none, .box (.t 1)⟩, ⟨some 4, none, .mov (.c (.bool false))⟩]) <|
  .seq (.seq (.ops [⟨some 6, none, .fieldAddr 0 (.t 2)⟩, ⟨some 7, none, .load1 (.t 6)⟩, ⟨some 8, none, .fieldAddr 0 (.t 3)⟩, ⟨some 9, none, .load1 (.t 8)⟩, ⟨some 10, none, .bin .num .neq (.t 7) (.t 9)⟩, ⟨some 11, none, .mov (.t 10)⟩, ⟨some 12, some (11, false), .fieldAddr 1 (.t 2)⟩, ⟨some 13, some (11, false), .load1 (.t 12)⟩, ⟨some 14, some (11, false), .fieldAddr 1 (.t 3)⟩, ⟨some 15, some (11, false), .load1 (.t 14)⟩, ⟨some 16, some (11, false), .bin .num .neq (.t 13) (.t 15)⟩, ⟨some 17, none, .pick (.t 11) (.c (.bool true)) (.t 16)⟩, ⟨some 18, none, .mov (.t 17)⟩, ⟨some 19, some (18, false), .fieldAddr 2 (.t 2)⟩, ⟨some 20, some (18, false), .load1 (.t 19)⟩, ⟨some 21, some (18, false), .fieldAddr 2 (.t 3)⟩, ⟨some 22, some (18, false), .load1 (.t 21)⟩, ⟨some 23, some (18, false), .bin .num .neq (.t 20) (.t 22)⟩, ⟨some 24, none, .pick (.t 18) (.c (.bool true)) (.t 23)⟩, ⟨some 25, none, .mov (.t 24)⟩, ⟨some 26, some (25, false), .fieldAddr 3 (.t 2)⟩, ⟨some 27, some (25, false), .load1 (.t 26)⟩, ⟨some 28, some (25, false), .lenS (.t 27)⟩, ⟨some 29, some (25, false), .fieldAddr 3 (.t 3)⟩, ⟨some 30, some (25, false), .load1 (.t 29)⟩, ⟨some 31, some (25, false), .lenS (.t 30)⟩, ⟨some 32, some (25, false), .bin .num .neq (.t 28) (.t 31)⟩, ⟨some 33, none, .pick (.t 25) (.c (.bool true)) (.t 32)⟩]) <|
  .cond (.t 33) (.seq (.ops [⟨some 4, none, .mov (.c (.bool false))⟩]) <|
   .ret) (.skip)) <|
  .seq (.seq (.ops [⟨some 34, none, .fieldAddr 3 (.t 2)⟩, ⟨some 35, none, .load1 (.t 34)⟩, ⟨some 36, none, .lenS (.t 35)⟩, ⟨some 37, none, .mov (.c (.int .i64 0))⟩]) <|
  .block 0 (.loop (.seq (.ops [⟨some 38, none, .bin .num .lss (.t 37) (.t 36)⟩]) <|
    .seq (.cond (.t 38) (.skip) (.exit 0)) <|
    .seq (.block 1 (.seq (.ops [⟨some 39, none, .mov (.t 37)⟩, ⟨some 5, none, .mov (.t 39)⟩]) <|
     .seq (.ops [⟨some 40, none, .fieldAddr 3 (.t 2)⟩, ⟨some 41, none, .load1 (.t 40)⟩, ⟨some 42, none, .mov (.t 5)⟩, ⟨some 43, none, .idxAddrS 10 (.t 41) (.t 42)⟩, ⟨some 44, none, .loadN 10 (.t 43)⟩, ⟨some 45, none, .fieldAddr 3 (.t 3)⟩, ⟨some 46, none, .load1 (.t 45)⟩, ⟨some 47, none, .mov (.t 5)⟩, ⟨some 48, none, .idxAddrS 10 (.t 46) (.t 47)⟩, ⟨some 49, none, .loadN 10 (.t 48)⟩, ⟨some 50, none, .bin (.agg [.s, .i, .i, .i, .i, .i, .i, .b, .b, .b]) .neq (.t 44) (.t 49)⟩]) <|
     .cond (.t 50) (.seq (.ops [⟨some 4, none, .mov (.c (.bool false))⟩]) <|
      .ret) (.skip))) <|
    .ops [⟨some 51, none, .bin .num .add (.t 37) (.c (.int .i64 1))⟩, ⟨some 37, none, .mov (.t 51)⟩]))) <|
  .seq (.ops [⟨some 4, none, .mov (.c (.bool true))⟩]) <|
  .ret
def v45 : VFunc := ⟨52, [.tmp 4], c45⟩
/-- (*berthing/tape.Tape).Number -/
def c46 : VCode :=
  .seq (.seq (.ops [⟨some 4, none, .mov (.t 0)⟩, ⟨some 5, none, .bin .ptr .eql (.t 4) (.c .nilp)⟩]) <|
  .cond (.t 5) (.ret) (.skip)) <|
  .seq (.block 0 (.loop (.seq (.seq (.ops [⟨some 6, none, .mov (.t 1)⟩, ⟨some 7, none, .bin .num .geq (.t 6) (.c (.int .u64 128))⟩]) <|
    .cond (.t 7) (.skip) (.exit 0)) <|
    .seq (.block 1 (.ops [⟨some 10, none, .mov (.t 0)⟩, ⟨some 11, none, .mov (.t 0)⟩, ⟨some 12, none, .nilCheck (.t 11)⟩, ⟨some 13, none, .fieldAddr 0 (.t 12)⟩, ⟨some 14, none, .load1 (.t 13)⟩, ⟨some 15, none, .mov (.t 1)⟩, ⟨some 16, none, .conv .u8 (.t 15)⟩, ⟨some 17, none, .bin .num .or (.t 16) (.c (.int .u8 128))⟩, ⟨some 18, none, .buildSlice false 1 1 [(.int .u8 0)] [(0, 1, (.t 17))]⟩, ⟨some 19, none, .append false false 1 1 (.t 14) (.t 18)⟩, ⟨some 20, none, .nilCheck (.t 10)⟩, ⟨some 21, none, .fieldAddr 0 (.t 20)⟩, ⟨none, none, .store1 (.t 21) (.t 19)⟩])) <|
    .ops [⟨some 8, none, .mov (.t 1)⟩, ⟨some 9, none, .bin .num .shr (.t 8) (.c (.int .u64 7))⟩, ⟨some 1, none, .mov (.t 9)⟩]))) <|
  .ops [⟨some 22, none, .mov (.t 0)⟩, ⟨some 23, none, .mov (.t 0)⟩, ⟨some 24, none, .nilCheck (.t 23)⟩, ⟨some 25, none, .fieldAddr 0 (.t 24)⟩, ⟨some 26, none, .load1 (.t 25)⟩, ⟨some 27, none, .mov (.t 1)⟩, ⟨some 28, none, .conv .u8 (.t 27)⟩, ⟨some 29, none, .buildSlice false 1 1 [(.int .u8 0)] [(0, 1, (.t 28))]⟩, ⟨some 30, none, .append false false 1 1 (.t 26) (.t 29)⟩, ⟨some 31, none, .nilCheck (.t 22)⟩, ⟨some 32, none, .fieldAddr 0 (.t 31)⟩, ⟨none, none, .store1 (.t 32) (.t 30)⟩]
def v46 : VFunc := ⟨33, [], c46⟩
/-- (*berthing/tape.Tape).Text -/
def c47 : VCode :=
  .seq (.ops [⟨some 4, none, .mov (.t 0)⟩, ⟨some 5, none, .mov (.t 1)⟩, ⟨some 6, none, .lenStr (.t 5)⟩, ⟨some 7, none, .conv .u64 (.t 6)⟩, ⟨some 8, none, .call .shared 46 [(.t 4), (.t 7)]⟩]) <|
  .seq (.ops [⟨some 9, none, .mov (.t 0)⟩, ⟨some 10, none, .bin .ptr .neq (.t 9) (.c .nilp)⟩]) <|
  .cond (.t 10) (.ops [⟨some 11, none, .mov (.t 0)⟩, ⟨some 12, none, .mov (.t 0)⟩, ⟨some 13, none, .nilCheck (.t 12)⟩, ⟨some 14, none, .fieldAddr 0 (.t 13)⟩, ⟨some 15, none, .load1 (.t 14)⟩, ⟨some 16, none, .mov (.t 1)⟩, ⟨some 17, none, .append false true 1 1 (.t 15) (.t 16)⟩, ⟨some 18, none, .nilCheck (.t 11)⟩, ⟨some 19, none, .fieldAddr 0 (.t 18)⟩, ⟨none, none, .store1 (.t 19) (.t 17)⟩]) (.skip)
def v47 : VFunc := ⟨20, [], c47⟩
/-- (*berthing/tape.Tape).Signed -/
def c48 : VCode :=
  .ops [⟨some 4, none, .mov (.t 0)⟩, ⟨some 5, none, .mov (.t 1)⟩, ⟨some 6, none, .call .pure 74 [(.t 5)]⟩, ⟨some 7, none, .call .shared 46 [(.t 4), (.t 6)]⟩]
def v48 : VFunc := ⟨8, [], c48⟩
/-- (*berthing/tape.Tape).Flag -/
def c49 : VCode :=
  .seq (.seq (.ops [⟨some 4, none, .mov (.t 1)⟩]) <|
  .cond (.t 4) (.seq (.ops [⟨some 5, none, .mov (.t 0)⟩, ⟨some 6, none, .call .shared 46 [(.t 5), (.c (.int .u64 1))]⟩]) <|
   .ret) (.skip)) <|
  .ops [⟨some 7, none, .mov (.t 0)⟩, ⟨some 8, none, .call .shared 46 [(.t 7), (.c (.int .u64 0))]⟩]
def v49 : VFunc := ⟨9, [], c49⟩
/-- berthing/record.put -/
def c50 : VCode :=
  .seq (.ops [⟨some 8, none, .mov (.t 1)⟩, ⟨some 9, none, .lenS (.t 8)⟩, ⟨some 10, none, .mov (.c (.int .i64 0))⟩]) <|
  .block 0 (.loop (.seq (.ops [⟨some 11, none, .bin .num .lss (.t 10) (.t 9)⟩]) <|
    .seq (.cond (.t 11) (.skip) (.exit 0)) <|
    .seq (.block 1 (.seq (.ops [⟨some 12, none, .idxAddrS 3 (.t 8) (.t 10)⟩, ⟨some 13, none, .loadN 3 (.t 12)⟩, ⟨some 5, none, .alloc [(.int .i64 0), (.int .i64 0), (.int .i64 0)]⟩, ⟨none, none, .storeN 3 (.t 5) (.t 13)⟩]) <|
     .seq (.ops [⟨some 14, none, .fieldAddr 0 (.t 5)⟩, ⟨some 15, none, .load1 (.t 14)⟩, ⟨some 16, none, .fieldAddr 1 (.t 5)⟩, ⟨some 17, none, .load1 (.t 16)⟩, ⟨some 18, none, .fieldAddr 2 (.t 5)⟩, ⟨some 19, none, .load1 (.t 18)⟩, ⟨some 20, none, .buildSlice false 1 3 [(.int .i64 0), (.int .i64 0), (.int .i64 0)] [(0, 1, (.t 15)), (1, 1, (.t 17)), (2, 1, (.t 19))]⟩, ⟨some 21, none, .lenS (.t 20)⟩, ⟨some 22, none, .mov (.c (.int .i64 0))⟩]) <|
     .block 2 (.loop (.seq (.ops [⟨some 23, none, .bin .num .lss (.t 22) (.t 21)⟩]) <|
       .seq (.cond (.t 23) (.skip) (.exit 2)) <|
       .seq (.block 3 (.seq (.ops [⟨some 24, none, .idxAddrS 1 (.t 20) (.t 22)⟩, ⟨some 25, none, .load1 (.t 24)⟩, ⟨some 7, none, .mov (.t 25)⟩]) <|
        .ops [⟨some 26, none, .mov (.t 0)⟩, ⟨some 27, none, .mov (.t 7)⟩, ⟨some 28, none, .conv .u64 (.t 27)⟩, ⟨some 29, none, .call .shared 46 [(.t 26), (.t 28)]⟩])) <|
       .ops [⟨some 30, none, .bin .num .add (.t 22) (.c (.int .i64 1))⟩, ⟨some 22, none, .mov (.t 30)⟩])))) <|
    .ops [⟨some 31, none, .bin .num .add (.t 10) (.c (.int .i64 1))⟩, ⟨some 10, none, .mov (.t 31)⟩]))
def v50 : VFunc := ⟨32, [], c50⟩
/-- (*berthing/tape.Tape).Bytes -/
def c51 : VCode :=
  .seq (.ops [⟨some 2, none, .mov (.c (.sl .nil 0 []))⟩]) <|
  .seq (.seq (.ops [⟨some 3, none, .mov (.t 0)⟩, ⟨some 4, none, .bin .ptr .eql (.t 3) (.c .nilp)⟩]) <|
  .cond (.t 4) (.seq (.ops [⟨some 2, none, .mov (.c (.sl .nil 0 []))⟩]) <|
   .ret) (.skip)) <|
  .seq (.ops [⟨some 5, none, .mov (.t 0)⟩, ⟨some 6, none, .nilCheck (.t 5)⟩, ⟨some 7, none, .fieldAddr 0 (.t 6)⟩, ⟨some 8, none, .load1 (.t 7)⟩, ⟨some 9, none, .call .pure 75 [(.t 8)]⟩, ⟨some 2, none, .mov (.t 9)⟩]) <|
  .ret
def v51 : VFunc := ⟨10, [.tmp 2], c51⟩
/-- berthing/tape.Read -/
def c52 : VCode :=
  .seq (.ops [⟨some 2, none, .mov (.c .nilp)⟩]) <|
  .seq (.ops [⟨some 3, none, .mov (.t 0)⟩, ⟨some 4, none, .call .pure 75 [(.t 3)]⟩, ⟨some 5, none, .build [(.sl .nil 0 []), (.int .i64 0)] [(0, 1, (.t 4))]⟩, ⟨some 6, none, .box (.t 5)⟩, ⟨some 2, none, .mov (.t 6)⟩]) <|
  .ret
def v52 : VFunc := ⟨7, [.tmp 2], c52⟩
/-- berthing/record.number -/
def c53 : VCode :=
  .seq (.ops [⟨some 4, none, .mov (.c (.int .i64 0))⟩]) <|
  .seq (.ops [⟨some 5, none, .mov (.t 0)⟩, ⟨some 6, none, .mov (.t 1)⟩, ⟨some 7, none, .conv .u64 (.t 6)⟩, ⟨some 8, none, .call .shared 76 [(.t 5), (.t 7)]⟩, ⟨some 9, none, .conv .i64 (.t 8)⟩, ⟨some 4, none, .mov (.t 9)⟩]) <|
  .ret
def v53 : VFunc := ⟨10, [.tmp 4], c53⟩
/-- berthing/record.entry -/
def c54 : VCode :=
  .seq (.ops [⟨some 2, none, .alloc [(.str ⟨#[]⟩), (.int .i64 0), (.int .i64 0), (.sl .nil 0 []), (.str ⟨#[]⟩), (.int .i64 0), (.int .i64 0), (.sl .nil 0 []), (.int .i64 0), (.int .i64 0)]⟩]) <|
  .seq (.ops [⟨some 7, none, .mov (.t 0)⟩, ⟨some 8, none, .call .shared 55 [(.t 7), (.c (.int .i64 16))]⟩, ⟨some 9, none, .mov (.t 0)⟩, ⟨some 10, none, .call .shared 77 [(.t 9), (.c (.int .i64 (-1000))), (.c (.int .i64 1000))]⟩, ⟨some 11, none, .mov (.t 0)⟩, ⟨some 12, none, .call .shared 53 [(.t 11), (.c (.int .i64 2))]⟩, ⟨some 13, none, .build [(.str ⟨#[]⟩), (.int .i64 0), (.int .i64 0), (.sl .nil 0 [])] [(0, 1, (.t 8)), (1, 1, (.t 10)), (2, 1, (.t 12))]⟩, ⟨some 3, none, .alloc [(.str ⟨#[]⟩), (.int .i64 0), (.int .i64 0), (.sl .nil 0 [])]⟩, ⟨none, none, .storeN 4 (.t 3) (.t 13)⟩]) <|
  .seq (.ops [⟨some 14, none, .loadN 4 (.t 3)⟩, ⟨some 15, none, .loadN 4 (.t 3)⟩, ⟨some 16, none, .build [(.str ⟨#[]⟩), (.int .i64 0), (.int .i64 0), (.sl .nil 0 []), (.str ⟨#[]⟩), (.int .i64 0), (.int .i64 0), (.sl .nil 0 []), (.int .i64 0), (.int .i64 0)] [(0, 4, (.t 14)), (4, 4, (.t 15))]⟩, ⟨some 4, none, .alloc [(.str ⟨#[]⟩), (.int .i64 0), (.int .i64 0), (.sl .nil 0 []), (.str ⟨#[]⟩), (.int .i64 0), (.int .i64 0), (.sl .nil 0 []), (.int .i64 0), (.int .i64 0)]⟩, ⟨none, none, .storeN 10 (.t 4) (.t 16)⟩]) <|
  .seq (.seq (.ops [⟨some 17, none, .mov (.t 0)⟩, ⟨some 18, none, .call .shared 53 [(.t 17), (.c (.int .i64 6))]⟩, ⟨some 19, none, .mov (.c (.int .i64 0))⟩]) <|
  .block 0 (.loop (.seq (.ops [⟨some 20, none, .bin .num .lss (.t 19) (.t 18)⟩]) <|
    .seq (.cond (.t 20) (.skip) (.exit 0)) <|
    .seq (.block 1 (.seq (.ops [⟨some 22, none, .mov (.t 0)⟩, ⟨some 23, none, .call .shared 78 [(.t 22)]⟩, ⟨some 21, none, .mov (.t 23)⟩, ⟨some 24, none, .extract 0 (.t 21)⟩, ⟨some 25, none, .extract 1 (.t 21)⟩, ⟨some 5, none, .alloc [(.str ⟨#[]⟩), (.int .i64 0), (.int .i64 0), (.int .i64 0), (.int .i64 0), (.int .i64 0), (.int .i64 0), (.bool false), (.bool false), (.bool false)]⟩, ⟨some 6, none, .alloc [(.str ⟨#[]⟩), (.int .i64 0), (.int .i64 0), (.int .i64 0), (.int .i64 0), (.int .i64 0), (.int .i64 0), (.bool false), (.bool false), (.bool false)]⟩, ⟨none, none, .storeN 10 (.t 5) (.t 24)⟩, ⟨none, none, .storeN 10 (.t 6) (.t 25)⟩]) <|
     .seq (.ops [⟨some 26, none, .fieldAddr 0 (.t 4)⟩, ⟨some 27, none, .fieldAddr 3 (.t 26)⟩, ⟨some 28, none, .load1 (.t 27)⟩, ⟨some 29, none, .loadN 10 (.t 5)⟩, ⟨some 30, none, .buildSlice false 10 1 [(.str ⟨#[]⟩), (.int .i64 0), (.int .i64 0), (.int .i64 0), (.int .i64 0), (.int .i64 0), (.int .i64 0), (.bool false), (.bool false), (.bool false)] [(0, 10, (.t 29))]⟩, ⟨some 31, none, .append false false 10 72 (.t 28) (.t 30)⟩, ⟨some 32, none, .fieldAddr 0 (.t 4)⟩, ⟨some 33, none, .fieldAddr 3 (.t 32)⟩, ⟨none, none, .store1 (.t 33) (.t 31)⟩]) <|
     .ops [⟨some 34, none, .fieldAddr 4 (.t 4)⟩, ⟨some 35, none, .fieldAddr 3 (.t 34)⟩, ⟨some 36, none, .load1 (.t 35)⟩, ⟨some 37, none, .loadN 10 (.t 6)⟩, ⟨some 38, none, .buildSlice false 10 1 [(.str ⟨#[]⟩), (.int .i64 0), (.int .i64 0), (.int .i64 0), (.int .i64 0), (.int .i64 0), (.int .i64 0), (.bool false), (.bool false), (.bool false)] [(0, 10, (.t 37))]⟩, ⟨some 39, none, .append false false 10 72 (.t 36) (.t 38)⟩, ⟨some 40, none, .fieldAddr 4 (.t 4)⟩, ⟨some 41, none, .fieldAddr 3 (.t 40)⟩, ⟨none, none, .store1 (.t 41) (.t 39)⟩])) <|
    .ops [⟨some 42, none, .bin .num .add (.t 19) (.c (.int .i64 1))⟩, ⟨some 19, none, .mov (.t 42)⟩]))) <|
  .seq (.ops [⟨some 43, none, .mov (.t 0)⟩, ⟨some 44, none, .call .shared 53 [(.t 43), (.c (.int .i64 1099511627776))]⟩, ⟨some 45, none, .mov (.t 0)⟩, ⟨some 46, none, .call .shared 53 [(.t 45), (.c (.int .i64 63))]⟩, ⟨some 47, none, .fieldAddr 8 (.t 4)⟩, ⟨none, none, .store1 (.t 47) (.t 44)⟩, ⟨some 48, none, .fieldAddr 9 (.t 4)⟩, ⟨none, none, .store1 (.t 48) (.t 46)⟩]) <|
  .seq (.ops [⟨some 49, none, .loadN 10 (.t 4)⟩, ⟨none, none, .storeN 10 (.t 2) (.t 49)⟩]) <|
  .ret
def v54 : VFunc := ⟨50, [.cellN 10 2], c54⟩
/-- (*berthing/tape.Reader).Text -/
def c55 : VCode :=
  .seq (.ops [⟨some 4, none, .mov (.c (.str ⟨#[]⟩))⟩]) <|
  .seq (.seq (.ops [⟨some 7, none, .mov (.t 0)⟩, ⟨some 8, none, .bin .ptr .eql (.t 7) (.c .nilp)⟩]) <|
  .cond (.t 8) (.seq (.ops [⟨some 4, none, .mov (.c (.str ⟨#[]⟩))⟩]) <|
   .ret) (.skip)) <|
  .seq (.ops [⟨some 9, none, .mov (.t 0)⟩, ⟨some 10, none, .call .shared 76 [(.t 9), (.c (.int .u64 18446744073709551615))]⟩, ⟨some 5, none, .mov (.t 10)⟩]) <|
  .seq (.block 0 (.seq (.ops [⟨some 12, none, .mov (.t 0)⟩, ⟨some 13, none, .nilCheck (.t 12)⟩, ⟨some 14, none, .fieldAddr 1 (.t 13)⟩, ⟨some 15, none, .load1 (.t 14)⟩, ⟨some 16, none, .bin .num .neq (.t 15) (.c (.int .i64 0))⟩, ⟨some 11, none, .mov (.t 16)⟩]) <|
   .cond (.t 11) (.seq (.ops [⟨some 4, none, .mov (.c (.str ⟨#[]⟩))⟩]) <|
    .ret) (.seq (.ops [⟨some 18, none, .mov (.t 1)⟩, ⟨some 19, none, .bin .num .lss (.t 18) (.c (.int .i64 0))⟩, ⟨some 20, none, .mov (.t 19)⟩, ⟨some 21, some (20, false), .mov (.t 5)⟩, ⟨some 22, some (20, false), .mov (.t 1)⟩, ⟨some 23, some (20, false), .conv .u64 (.t 22)⟩, ⟨some 24, some (20, false), .bin .num .gtr (.t 21) (.t 23)⟩, ⟨some 25, none, .pick (.t 20) (.c (.bool true)) (.t 24)⟩, ⟨some 17, none, .mov (.t 25)⟩]) <|
    .cond (.t 17) (.seq (.ops [⟨some 26, none, .mov (.t 0)⟩, ⟨some 27, none, .call .shared 79 [(.t 26), (.c (.int .i64 15))]⟩]) <|
     .seq (.ops [⟨some 4, none, .mov (.c (.str ⟨#[]⟩))⟩]) <|
     .ret) (.seq (.ops [⟨some 29, none, .mov (.t 5)⟩, ⟨some 30, none, .mov (.t 0)⟩, ⟨some 31, none, .nilCheck (.t 30)⟩, ⟨some 32, none, .fieldAddr 0 (.t 31)⟩, ⟨some 33, none, .load1 (.t 32)⟩, ⟨some 34, none, .lenS (.t 33)⟩, ⟨some 35, none, .conv .u64 (.t 34)⟩, ⟨some 36, none, .bin .num .gtr (.t 29) (.t 35)⟩, ⟨some 28, none, .mov (.t 36)⟩]) <|
     .cond (.t 28) (.seq (.ops [⟨some 37, none, .mov (.t 0)⟩, ⟨some 38, none, .call .shared 79 [(.t 37), (.c (.int .i64 10))]⟩]) <|
      .seq (.ops [⟨some 4, none, .mov (.c (.str ⟨#[]⟩))⟩]) <|
      .ret) (.skip))))) <|
  .seq (.ops [⟨some 39, none, .mov (.t 0)⟩, ⟨some 40, none, .nilCheck (.t 39)⟩, ⟨some 41, none, .fieldAddr 0 (.t 40)⟩, ⟨some 42, none, .load1 (.t 41)⟩, ⟨some 43, none, .mov (.t 5)⟩, ⟨some 44, none, .sliceS 1 (.t 42) none (some (.t 43)) none⟩, ⟨some 45, none, .strOfP (.t 44)⟩, ⟨some 6, none, .mov (.t 45)⟩]) <|
  .seq (.ops [⟨some 46, none, .mov (.t 0)⟩, ⟨some 47, none, .mov (.t 0)⟩, ⟨some 48, none, .nilCheck (.t 47)⟩, ⟨some 49, none, .fieldAddr 0 (.t 48)⟩, ⟨some 50, none, .load1 (.t 49)⟩, ⟨some 51, none, .mov (.t 5)⟩, ⟨some 52, none, .sliceS 1 (.t 50) (some (.t 51)) none none⟩, ⟨some 53, none, .nilCheck (.t 46)⟩, ⟨some 54, none, .fieldAddr 0 (.t 53)⟩, ⟨none, none, .store1 (.t 54) (.t 52)⟩]) <|
  .seq (.ops [⟨some 55, none, .mov (.t 6)⟩, ⟨some 4, none, .mov (.t 55)⟩]) <|
  .ret
def v55 : VFunc := ⟨56, [.tmp 4], c55⟩
/-- (*berthing/tape.Reader).End -/
def c56 : VCode :=
  .seq (.ops [⟨some 2, none, .mov (.c (.int .i64 0))⟩]) <|
  .seq (.seq (.ops [⟨some 3, none, .mov (.t 0)⟩, ⟨some 4, none, .call .shared 80 [(.t 3)]⟩, ⟨some 5, none, .bin .num .gtr (.t 4) (.c (.int .i64 0))⟩]) <|
  .cond (.t 5) (.ops [⟨some 6, none, .mov (.t 0)⟩, ⟨some 7, none, .call .shared 79 [(.t 6), (.c (.int .i64 13))]⟩]) (.skip)) <|
  .seq (.ops [⟨some 8, none, .mov (.t 0)⟩, ⟨some 9, none, .call .shared 81 [(.t 8)]⟩, ⟨some 2, none, .mov (.t 9)⟩]) <|
  .ret
def v56 : VFunc := ⟨10, [.tmp 2], c56⟩
/-- (*berthing/berthingref12.Scan).Number -/
def c57 : VCode :=
  .seq (.ops [⟨some 4, none, .mov (.c (.int .u64 0))⟩]) <|
  .seq (.seq (.ops [⟨some 8, none, .mov (.t 0)⟩, ⟨some 9, none, .nilCheck (.t 8)⟩, ⟨some 10, none, .fieldAddr 1 (.t 9)⟩, ⟨some 11, none, .load1 (.t 10)⟩, ⟨some 12, none, .bin .num .neq (.t 11) (.c (.int .i64 0))⟩]) <|
  .cond (.t 12) (.seq (.ops [⟨some 4, none, .mov (.c (.int .u64 0))⟩]) <|
   .ret) (.skip)) <|
  .seq (.ops [⟨some 5, none, .mov (.c (.int .i64 0))⟩]) <|
  .seq (.block 0 (.loop (.seq (.seq (.ops [⟨some 13, none, .mov (.t 5)⟩, ⟨some 14, none, .mov (.t 0)⟩, ⟨some 15, none, .nilCheck (.t 14)⟩, ⟨some 16, none, .fieldAddr 0 (.t 15)⟩, ⟨some 17, none, .load1 (.t 16)⟩, ⟨some 18, none, .lenStr (.t 17)⟩, ⟨some 19, none, .bin .num .lss (.t 13) (.t 18)⟩, ⟨some 20, none, .mov (.t 19)⟩, ⟨some 21, some (20, true), .mov (.t 5)⟩, ⟨some 22, some (20, true), .bin .num .lss (.t 21) (.c (.int .i64 10))⟩, ⟨some 23, none, .pick (.t 20) (.t 22) (.c (.bool false))⟩, ⟨some 24, none, .mov (.t 23)⟩, ⟨some 25, some (24, true), .mov (.t 0)⟩, ⟨some 26, some (24, true), .nilCheck (.t 25)⟩, ⟨some 27, some (24, true), .fieldAddr 0 (.t 26)⟩, ⟨some 28, some (24, true), .load1 (.t 27)⟩, ⟨some 29, some (24, true), .mov (.t 5)⟩, ⟨some 30, some (24, true), .idxStr (.t 28) (.t 29)⟩, ⟨some 31, some (24, true), .bin .num .gtr (.t 30) (.c (.int .u8 127))⟩, ⟨some 32, none, .pick (.t 24) (.t 31) (.c (.bool false))⟩]) <|
    .cond (.t 32) (.skip) (.exit 0)) <|
    .block 1 (.ops [⟨some 33, none, .mov (.t 5)⟩, ⟨some 34, none, .bin .num .add (.t 33) (.c (.int .i64 1))⟩, ⟨some 5, none, .mov (.t 34)⟩])))) <|
  .seq (.seq (.ops [⟨some 35, none, .mov (.t 5)⟩, ⟨some 36, none, .bin .num .eql (.t 35) (.c (.int .i64 10))⟩]) <|
  .cond (.t 36) (.seq (.ops [⟨some 37, none, .mov (.t 0)⟩, ⟨some 38, none, .call .shared 62 [(.t 37), (.c (.int .i64 11))]⟩]) <|
   .seq (.ops [⟨some 4, none, .mov (.c (.int .u64 0))⟩]) <|
   .ret) (.skip)) <|
  .seq (.seq (.ops [⟨some 39, none, .mov (.t 5)⟩, ⟨some 40, none, .mov (.t 0)⟩, ⟨some 41, none, .nilCheck (.t 40)⟩, ⟨some 42, none, .fieldAddr 0 (.t 41)⟩, ⟨some 43, none, .load1 (.t 42)⟩, ⟨some 44, none, .lenStr (.t 43)⟩, ⟨some 45, none, .bin .num .eql (.t 39) (.t 44)⟩]) <|
  .cond (.t 45) (.seq (.ops [⟨some 46, none, .mov (.t 0)⟩, ⟨some 47, none, .call .shared 62 [(.t 46), (.c (.int .i64 10))]⟩]) <|
   .seq (.ops [⟨some 4, none, .mov (.c (.int .u64 0))⟩]) <|
   .ret) (.skip)) <|
  .seq (.seq (.ops [⟨some 48, none, .mov (.t 5)⟩, ⟨some 49, none, .bin .num .eql (.t 48) (.c (.int .i64 9))⟩, ⟨some 50, none, .mov (.t 49)⟩, ⟨some 51, some (50, true), .mov (.t 0)⟩, ⟨some 52, some (50, true), .nilCheck (.t 51)⟩, ⟨some 53, some (50, true), .fieldAddr 0 (.t 52)⟩, ⟨some 54, some (50, true), .load1 (.t 53)⟩, ⟨some 55, some (50, true), .idxStr (.t 54) (.c (.int .i64 9))⟩, ⟨some 56, some (50, true), .bin .num .gtr (.t 55) (.c (.int .u8 1))⟩, ⟨some 57, none, .pick (.t 50) (.t 56) (.c (.bool false))⟩, ⟨some 58, none, .mov (.t 57)⟩, ⟨some 59, some (58, false), .mov (.t 5)⟩, ⟨some 60, some (58, false), .bin .num .gtr (.t 59) (.c (.int .i64 0))⟩, ⟨some 61, some (58, false), .mov (.t 60)⟩, ⟨some 62, some (61, true), .mov (.t 0)⟩, ⟨some 63, some (61, true), .nilCheck (.t 62)⟩, ⟨some 64, some (61, true), .fieldAddr 0 (.t 63)⟩, ⟨some 65, some (61, true), .load1 (.t 64)⟩, ⟨some 66, some (61, true), .mov (.t 5)⟩, ⟨some 67, some (61, true), .idxStr (.t 65) (.t 66)⟩, ⟨some 68, some (61, true), .bin .num .eql (.t 67) (.c (.int .u8 0))⟩, ⟨some 69, some (58, false), .pick (.t 61) (.t 68) (.c (.bool false))⟩, ⟨some 70, none, .pick (.t 58) (.c (.bool true)) (.t 69)⟩]) <|
  .cond (.t 70) (.seq (.ops [⟨some 71, none, .mov (.t 0)⟩, ⟨some 72, none, .call .shared 62 [(.t 71), (.c (.int .i64 11))]⟩]) <|
   .seq (.ops [⟨some 4, none, .mov (.c (.int .u64 0))⟩]) <|
   .ret) (.skip)) <|
  .seq (.ops [⟨some 6, none, .mov (.c (.int .u64 0))⟩]) <|
  .seq (.seq (.ops [⟨some 73, none, .mov (.t 5)⟩, ⟨some 7, none, .mov (.t 73)⟩]) <|
  .block 2 (.loop (.seq (.seq (.ops [⟨some 74, none, .mov (.t 7)⟩, ⟨some 75, none, .bin .num .geq (.t 74) (.c (.int .i64 0))⟩]) <|
    .cond (.t 75) (.skip) (.exit 2)) <|
    .seq (.block 3 (.ops [⟨some 78, none, .mov (.t 6)⟩, ⟨some 79, none, .bin .num .mul (.t 78) (.c (.int .u64 128))⟩, ⟨some 80, none, .mov (.t 0)⟩, ⟨some 81, none, .nilCheck (.t 80)⟩, ⟨some 82, none, .fieldAddr 0 (.t 81)⟩, ⟨some 83, none, .load1 (.t 82)⟩, ⟨some 84, none, .mov (.t 7)⟩, ⟨some 85, none, .idxStr (.t 83) (.t 84)⟩, ⟨some 86, none, .bin .num .rem (.t 85) (.c (.int .u8 128))⟩, ⟨some 87, none, .conv .u64 (.t 86)⟩, ⟨some 88, none, .bin .num .add (.t 79) (.t 87)⟩, ⟨some 6, none, .mov (.t 88)⟩])) <|
    .ops [⟨some 76, none, .mov (.t 7)⟩, ⟨some 77, none, .bin .num .sub (.t 76) (.c (.int .i64 1))⟩, ⟨some 7, none, .mov (.t 77)⟩]))) <|
  .seq (.seq (.ops [⟨some 89, none, .mov (.t 6)⟩, ⟨some 90, none, .mov (.t 1)⟩, ⟨some 91, none, .bin .num .gtr (.t 89) (.t 90)⟩]) <|
  .cond (.t 91) (.seq (.ops [⟨some 92, none, .mov (.t 0)⟩, ⟨some 93, none, .call .shared 62 [(.t 92), (.c (.int .i64 15))]⟩]) <|
   .seq (.ops [⟨some 4, none, .mov (.c (.int .u64 0))⟩]) <|
   .ret) (.skip)) <|
  .seq (.ops [⟨some 94, none, .mov (.t 0)⟩, ⟨some 95, none, .mov (.t 0)⟩, ⟨some 96, none, .nilCheck (.t 95)⟩, ⟨some 97, none, .fieldAddr 0 (.t 96)⟩, ⟨some 98, none, .load1 (.t 97)⟩, ⟨some 99, none, .mov (.t 5)⟩, ⟨some 100, none, .bin .num .add (.t 99) (.c (.int .i64 1))⟩, ⟨some 101, none, .sliceStr (.t 98) (some (.t 100)) none⟩, ⟨some 102, none, .nilCheck (.t 94)⟩, ⟨some 103, none, .fieldAddr 0 (.t 102)⟩, ⟨none, none, .store1 (.t 103) (.t 101)⟩]) <|
  .seq (.ops [⟨some 104, none, .mov (.t 6)⟩, ⟨some 4, none, .mov (.t 104)⟩]) <|
  .ret
def v57 : VFunc := ⟨105, [.tmp 4], c57⟩
/-- (*berthing/berthingref12.Scan).Text -/
def c58 : VCode :=
  .seq (.ops [⟨some 4, none, .mov (.c (.str ⟨#[]⟩))⟩]) <|
  .seq (.ops [⟨some 7, none, .mov (.t 0)⟩, ⟨some 8, none, .call .shared 57 [(.t 7), (.c (.int .u64 18446744073709551615))]⟩, ⟨some 5, none, .mov (.t 8)⟩]) <|
  .seq (.seq (.ops [⟨some 9, none, .mov (.t 0)⟩, ⟨some 10, none, .nilCheck (.t 9)⟩, ⟨some 11, none, .fieldAddr 1 (.t 10)⟩, ⟨some 12, none, .load1 (.t 11)⟩, ⟨some 13, none, .bin .num .neq (.t 12) (.c (.int .i64 0))⟩]) <|
  .cond (.t 13) (.seq (.ops [⟨some 4, none, .mov (.c (.str ⟨#[]⟩))⟩]) <|
   .ret) (.skip)) <|
  .seq (.seq (.ops [⟨some 14, none, .mov (.t 1)⟩, ⟨some 15, none, .bin .num .lss (.t 14) (.c (.int .i64 0))⟩, ⟨some 16, none, .mov (.t 15)⟩, ⟨some 17, some (16, false), .mov (.t 5)⟩, ⟨some 18, some (16, false), .mov (.t 1)⟩, ⟨some 19, some (16, false), .conv .u64 (.t 18)⟩, ⟨some 20, some (16, false), .bin .num .gtr (.t 17) (.t 19)⟩, ⟨some 21, none, .pick (.t 16) (.c (.bool true)) (.t 20)⟩]) <|
  .cond (.t 21) (.seq (.ops [⟨some 22, none, .mov (.t 0)⟩, ⟨some 23, none, .call .shared 62 [(.t 22), (.c (.int .i64 15))]⟩]) <|
   .seq (.ops [⟨some 4, none, .mov (.c (.str ⟨#[]⟩))⟩]) <|
   .ret) (.skip)) <|
  .seq (.seq (.ops [⟨some 24, none, .mov (.t 5)⟩, ⟨some 25, none, .mov (.t 0)⟩, ⟨some 26, none, .nilCheck (.t 25)⟩, ⟨some 27, none, .fieldAddr 0 (.t 26)⟩, ⟨some 28, none, .load1 (.t 27)⟩, ⟨some 29, none, .lenStr (.t 28)⟩, ⟨some 30, none, .conv .u64 (.t 29)⟩, ⟨some 31, none, .bin .num .gtr (.t 24) (.t 30)⟩]) <|
  .cond (.t 31) (.seq (.ops [⟨some 32, none, .mov (.t 0)⟩, ⟨some 33, none, .call .shared 62 [(.t 32), (.c (.int .i64 10))]⟩]) <|
   .seq (.ops [⟨some 4, none, .mov (.c (.str ⟨#[]⟩))⟩]) <|
   .ret) (.skip)) <|
  .seq (.ops [⟨some 34, none, .mov (.t 0)⟩, ⟨some 35, none, .nilCheck (.t 34)⟩, ⟨some 36, none, .fieldAddr 0 (.t 35)⟩, ⟨some 37, none, .load1 (.t 36)⟩, ⟨some 38, none, .mov (.t 5)⟩, ⟨some 39, none, .conv .i64 (.t 38)⟩, ⟨some 40, none, .sliceStr (.t 37) none (some (.t 39))⟩, ⟨some 6, none, .mov (.t 40)⟩]) <|
  .seq (.ops [⟨some 41, none, .mov (.t 0)⟩, ⟨some 42, none, .mov (.t 0)⟩, ⟨some 43, none, .nilCheck (.t 42)⟩, ⟨some 44, none, .fieldAddr 0 (.t 43)⟩, ⟨some 45, none, .load1 (.t 44)⟩, ⟨some 46, none, .mov (.t 5)⟩, ⟨some 47, none, .conv .i64 (.t 46)⟩, ⟨some 48, none, .sliceStr (.t 45) (some (.t 47)) none⟩, ⟨some 49, none, .nilCheck (.t 41)⟩, ⟨some 50, none, .fieldAddr 0 (.t 49)⟩, ⟨none, none, .store1 (.t 50) (.t 48)⟩]) <|
  .seq (.ops [⟨some 51, none, .mov (.t 6)⟩, ⟨some 4, none, .mov (.t 51)⟩]) <|
  .ret
def v58 : VFunc := ⟨52, [.tmp 4], c58⟩
/-- (*berthing/berthingref12.Scan).Signed -/
def c59 : VCode :=
  .seq (.ops [⟨some 6, none, .mov (.c (.int .i64 0))⟩]) <|
  .seq (.ops [⟨some 9, none, .mov (.t 0)⟩, ⟨some 10, none, .call .shared 57 [(.t 9), (.c (.int .u64 18446744073709551615))]⟩, ⟨some 7, none, .mov (.t 10)⟩]) <|
  .seq (.ops [⟨some 11, none, .mov (.t 7)⟩, ⟨some 12, none, .bin .num .quo (.t 11) (.c (.int .u64 2))⟩, ⟨some 13, none, .conv .i64 (.t 12)⟩, ⟨some 8, none, .mov (.t 13)⟩]) <|
  .seq (.seq (.ops [⟨some 14, none, .mov (.t 7)⟩, ⟨some 15, none, .bin .num .rem (.t 14) (.c (.int .u64 2))⟩, ⟨some 16, none, .bin .num .eql (.t 15) (.c (.int .u64 1))⟩]) <|
  .cond (.t 16) (.ops [⟨some 17, none, .mov (.t 8)⟩, ⟨some 18, none, .un .neg (.t 17)⟩, ⟨some 19, none, .bin .num .sub (.t 18) (.c (.int .i64 1))⟩, ⟨some 8, none, .mov (.t 19)⟩]) (.skip)) <|
  .seq (.seq (.ops [⟨some 20, none, .mov (.t 0)⟩, ⟨some 21, none, .nilCheck (.t 20)⟩, ⟨some 22, none, .fieldAddr 1 (.t 21)⟩, ⟨some 23, none, .load1 (.t 22)⟩, ⟨some 24, none, .bin .num .neq (.t 23) (.c (.int .i64 0))⟩]) <|
  .cond (.t 24) (.seq (.ops [⟨some 6, none, .mov (.c (.int .i64 0))⟩]) <|
   .ret) (.skip)) <|
  .seq (.seq (.ops [⟨some 25, none, .mov (.t 8)⟩, ⟨some 26, none, .mov (.t 1)⟩, ⟨some 27, none, .bin .num .lss (.t 25) (.t 26)⟩, ⟨some 28, none, .mov (.t 27)⟩, ⟨some 29, some (28, false), .mov (.t 8)⟩, ⟨some 30, some (28, false), .mov (.t 2)⟩, ⟨some 31, some (28, false), .bin .num .gtr (.t 29) (.t 30)⟩, ⟨some 32, none, .pick (.t 28) (.c (.bool true)) (.t 31)⟩]) <|
  .cond (.t 32) (.seq (.ops [⟨some 33, none, .mov (.t 0)⟩, ⟨some 34, none, .call .shared 62 [(.t 33), (.c (.int .i64 15))]⟩]) <|
   .seq (.ops [⟨some 6, none, .mov (.c (.int .i64 0))⟩]) <|
   .ret) (.skip)) <|
  .seq (.ops [⟨some 35, none, .mov (.t 8)⟩, ⟨some 6, none, .mov (.t 35)⟩]) <|
  .ret
def v59 : VFunc := ⟨36, [.tmp 6], c59⟩
/-- (*berthing/berthingref12.Scan).Flag -/
def c60 : VCode :=
  .seq (.ops [⟨some 2, none, .mov (.c (.bool false))⟩]) <|
  .seq (.seq (.ops [⟨some 4, none, .mov (.t 0)⟩, ⟨some 5, none, .nilCheck (.t 4)⟩, ⟨some 6, none, .fieldAddr 1 (.t 5)⟩, ⟨some 7, none, .load1 (.t 6)⟩, ⟨some 8, none, .bin .num .neq (.t 7) (.c (.int .i64 0))⟩]) <|
  .cond (.t 8) (.seq (.ops [⟨some 2, none, .mov (.c (.bool false))⟩]) <|
   .ret) (.skip)) <|
  .seq (.seq (.ops [⟨some 9, none, .mov (.t 0)⟩, ⟨some 10, none, .nilCheck (.t 9)⟩, ⟨some 11, none, .fieldAddr 0 (.t 10)⟩, ⟨some 12, none, .load1 (.t 11)⟩, ⟨some 13, none, .bin .num .eql (.t 12) (.c (.str ⟨#[]⟩))⟩]) <|
  .cond (.t 13) (.seq (.ops [⟨some 14, none, .mov (.t 0)⟩, ⟨some 15, none, .call .shared 62 [(.t 14), (.c (.int .i64 10))]⟩]) <|
   .seq (.ops [⟨some 2, none, .mov (.c (.bool false))⟩]) <|
   .ret) (.skip)) <|
  .seq (.ops [⟨some 16, none, .mov (.t 0)⟩, ⟨some 17, none, .nilCheck (.t 16)⟩, ⟨some 18, none, .fieldAddr 0 (.t 17)⟩, ⟨some 19, none, .load1 (.t 18)⟩, ⟨some 20, none, .idxStr (.t 19) (.c (.int .i64 0))⟩, ⟨some 3, none, .mov (.t 20)⟩]) <|
  .seq (.seq (.ops [⟨some 21, none, .mov (.t 3)⟩, ⟨some 22, none, .bin .num .gtr (.t 21) (.c (.int .u8 1))⟩]) <|
  .cond (.t 22) (.seq (.ops [⟨some 23, none, .mov (.t 0)⟩, ⟨some 24, none, .call .shared 62 [(.t 23), (.c (.int .i64 11))]⟩]) <|
   .seq (.ops [⟨some 2, none, .mov (.c (.bool false))⟩]) <|
   .ret) (.skip)) <|
  .seq (.ops [⟨some 25, none, .mov (.t 0)⟩, ⟨some 26, none, .mov (.t 0)⟩, ⟨some 27, none, .nilCheck (.t 26)⟩, ⟨some 28, none, .fieldAddr 0 (.t 27)⟩, ⟨some 29, none, .load1 (.t 28)⟩, ⟨some 30, none, .sliceStr (.t 29) (some (.c (.int .i64 1))) none⟩, ⟨some 31, none, .nilCheck (.t 25)⟩, ⟨some 32, none, .fieldAddr 0 (.t 31)⟩, ⟨none, none, .store1 (.t 32) (.t 30)⟩]) <|
  .seq (.ops [⟨some 33, none, .mov (.t 3)⟩, ⟨some 34, none, .bin .num .eql (.t 33) (.c (.int .u8 1))⟩, ⟨some 2, none, .mov (.t 34)⟩]) <|
  .ret
def v60 : VFunc := ⟨35, [.tmp 2], c60⟩
/-- berthing/berthingref15.next -/
def c61 : VCode :=
  .seq (.ops [⟨some 2, none, .alloc [(.int .i64 0), (.int .i64 0), (.int .i64 0)]⟩]) <|
  .seq (.ops [⟨some 3, none, .alloc [(.int .i64 0), (.int .i64 0), (.int .i64 0)]⟩]) <|
  .seq (.ops [⟨some 4, none, .mov (.t 0)⟩, ⟨some 5, none, .call .shared 57 [(.t 4), (.c (.int .u64 1099511627776))]⟩, ⟨some 6, none, .conv .i64 (.t 5)⟩, ⟨some 7, none, .fieldAddr 0 (.t 3)⟩, ⟨none, none, .store1 (.t 7) (.t 6)⟩]) <|
  .seq (.ops [⟨some 8, none, .mov (.t 0)⟩, ⟨some 9, none, .call .shared 57 [(.t 8), (.c (.int .u64 1125899906842624))]⟩, ⟨some 10, none, .conv .i64 (.t 9)⟩, ⟨some 11, none, .fieldAddr 1 (.t 3)⟩, ⟨none, none, .store1 (.t 11) (.t 10)⟩]) <|
  .seq (.ops [⟨some 12, none, .mov (.t 0)⟩, ⟨some 13, none, .call .shared 57 [(.t 12), (.c (.int .u64 1125899906842624))]⟩, ⟨some 14, none, .conv .i64 (.t 13)⟩, ⟨some 15, none, .fieldAddr 2 (.t 3)⟩, ⟨none, none, .store1 (.t 15) (.t 14)⟩]) <|
  .seq (.ops [⟨some 16, none, .loadN 3 (.t 3)⟩, ⟨none, none, .storeN 3 (.t 2) (.t 16)⟩]) <|
  .ret
def v61 : VFunc := ⟨17, [.cellN 3 2], c61⟩
/-- (*berthing/berthingref12.Scan).Fail -/
def c62 : VCode :=
  .seq (.ops [⟨some 4, none, .mov (.t 0)⟩, ⟨some 5, none, .nilCheck (.t 4)⟩, ⟨some 6, none, .fieldAddr 1 (.t 5)⟩, ⟨some 7, none, .load1 (.t 6)⟩, ⟨some 8, none, .bin .num .eql (.t 7) (.c (.int .i64 0))⟩, ⟨some 9, none, .mov (.t 8)⟩, ⟨some 10, some (9, true), .mov (.t 1)⟩, ⟨some 11, some (9, true), .bin .num .neq (.t 10) (.c (.int .i64 0))⟩, ⟨some 12, none, .pick (.t 9) (.t 11) (.c (.bool false))⟩]) <|
  .cond (.t 12) (.ops [⟨some 13, none, .mov (.t 0)⟩, ⟨some 14, none, .mov (.t 0)⟩, ⟨some 15, none, .mov (.t 1)⟩, ⟨some 16, none, .nilCheck (.t 13)⟩, ⟨some 17, none, .fieldAddr 0 (.t 16)⟩, ⟨none, none, .store1 (.t 17) (.c (.str ⟨#[]⟩))⟩, ⟨some 18, none, .nilCheck (.t 14)⟩, ⟨some 19, none, .fieldAddr 1 (.t 18)⟩, ⟨none, none, .store1 (.t 19) (.t 15)⟩]) (.skip)
def v62 : VFunc := ⟨20, [], c62⟩
/-- berthing/spec.Name -/
def c63 : VCode :=
  .seq (.ops [⟨some 2, none, .mov (.c (.bool false))⟩]) <|
  .seq (.seq (.ops [⟨some 5, none, .mov (.t 0)⟩, ⟨some 6, none, .lenStr (.t 5)⟩, ⟨some 7, none, .bin .num .lss (.t 6) (.c (.int .i64 1))⟩, ⟨some 8, none, .mov (.t 7)⟩, ⟨some 9, some (8, false), .mov (.t 0)⟩, ⟨some 10, some (8, false), .lenStr (.t 9)⟩, ⟨some 11, some (8, false), .bin .num .gtr (.t 10) (.c (.int .i64 16))⟩, ⟨some 12, none, .pick (.t 8) (.c (.bool true)) (.t 11)⟩, ⟨some 13, none, .mov (.t 12)⟩, ⟨some 14, some (13, false), .mov (.t 0)⟩, ⟨some 15, some (13, false), .idxStr (.t 14) (.c (.int .i64 0))⟩, ⟨some 16, some (13, false), .bin .num .eql (.t 15) (.c (.int .u8 45))⟩, ⟨some 17, none, .pick (.t 13) (.c (.bool true)) (.t 16)⟩, ⟨some 18, none, .mov (.t 17)⟩, ⟨some 19, some (18, false), .mov (.t 0)⟩, ⟨some 20, some (18, false), .mov (.t 0)⟩, ⟨some 21, some (18, false), .lenStr (.t 20)⟩, ⟨some 22, some (18, false), .bin .num .sub (.t 21) (.c (.int .i64 1))⟩, ⟨some 23, some (18, false), .idxStr (.t 19) (.t 22)⟩, ⟨some 24, some (18, false), .bin .num .eql (.t 23) (.c (.int .u8 45))⟩, ⟨some 25, none, .pick (.t 18) (.c (.bool true)) (.t 24)⟩]) <|
  .cond (.t 25) (.seq (.ops [⟨some 2, none, .mov (.c (.bool false))⟩]) <|
   .ret) (.skip)) <|
  .seq (.seq (.ops [⟨some 26, none, .mov (.t 0)⟩, ⟨some 27, none, .lenStr (.t 26)⟩, ⟨some 28, none, .mov (.c (.int .i64 0))⟩]) <|
  .block 0 (.loop (.seq (.ops [⟨some 29, none, .bin .num .lss (.t 28) (.t 27)⟩]) <|
    .seq (.cond (.t 29) (.skip) (.exit 0)) <|
    .seq (.block 1 (.seq (.ops [⟨some 30, none, .mov (.t 28)⟩, ⟨some 3, none, .mov (.t 30)⟩]) <|
     .seq (.ops [⟨some 31, none, .mov (.t 0)⟩, ⟨some 32, none, .mov (.t 3)⟩, ⟨some 33, none, .idxStr (.t 31) (.t 32)⟩, ⟨some 4, none, .mov (.t 33)⟩]) <|
     .seq (.ops [⟨some 34, none, .mov (.t 4)⟩, ⟨some 35, none, .bin .num .lss (.t 34) (.c (.int .u8 97))⟩, ⟨some 36, none, .mov (.t 35)⟩, ⟨some 37, some (36, false), .mov (.t 4)⟩, ⟨some 38, some (36, false), .bin .num .gtr (.t 37) (.c (.int .u8 122))⟩, ⟨some 39, none, .pick (.t 36) (.c (.bool true)) (.t 38)⟩, ⟨some 40, none, .mov (.t 39)⟩, ⟨some 41, some (40, true), .mov (.t 4)⟩, ⟨some 42, some (40, true), .bin .num .lss (.t 41) (.c (.int .u8 48))⟩, ⟨some 43, some (40, true), .mov (.t 42)⟩, ⟨some 44, some (43, false), .mov (.t 4)⟩, ⟨some 45, some (43, false), .bin .num .gtr (.t 44) (.c (.int .u8 57))⟩, ⟨some 46, some (40, true), .pick (.t 43) (.c (.bool true)) (.t 45)⟩, ⟨some 47, none, .pick (.t 40) (.t 46) (.c (.bool false))⟩, ⟨some 48, none, .mov (.t 47)⟩, ⟨some 49, some (48, true), .mov (.t 4)⟩, ⟨some 50, some (48, true), .bin .num .neq (.t 49) (.c (.int .u8 45))⟩, ⟨some 51, none, .pick (.t 48) (.t 50) (.c (.bool false))⟩]) <|
     .cond (.t 51) (.seq (.ops [⟨some 2, none, .mov (.c (.bool false))⟩]) <|
      .ret) (.skip))) <|
    .ops [⟨some 52, none, .bin .num .add (.t 28) (.c (.int .i64 1))⟩, ⟨some 28, none, .mov (.t 52)⟩]))) <|
  .seq (.ops [⟨some 2, none, .mov (.c (.bool true))⟩]) <|
  .ret
def v63 : VFunc := ⟨53, [.tmp 2], c63⟩
/-- berthing/spec.Find -/
def c64 : VCode :=
  .seq (.ops [⟨some 2, none, .box (.t 0)⟩, ⟨some 3, none, .box (.t 1)⟩, ⟨some 4, none, .mov (.c (.int .i64 0))⟩, ⟨some 5, none, .mov (.c (.bool false))⟩]) <|
  .seq (.ops [⟨some 7, none, .fieldAddr 3 (.t 2)⟩, ⟨some 8, none, .load1 (.t 7)⟩, ⟨some 9, none, .mkFn 83 [] [(.t 3)]⟩, ⟨some 10, none, .call .shared 82 [(.t 8), (.t 9)]⟩, ⟨some 6, none, .mov (.t 10)⟩]) <|
  .seq (.ops [⟨some 11, none, .mov (.t 6)⟩, ⟨some 12, none, .minmax true [(.t 11), (.c (.int .i64 0))]⟩, ⟨some 13, none, .mov (.t 6)⟩, ⟨some 14, none, .bin .num .geq (.t 13) (.c (.int .i64 0))⟩, ⟨some 4, none, .mov (.t 12)⟩, ⟨some 5, none, .mov (.t 14)⟩]) <|
  .ret
def v64 : VFunc := ⟨15, [.tmp 4, .tmp 5], c64⟩
/-- berthing/spec.Container -/
def c65 : VCode :=
  .seq (.ops [⟨some 1, none, .box (.t 0)⟩, ⟨some 2, none, .mov (.c (.bool false))⟩]) <|
  .seq (.seq (.ops [⟨some 5, none, .fieldAddr 0 (.t 1)⟩, ⟨some 6, none, .load1 (.t 5)⟩, ⟨some 7, none, .call .pure 63 [(.t 6)]⟩, ⟨some 8, none, .un .not (.t 7)⟩, ⟨some 9, none, .mov (.t 8)⟩, ⟨some 10, some (9, false), .fieldAddr 1 (.t 1)⟩, ⟨some 11, some (9, false), .loadN 3 (.t 10)⟩, ⟨some 12, some (9, false), .call .pure 84 [(.t 11)]⟩, ⟨some 13, some (9, false), .un .not (.t 12)⟩, ⟨some 14, none, .pick (.t 9) (.c (.bool true)) (.t 13)⟩, ⟨some 15, none, .mov (.t 14)⟩, ⟨some 16, some (15, false), .fieldAddr 4 (.t 1)⟩, ⟨some 17, some (15, false), .loadN 3 (.t 16)⟩, ⟨some 18, some (15, false), .call .pure 84 [(.t 17)]⟩, ⟨some 19, some (15, false), .un .not (.t 18)⟩, ⟨some 20, none, .pick (.t 15) (.c (.bool true)) (.t 19)⟩, ⟨some 21, none, .mov (.t 20)⟩, ⟨some 22, some (21, false), .fieldAddr 1 (.t 1)⟩, ⟨some 23, some (21, false), .fieldAddr 2 (.t 22)⟩, ⟨some 24, some (21, false), .load1 (.t 23)⟩, ⟨some 25, some (21, false), .fieldAddr 4 (.t 1)⟩, ⟨some 26, some (21, false), .fieldAddr 2 (.t 25)⟩, ⟨some 27, some (21, false), .load1 (.t 26)⟩, ⟨some 28, some (21, false), .bin .num .neq (.t 24) (.t 27)⟩, ⟨some 29, none, .pick (.t 21) (.c (.bool true)) (.t 28)⟩]) <|
  .cond (.t 29) (.seq (.ops [⟨some 2, none, .mov (.c (.bool false))⟩]) <|
   .ret) (.skip)) <|
  .seq (.seq (.ops [⟨some 3, none, .mov (.c (.int .i64 0))⟩]) <|
  .block 0 (.loop (.seq (.seq (.ops [⟨some 30, none, .mov (.t 3)⟩, ⟨some 31, none, .bin .num .leq (.t 30) (.c (.int .i64 1))⟩]) <|
    .cond (.t 31) (.skip) (.exit 0)) <|
    .seq (.block 1 (.seq (.ops [⟨some 34, none, .fieldAddr 4 (.t 1)⟩, ⟨some 35, none, .loadN 3 (.t 34)⟩, ⟨some 36, none, .mov (.t 3)⟩, ⟨some 37, none, .call .pure 85 [(.t 35), (.t 36)]⟩, ⟨some 4, none, .mov (.t 37)⟩]) <|
     .seq (.ops [⟨some 38, none, .mov (.t 4)⟩, ⟨some 39, none, .bin .num .gtr (.t 38) (.c (.int .i64 0))⟩, ⟨some 40, none, .mov (.t 39)⟩, ⟨some 41, some (40, true), .mov (.t 4)⟩, ⟨some 42, some (40, true), .fieldAddr 1 (.t 1)⟩, ⟨some 43, some (40, true), .loadN 3 (.t 42)⟩, ⟨some 44, some (40, true), .mov (.t 3)⟩, ⟨some 45, some (40, true), .call .pure 85 [(.t 43), (.t 44)]⟩, ⟨some 46, some (40, true), .bin .num .lss (.t 41) (.t 45)⟩, ⟨some 47, none, .pick (.t 40) (.t 46) (.c (.bool false))⟩]) <|
     .cond (.t 47) (.seq (.ops [⟨some 2, none, .mov (.c (.bool false))⟩]) <|
      .ret) (.skip))) <|
    .ops [⟨some 32, none, .mov (.t 3)⟩, ⟨some 33, none, .bin .num .add (.t 32) (.c (.int .i64 1))⟩, ⟨some 3, none, .mov (.t 33)⟩]))) <|
  .seq (.ops [⟨some 2, none, .mov (.c (.bool true))⟩]) <|
  .ret
def v65 : VFunc := ⟨48, [.tmp 2], c65⟩
/-- berthing/spec.sums -/
def c66 : VCode :=
  .seq (.ops [⟨some 1, none, .box (.t 0)⟩, ⟨some 2, none, .alloc [(.int .i64 0), (.int .i64 0), (.int .i64 0)]⟩, ⟨some 3, none, .alloc [(.int .i64 0), (.int .i64 0), (.int .i64 0)]⟩, ⟨some 4, none, .mov (.c (.bool false))⟩]) <|
  .seq (.ops [⟨some 5, none, .mov (.c (.sl .nil 0 []))⟩, ⟨some 6, none, .mov (.c (.sl .nil 0 []))⟩]) <|
  .seq (.seq (.ops [⟨some 13, none, .fieldAddr 3 (.t 1)⟩, ⟨some 14, none, .load1 (.t 13)⟩, ⟨some 15, none, .lenS (.t 14)⟩, ⟨some 16, none, .mov (.c (.int .i64 0))⟩]) <|
  .block 0 (.loop (.seq (.ops [⟨some 17, none, .bin .num .lss (.t 16) (.t 15)⟩]) <|
    .seq (.cond (.t 17) (.skip) (.exit 0)) <|
    .seq (.block 1 (.seq (.ops [⟨some 18, none, .idxAddrS 10 (.t 14) (.t 16)⟩, ⟨some 19, none, .loadN 10 (.t 18)⟩, ⟨some 8, none, .alloc [(.str ⟨#[]⟩), (.int .i64 0), (.int .i64 0), (.int .i64 0), (.int .i64 0), (.int .i64 0), (.int .i64 0), (.bool false), (.bool false), (.bool false)]⟩, ⟨none, none, .storeN 10 (.t 8) (.t 19)⟩]) <|
     .draw [] [⟨some 20, none, .mov (.t 5)⟩, ⟨some 21, none, .fieldAddr 1 (.t 8)⟩, ⟨some 22, none, .loadN 3 (.t 21)⟩, ⟨some 23, none, .buildSlice false 3 1 [(.int .i64 0), (.int .i64 0), (.int .i64 0)] [(0, 3, (.t 22))]⟩, ⟨some 24, none, .append false false 3 24 (.t 20) (.t 23)⟩, ⟨some 25, none, .mov (.t 6)⟩, ⟨some 26, none, .fieldAddr 4 (.t 8)⟩, ⟨some 27, none, .loadN 3 (.t 26)⟩, ⟨some 28, none, .buildSlice false 3 1 [(.int .i64 0), (.int .i64 0), (.int .i64 0)] [(0, 3, (.t 27))]⟩, ⟨some 29, none, .append false false 3 24 (.t 25) (.t 28)⟩, ⟨some 5, none, .mov (.t 24)⟩, ⟨some 6, none, .mov (.t 29)⟩] [(7, 4)])) <|
    .ops [⟨some 30, none, .bin .num .add (.t 16) (.c (.int .i64 1))⟩, ⟨some 16, none, .mov (.t 30)⟩]))) <|
  .seq (.ops [⟨some 32, none, .mov (.t 5)⟩, ⟨some 33, none, .call .pure 86 [(.t 32)]⟩, ⟨some 31, none, .mov (.t 33)⟩, ⟨some 34, none, .extract 0 (.t 31)⟩, ⟨some 35, none, .extract 1 (.t 31)⟩, ⟨some 9, none, .alloc [(.int .i64 0), (.int .i64 0), (.int .i64 0)]⟩, ⟨none, none, .storeN 3 (.t 9) (.t 34)⟩, ⟨some 10, none, .mov (.t 35)⟩]) <|
  .seq (.ops [⟨some 37, none, .mov (.t 6)⟩, ⟨some 38, none, .call .pure 86 [(.t 37)]⟩, ⟨some 36, none, .mov (.t 38)⟩, ⟨some 39, none, .extract 0 (.t 36)⟩, ⟨some 40, none, .extract 1 (.t 36)⟩, ⟨some 11, none, .alloc [(.int .i64 0), (.int .i64 0), (.int .i64 0)]⟩, ⟨none, none, .storeN 3 (.t 11) (.t 39)⟩, ⟨some 12, none, .mov (.t 40)⟩]) <|
  .seq (.draw [] [⟨some 41, none, .loadN 3 (.t 9)⟩, ⟨some 42, none, .loadN 3 (.t 11)⟩, ⟨some 43, none, .mov (.t 10)⟩, ⟨some 44, none, .mov (.t 43)⟩, ⟨some 45, some (44, true), .mov (.t 12)⟩, ⟨some 46, none, .pick (.t 44) (.t 45) (.c (.bool false))⟩, ⟨none, none, .storeN 3 (.t 2) (.t 41)⟩, ⟨none, none, .storeN 3 (.t 3) (.t 42)⟩, ⟨some 4, none, .mov (.t 46)⟩] [(1, 6)]) <|
  .ret
def v66 : VFunc := ⟨47, [.cellN 3 2, .cellN 3 3, .tmp 4], c66⟩
/-- berthing/berthingref05.Name -/
def c67 : VCode :=
  .seq (.ops [⟨some 2, none, .mov (.c (.bool false))⟩]) <|
  .seq (.seq (.ops [⟨some 3, none, .mov (.c (.int .i64 0))⟩]) <|
  .block 0 (.loop (.seq (.seq (.ops [⟨some 6, none, .mov (.t 3)⟩, ⟨some 7, none, .mov (.t 0)⟩, ⟨some 8, none, .lenStr (.t 7)⟩, ⟨some 9, none, .bin .num .lss (.t 6) (.t 8)⟩]) <|
    .cond (.t 9) (.skip) (.exit 0)) <|
    .seq (.block 1 (.seq (.ops [⟨some 12, none, .mov (.t 0)⟩, ⟨some 13, none, .mov (.t 3)⟩, ⟨some 14, none, .idxStr (.t 12) (.t 13)⟩, ⟨some 4, none, .mov (.t 14)⟩]) <|
     .seq (.ops [⟨some 15, none, .mov (.t 4)⟩, ⟨some 16, none, .bin .num .geq (.t 15) (.c (.int .u8 97))⟩, ⟨some 17, none, .mov (.t 16)⟩, ⟨some 18, some (17, true), .mov (.t 4)⟩, ⟨some 19, some (17, true), .bin .num .leq (.t 18) (.c (.int .u8 122))⟩, ⟨some 20, none, .pick (.t 17) (.t 19) (.c (.bool false))⟩, ⟨some 21, none, .mov (.t 20)⟩, ⟨some 22, some (21, false), .mov (.t 4)⟩, ⟨some 23, some (21, false), .bin .num .geq (.t 22) (.c (.int .u8 48))⟩, ⟨some 24, some (21, false), .mov (.t 23)⟩, ⟨some 25, some (24, true), .mov (.t 4)⟩, ⟨some 26, some (24, true), .bin .num .leq (.t 25) (.c (.int .u8 57))⟩, ⟨some 27, some (21, false), .pick (.t 24) (.t 26) (.c (.bool false))⟩, ⟨some 28, none, .pick (.t 21) (.c (.bool true)) (.t 27)⟩, ⟨some 5, none, .mov (.t 28)⟩]) <|
     .seq (.ops [⟨some 29, none, .mov (.t 5)⟩, ⟨some 30, none, .un .not (.t 29)⟩, ⟨some 31, none, .mov (.t 30)⟩, ⟨some 32, some (31, true), .mov (.t 4)⟩, ⟨some 33, some (31, true), .bin .num .neq (.t 32) (.c (.int .u8 45))⟩, ⟨some 34, some (31, true), .mov (.t 33)⟩, ⟨some 35, some (34, false), .mov (.t 3)⟩, ⟨some 36, some (34, false), .bin .num .eql (.t 35) (.c (.int .i64 0))⟩, ⟨some 37, some (31, true), .pick (.t 34) (.c (.bool true)) (.t 36)⟩, ⟨some 38, some (31, true), .mov (.t 37)⟩, ⟨some 39, some (38, false), .mov (.t 3)⟩, ⟨some 40, some (38, false), .mov (.t 0)⟩, ⟨some 41, some (38, false), .lenStr (.t 40)⟩, ⟨some 42, some (38, false), .bin .num .sub (.t 41) (.c (.int .i64 1))⟩, ⟨some 43, some (38, false), .bin .num .eql (.t 39) (.t 42)⟩, ⟨some 44, some (31, true), .pick (.t 38) (.c (.bool true)) (.t 43)⟩, ⟨some 45, none, .pick (.t 31) (.t 44) (.c (.bool false))⟩]) <|
     .cond (.t 45) (.seq (.ops [⟨some 2, none, .mov (.c (.bool false))⟩]) <|
      .ret) (.skip))) <|
    .ops [⟨some 10, none, .mov (.t 3)⟩, ⟨some 11, none, .bin .num .add (.t 10) (.c (.int .i64 1))⟩, ⟨some 3, none, .mov (.t 11)⟩]))) <|
  .seq (.ops [⟨some 46, none, .mov (.t 0)⟩, ⟨some 47, none, .lenStr (.t 46)⟩, ⟨some 48, none, .bin .num .gtr (.t 47) (.c (.int .i64 0))⟩, ⟨some 49, none, .mov (.t 48)⟩, ⟨some 50, some (49, true), .mov (.t 0)⟩, ⟨some 51, some (49, true), .lenStr (.t 50)⟩, ⟨some 52, some (49, true), .bin .num .lss (.t 51) (.c (.int .i64 17))⟩, ⟨some 53, none, .pick (.t 49) (.t 52) (.c (.bool false))⟩, ⟨some 2, none, .mov (.t 53)⟩]) <|
  .ret
def v67 : VFunc := ⟨54, [.tmp 2], c67⟩
/-- berthing/berthingref05.Container -/
def c68 : VCode :=
  .seq (.ops [⟨some 1, none, .box (.t 0)⟩, ⟨some 2, none, .mov (.c (.bool false))⟩]) <|
  .seq (.draw [(3, [(.int .i64 0), (.int .i64 0), (.int .i64 0)]), (4, [(.int .i64 0), (.int .i64 0), (.int .i64 0)])] [⟨some 5, none, .fieldAddr 1 (.t 1)⟩, ⟨some 6, none, .loadN 3 (.t 5)⟩, ⟨some 7, none, .fieldAddr 4 (.t 1)⟩, ⟨some 8, none, .loadN 3 (.t 7)⟩, ⟨none, none, .idle⟩, ⟨none, none, .idle⟩, ⟨none, none, .storeN 3 (.t 3) (.t 6)⟩, ⟨none, none, .storeN 3 (.t 4) (.t 8)⟩] [(3, 6)]) <|
  .seq (.ops [⟨some 9, none, .fieldAddr 0 (.t 1)⟩, ⟨some 10, none, .load1 (.t 9)⟩, ⟨some 11, none, .call .pure 67 [(.t 10)]⟩, ⟨some 12, none, .mov (.t 11)⟩, ⟨some 13, some (12, true), .loadN 3 (.t 3)⟩, ⟨some 14, some (12, true), .call .pure 87 [(.t 13)]⟩, ⟨some 15, none, .pick (.t 12) (.t 14) (.c (.bool false))⟩, ⟨some 16, none, .mov (.t 15)⟩, ⟨some 17, some (16, true), .loadN 3 (.t 4)⟩, ⟨some 18, some (16, true), .call .pure 87 [(.t 17)]⟩, ⟨some 19, none, .pick (.t 16) (.t 18) (.c (.bool false))⟩, ⟨some 20, none, .mov (.t 19)⟩, ⟨some 21, some (20, true), .fieldAddr 0 (.t 4)⟩, ⟨some 22, some (20, true), .load1 (.t 21)⟩, ⟨some 23, some (20, true), .bin .num .eql (.t 22) (.c (.int .i64 0))⟩, ⟨some 24, some (20, true), .mov (.t 23)⟩, ⟨some 25, some (24, false), .fieldAddr 0 (.t 4)⟩, ⟨some 26, some (24, false), .load1 (.t 25)⟩, ⟨some 27, some (24, false), .fieldAddr 0 (.t 3)⟩, ⟨some 28, some (24, false), .load1 (.t 27)⟩, ⟨some 29, some (24, false), .bin .num .geq (.t 26) (.t 28)⟩, ⟨some 30, some (20, true), .pick (.t 24) (.c (.bool true)) (.t 29)⟩, ⟨some 31, none, .pick (.t 20) (.t 30) (.c (.bool false))⟩, ⟨some 32, none, .mov (.t 31)⟩, ⟨some 33, some (32, true), .fieldAddr 1 (.t 4)⟩, ⟨some 34, some (32, true), .load1 (.t 33)⟩, ⟨some 35, some (32, true), .bin .num .eql (.t 34) (.c (.int .i64 0))⟩, ⟨some 36, some (32, true), .mov (.t 35)⟩, ⟨some 37, some (36, false), .fieldAddr 1 (.t 4)⟩, ⟨some 38, some (36, false), .load1 (.t 37)⟩, ⟨some 39, some (36, false), .fieldAddr 1 (.t 3)⟩, ⟨some 40, some (36, false), .load1 (.t 39)⟩, ⟨some 41, some (36, false), .bin .num .geq (.t 38) (.t 40)⟩, ⟨some 42, some (32, true), .pick (.t 36) (.c (.bool true)) (.t 41)⟩, ⟨some 43, none, .pick (.t 32) (.t 42) (.c (.bool false))⟩, ⟨some 44, none, .mov (.t 43)⟩, ⟨some 45, some (44, true), .fieldAddr 2 (.t 3)⟩, ⟨some 46, some (44, true), .load1 (.t 45)⟩, ⟨some 47, some (44, true), .fieldAddr 2 (.t 4)⟩, ⟨some 48, some (44, true), .load1 (.t 47)⟩, ⟨some 49, some (44, true), .bin .num .eql (.t 46) (.t 48)⟩, ⟨some 50, none, .pick (.t 44) (.t 49) (.c (.bool false))⟩, ⟨some 2, none, .mov (.t 50)⟩]) <|
  .ret
def v68 : VFunc := ⟨51, [.tmp 2], c68⟩
/-- berthing/berthingref05.Sums -/
def c69 : VCode :=
  .seq (.ops [⟨some 1, none, .box (.t 0)⟩, ⟨some 2, none, .alloc [(.int .i64 0), (.int .i64 0), (.int .i64 0)]⟩, ⟨some 3, none, .alloc [(.int .i64 0), (.int .i64 0), (.int .i64 0)]⟩, ⟨some 4, none, .mov (.c (.bool false))⟩]) <|
  .seq (.ops [⟨some 5, none, .mov (.c (.sl .nil 0 []))⟩, ⟨some 6, none, .mov (.c (.sl .nil 0 []))⟩]) <|
  .seq (.seq (.ops [⟨some 13, none, .fieldAddr 3 (.t 1)⟩, ⟨some 14, none, .load1 (.t 13)⟩, ⟨some 15, none, .lenS (.t 14)⟩, ⟨some 16, none, .mov (.c (.int .i64 0))⟩]) <|
  .block 0 (.loop (.seq (.ops [⟨some 17, none, .bin .num .lss (.t 16) (.t 15)⟩]) <|
    .seq (.cond (.t 17) (.skip) (.exit 0)) <|
    .seq (.block 1 (.seq (.ops [⟨some 18, none, .idxAddrS 10 (.t 14) (.t 16)⟩, ⟨some 19, none, .loadN 10 (.t 18)⟩, ⟨some 8, none, .alloc [(.str ⟨#[]⟩), (.int .i64 0), (.int .i64 0), (.int .i64 0), (.int .i64 0), (.int .i64 0), (.int .i64 0), (.bool false), (.bool false), (.bool false)]⟩, ⟨none, none, .storeN 10 (.t 8) (.t 19)⟩]) <|
     .seq (.ops [⟨some 20, none, .mov (.t 5)⟩, ⟨some 21, none, .fieldAddr 1 (.t 8)⟩, ⟨some 22, none, .loadN 3 (.t 21)⟩, ⟨some 23, none, .buildSlice false 3 1 [(.int .i64 0), (.int .i64 0), (.int .i64 0)] [(0, 3, (.t 22))]⟩, ⟨some 24, none, .append false false 3 24 (.t 20) (.t 23)⟩, ⟨some 5, none, .mov (.t 24)⟩]) <|
     .ops [⟨some 25, none, .mov (.t 6)⟩, ⟨some 26, none, .fieldAddr 4 (.t 8)⟩, ⟨some 27, none, .loadN 3 (.t 26)⟩, ⟨some 28, none, .buildSlice false 3 1 [(.int .i64 0), (.int .i64 0), (.int .i64 0)] [(0, 3, (.t 27))]⟩, ⟨some 29, none, .append false false 3 24 (.t 25) (.t 28)⟩, ⟨some 6, none, .mov (.t 29)⟩])) <|
    .ops [⟨some 30, none, .bin .num .add (.t 16) (.c (.int .i64 1))⟩, ⟨some 16, none, .mov (.t 30)⟩]))) <|
  .seq (.ops [⟨some 32, none, .mov (.t 5)⟩, ⟨some 33, none, .call .pure 88 [(.t 32)]⟩, ⟨some 31, none, .mov (.t 33)⟩, ⟨some 34, none, .extract 0 (.t 31)⟩, ⟨some 35, none, .extract 1 (.t 31)⟩, ⟨some 9, none, .alloc [(.int .i64 0), (.int .i64 0), (.int .i64 0)]⟩, ⟨none, none, .storeN 3 (.t 9) (.t 34)⟩, ⟨some 10, none, .mov (.t 35)⟩]) <|
  .seq (.ops [⟨some 37, none, .mov (.t 6)⟩, ⟨some 38, none, .call .pure 88 [(.t 37)]⟩, ⟨some 36, none, .mov (.t 38)⟩, ⟨some 39, none, .extract 0 (.t 36)⟩, ⟨some 40, none, .extract 1 (.t 36)⟩, ⟨some 11, none, .alloc [(.int .i64 0), (.int .i64 0), (.int .i64 0)]⟩, ⟨none, none, .storeN 3 (.t 11) (.t 39)⟩, ⟨some 12, none, .mov (.t 40)⟩]) <|
  .seq (.draw [] [⟨some 41, none, .loadN 3 (.t 9)⟩, ⟨some 42, none, .loadN 3 (.t 11)⟩, ⟨some 43, none, .mov (.t 10)⟩, ⟨some 44, none, .mov (.t 43)⟩, ⟨some 45, some (44, true), .mov (.t 12)⟩, ⟨some 46, none, .pick (.t 44) (.t 45) (.c (.bool false))⟩, ⟨none, none, .storeN 3 (.t 2) (.t 41)⟩, ⟨none, none, .storeN 3 (.t 3) (.t 42)⟩, ⟨some 4, none, .mov (.t 46)⟩] [(1, 6)]) <|
  .ret
def v69 : VFunc := ⟨47, [.cellN 3 2, .cellN 3 3, .tmp 4], c69⟩
/-- cmp.Or[int] -/
def c70 : VCode :=
  .seq (.ops [⟨some 2, none, .mov (.c (.int .i64 0))⟩]) <|
  .seq (.ops [⟨some 3, none, .mov (.c (.int .i64 0))⟩]) <|
  .seq (.seq (.ops [⟨some 6, none, .mov (.t 0)⟩, ⟨some 7, none, .lenS (.t 6)⟩, ⟨some 8, none, .mov (.c (.int .i64 0))⟩]) <|
  .block 0 (.loop (.seq (.ops [⟨some 9, none, .bin .num .lss (.t 8) (.t 7)⟩]) <|
    .seq (.cond (.t 9) (.skip) (.exit 0)) <|
    .seq (.block 1 (.seq (.ops [⟨some 10, none, .idxAddrS 1 (.t 6) (.t 8)⟩, ⟨some 11, none, .load1 (.t 10)⟩, ⟨some 5, none, .mov (.t 11)⟩]) <|
     .seq (.ops [⟨some 12, none, .mov (.t 5)⟩, ⟨some 13, none, .mov (.t 3)⟩, ⟨some 14, none, .bin .num .neq (.t 12) (.t 13)⟩]) <|
     .cond (.t 14) (.seq (.ops [⟨some 15, none, .mov (.t 5)⟩, ⟨some 2, none, .mov (.t 15)⟩]) <|
      .ret) (.skip))) <|
    .ops [⟨some 16, none, .bin .num .add (.t 8) (.c (.int .i64 1))⟩, ⟨some 8, none, .mov (.t 16)⟩]))) <|
  .seq (.ops [⟨some 17, none, .mov (.t 3)⟩, ⟨some 2, none, .mov (.t 17)⟩]) <|
  .ret
def v70 : VFunc := ⟨18, [.tmp 2], c70⟩
/-- cmp.Compare[string] -/
def c71 : VCode :=
  .seq (.ops [⟨some 4, none, .mov (.c (.int .i64 0))⟩]) <|
  .seq (.ops [⟨some 7, none, .mov (.t 0)⟩, ⟨some 8, none, .call .pure 89 [(.t 7)]⟩, ⟨some 5, none, .mov (.t 8)⟩]) <|
  .seq (.ops [⟨some 9, none, .mov (.t 1)⟩, ⟨some 10, none, .call .pure 89 [(.t 9)]⟩, ⟨some 6, none, .mov (.t 10)⟩]) <|
  .seq (.seq (.ops [⟨some 11, none, .mov (.t 5)⟩]) <|
  .cond (.t 11) (.seq (.seq (.ops [⟨some 12, none, .mov (.t 6)⟩]) <|
   .cond (.t 12) (.seq (.ops [⟨some 4, none, .mov (.c (.int .i64 0))⟩]) <|
    .ret) (.skip)) <|
   .seq (.ops [⟨some 4, none, .mov (.c (.int .i64 (-1)))⟩]) <|
   .ret) (.skip)) <|
  .seq (.seq (.ops [⟨some 13, none, .mov (.t 6)⟩]) <|
  .cond (.t 13) (.seq (.ops [⟨some 4, none, .mov (.c (.int .i64 1))⟩]) <|
   .ret) (.skip)) <|
  .seq (.seq (.ops [⟨some 14, none, .mov (.t 0)⟩, ⟨some 15, none, .mov (.t 1)⟩, ⟨some 16, none, .bin .num .lss (.t 14) (.t 15)⟩]) <|
  .cond (.t 16) (.seq (.ops [⟨some 4, none, .mov (.c (.int .i64 (-1)))⟩]) <|
   .ret) (.skip)) <|
  .seq (.seq (.ops [⟨some 17, none, .mov (.t 0)⟩, ⟨some 18, none, .mov (.t 1)⟩, ⟨some 19, none, .bin .num .gtr (.t 17) (.t 18)⟩]) <|
  .cond (.t 19) (.seq (.ops [⟨some 4, none, .mov (.c (.int .i64 1))⟩]) <|
   .ret) (.skip)) <|
  .seq (.ops [⟨some 4, none, .mov (.c (.int .i64 0))⟩]) <|
  .ret
def v71 : VFunc := ⟨20, [.tmp 4], c71⟩
/-- cmp.Compare[int] -/
def c72 : VCode :=
  .seq (.ops [⟨some 4, none, .mov (.c (.int .i64 0))⟩]) <|
  .seq (.ops [⟨some 7, none, .mov (.t 0)⟩, ⟨some 8, none, .call .pure 90 [(.t 7)]⟩, ⟨some 5, none, .mov (.t 8)⟩]) <|
  .seq (.ops [⟨some 9, none, .mov (.t 1)⟩, ⟨some 10, none, .call .pure 90 [(.t 9)]⟩, ⟨some 6, none, .mov (.t 10)⟩]) <|
  .seq (.seq (.ops [⟨some 11, none, .mov (.t 5)⟩]) <|
  .cond (.t 11) (.seq (.seq (.ops [⟨some 12, none, .mov (.t 6)⟩]) <|
   .cond (.t 12) (.seq (.ops [⟨some 4, none, .mov (.c (.int .i64 0))⟩]) <|
    .ret) (.skip)) <|
   .seq (.ops [⟨some 4, none, .mov (.c (.int .i64 (-1)))⟩]) <|
   .ret) (.skip)) <|
  .seq (.seq (.ops [⟨some 13, none, .mov (.t 6)⟩]) <|
  .cond (.t 13) (.seq (.ops [⟨some 4, none, .mov (.c (.int .i64 1))⟩]) <|
   .ret) (.skip)) <|
  .seq (.seq (.ops [⟨some 14, none, .mov (.t 0)⟩, ⟨some 15, none, .mov (.t 1)⟩, ⟨some 16, none, .bin .num .lss (.t 14) (.t 15)⟩]) <|
  .cond (.t 16) (.seq (.ops [⟨some 4, none, .mov (.c (.int .i64 (-1)))⟩]) <|
   .ret) (.skip)) <|
  .seq (.seq (.ops [⟨some 17, none, .mov (.t 0)⟩, ⟨some 18, none, .mov (.t 1)⟩, ⟨some 19, none, .bin .num .gtr (.t 17) (.t 18)⟩]) <|
  .cond (.t 19) (.seq (.ops [⟨some 4, none, .mov (.c (.int .i64 1))⟩]) <|
   .ret) (.skip)) <|
  .seq (.ops [⟨some 4, none, .mov (.c (.int .i64 0))⟩]) <|
  .ret
def v72 : VFunc := ⟨20, [.tmp 4], c72⟩
/-- slices.Equal[[]berthing/api.Container,berthing/api.Container] -/
def c73 : VCode :=
  .seq (.ops [⟨some 4, none, .mov (.c (.bool false))⟩]) <|
  .seq (.seq (.ops [⟨some 6, none, .mov (.t 0)⟩, ⟨some 7, none, .lenS (.t 6)⟩, ⟨some 8, none, .mov (.t 1)⟩, ⟨some 9, none, .lenS (.t 8)⟩, ⟨some 10, none, .bin .num .neq (.t 7) (.t 9)⟩]) <|
  .cond (.t 10) (.seq (.ops [⟨some 4, none, .mov (.c (.bool false))⟩]) <|
   .ret) (.skip)) <|
  .seq (.seq (.ops [⟨some 11, none, .mov (.t 0)⟩, ⟨some 12, none, .lenS (.t 11)⟩, ⟨some 13, none, .mov (.c (.int .i64 0))⟩]) <|
  .block 0 (.loop (.seq (.ops [⟨some 14, none, .bin .num .lss (.t 13) (.t 12)⟩]) <|
    .seq (.cond (.t 14) (.skip) (.exit 0)) <|
    .seq (.block 1 (.seq (.ops [⟨some 15, none, .mov (.t 13)⟩, ⟨some 5, none, .mov (.t 15)⟩]) <|
     .seq (.ops [⟨some 16, none, .mov (.t 0)⟩, ⟨some 17, none, .mov (.t 5)⟩, ⟨some 18, none, .idxAddrS 10 (.t 16) (.t 17)⟩, ⟨some 19, none, .loadN 10 (.t 18)⟩, ⟨some 20, none, .mov (.t 1)⟩, ⟨some 21, none, .mov (.t 5)⟩, ⟨some 22, none, .idxAddrS 10 (.t 20) (.t 21)⟩, ⟨some 23, none, .loadN 10 (.t 22)⟩, ⟨some 24, none, .bin (.agg [.s, .i, .i, .i, .i, .i, .i, .b, .b, .b]) .neq (.t 19) (.t 23)⟩]) <|
     .cond (.t 24) (.seq (.ops [⟨some 4, none, .mov (.c (.bool false))⟩]) <|
      .ret) (.skip))) <|
    .ops [⟨some 25, none, .bin .num .add (.t 13) (.c (.int .i64 1))⟩, ⟨some 13, none, .mov (.t 25)⟩]))) <|
  .seq (.ops [⟨some 4, none, .mov (.c (.bool true))⟩]) <|
  .ret
def v73 : VFunc := ⟨26, [.tmp 4], c73⟩
/-- berthing/checked.Zig -/
def c74 : VCode :=
  .seq (.ops [⟨some 2, none, .mov (.c (.int .u64 0))⟩]) <|
  .seq (.ops [⟨some 3, none, .mov (.t 0)⟩, ⟨some 4, none, .conv .u64 (.t 3)⟩, ⟨some 5, none, .bin .num .shl (.t 4) (.c (.int .u64 1))⟩, ⟨some 6, none, .mov (.t 0)⟩, ⟨some 7, none, .bin .num .shr (.t 6) (.c (.int .u64 63))⟩, ⟨some 8, none, .conv .u64 (.t 7)⟩, ⟨some 9, none, .bin .num .xor (.t 5) (.t 8)⟩, ⟨some 2, none, .mov (.t 9)⟩]) <|
  .ret
def v74 : VFunc := ⟨10, [.tmp 2], c74⟩
/-- slices.Clone[[]byte,byte] -/
def c75 : VCode :=
  .seq (.ops [⟨some 2, none, .mov (.c (.sl .nil 0 []))⟩]) <|
  .seq (.seq (.ops [⟨some 3, none, .mov (.t 0)⟩, ⟨some 4, none, .bin .sl .eql (.t 3) (.c (.sl .nil 0 []))⟩]) <|
  .cond (.t 4) (.seq (.ops [⟨some 2, none, .mov (.c (.sl .nil 0 []))⟩]) <|
   .ret) (.skip)) <|
  .seq (.ops [⟨some 5, none, .buildSlice false 1 0 [] []⟩, ⟨some 6, none, .mov (.t 0)⟩, ⟨some 7, none, .append false false 1 1 (.t 5) (.t 6)⟩, ⟨some 2, none, .mov (.t 7)⟩]) <|
  .ret
def v75 : VFunc := ⟨8, [.tmp 2], c75⟩
/-- (*berthing/tape.Reader).Number -/
def c76 : VCode :=
  .seq (.ops [⟨some 4, none, .mov (.c (.int .u64 0))⟩]) <|
  .seq (.seq (.ops [⟨some 7, none, .mov (.t 0)⟩, ⟨some 8, none, .bin .ptr .eql (.t 7) (.c .nilp)⟩, ⟨some 9, none, .mov (.t 8)⟩, ⟨some 10, some (9, false), .mov (.t 0)⟩, ⟨some 11, some (9, false), .nilCheck (.t 10)⟩, ⟨some 12, some (9, false), .fieldAddr 1 (.t 11)⟩, ⟨some 13, some (9, false), .load1 (.t 12)⟩, ⟨some 14, some (9, false), .bin .num .neq (.t 13) (.c (.int .i64 0))⟩, ⟨some 15, none, .pick (.t 9) (.c (.bool true)) (.t 14)⟩]) <|
  .cond (.t 15) (.seq (.ops [⟨some 4, none, .mov (.c (.int .u64 0))⟩]) <|
   .ret) (.skip)) <|
  .seq (.ops [⟨some 17, none, .mov (.t 0)⟩, ⟨some 18, none, .call .shared 91 [(.t 17)]⟩, ⟨some 16, none, .mov (.t 18)⟩, ⟨some 19, none, .extract 0 (.t 16)⟩, ⟨some 20, none, .extract 1 (.t 16)⟩, ⟨some 5, none, .mov (.t 19)⟩, ⟨some 6, none, .mov (.t 20)⟩]) <|
  .seq (.seq (.ops [⟨some 21, none, .mov (.t 6)⟩, ⟨some 22, none, .bin .num .eql (.t 21) (.c (.int .i64 0))⟩, ⟨some 23, none, .mov (.t 22)⟩, ⟨some 24, some (23, true), .mov (.t 5)⟩, ⟨some 25, some (23, true), .mov (.t 1)⟩, ⟨some 26, some (23, true), .bin .num .gtr (.t 24) (.t 25)⟩, ⟨some 27, none, .pick (.t 23) (.t 26) (.c (.bool false))⟩]) <|
  .cond (.t 27) (.ops [⟨some 6, none, .mov (.c (.int .i64 15))⟩]) (.skip)) <|
  .seq (.ops [⟨some 28, none, .mov (.t 0)⟩, ⟨some 29, none, .mov (.t 6)⟩, ⟨some 30, none, .call .shared 79 [(.t 28), (.t 29)]⟩]) <|
  .seq (.seq (.ops [⟨some 31, none, .mov (.t 6)⟩, ⟨some 32, none, .bin .num .neq (.t 31) (.c (.int .i64 0))⟩]) <|
  .cond (.t 32) (.seq (.ops [⟨some 4, none, .mov (.c (.int .u64 0))⟩]) <|
   .ret) (.skip)) <|
  .seq (.ops [⟨some 33, none, .mov (.t 5)⟩, ⟨some 4, none, .mov (.t 33)⟩]) <|
  .ret
def v76 : VFunc := ⟨34, [.tmp 4], c76⟩
/-- (*berthing/tape.Reader).Signed -/
def c77 : VCode :=
  .seq (.ops [⟨some 6, none, .mov (.c (.int .i64 0))⟩]) <|
  .seq (.ops [⟨some 8, none, .mov (.t 0)⟩, ⟨some 9, none, .call .shared 76 [(.t 8), (.c (.int .u64 18446744073709551615))]⟩, ⟨some 10, none, .call .pure 92 [(.t 9)]⟩, ⟨some 7, none, .mov (.t 10)⟩]) <|
  .seq (.seq (.ops [⟨some 11, none, .mov (.t 0)⟩, ⟨some 12, none, .bin .ptr .eql (.t 11) (.c .nilp)⟩, ⟨some 13, none, .mov (.t 12)⟩, ⟨some 14, some (13, false), .mov (.t 0)⟩, ⟨some 15, some (13, false), .nilCheck (.t 14)⟩, ⟨some 16, some (13, false), .fieldAddr 1 (.t 15)⟩, ⟨some 17, some (13, false), .load1 (.t 16)⟩, ⟨some 18, some (13, false), .bin .num .neq (.t 17) (.c (.int .i64 0))⟩, ⟨some 19, none, .pick (.t 13) (.c (.bool true)) (.t 18)⟩]) <|
  .cond (.t 19) (.seq (.ops [⟨some 6, none, .mov (.c (.int .i64 0))⟩]) <|
   .ret) (.skip)) <|
  .seq (.seq (.ops [⟨some 20, none, .mov (.t 7)⟩, ⟨some 21, none, .mov (.t 1)⟩, ⟨some 22, none, .bin .num .lss (.t 20) (.t 21)⟩, ⟨some 23, none, .mov (.t 22)⟩, ⟨some 24, some (23, false), .mov (.t 7)⟩, ⟨some 25, some (23, false), .mov (.t 2)⟩, ⟨some 26, some (23, false), .bin .num .gtr (.t 24) (.t 25)⟩, ⟨some 27, none, .pick (.t 23) (.c (.bool true)) (.t 26)⟩]) <|
  .cond (.t 27) (.seq (.ops [⟨some 28, none, .mov (.t 0)⟩, ⟨some 29, none, .call .shared 79 [(.t 28), (.c (.int .i64 15))]⟩]) <|
   .seq (.ops [⟨some 6, none, .mov (.c (.int .i64 0))⟩]) <|
   .ret) (.skip)) <|
  .seq (.ops [⟨some 30, none, .mov (.t 7)⟩, ⟨some 6, none, .mov (.t 30)⟩]) <|
  .ret
def v77 : VFunc := ⟨31, [.tmp 6], c77⟩
/-- berthing/record.container -/
def c78 : VCode :=
  .seq (.ops [⟨some 2, none, .alloc [(.str ⟨#[]⟩), (.int .i64 0), (.int .i64 0), (.int .i64 0), (.int .i64 0), (.int .i64 0), (.int .i64 0), (.bool false), (.bool false), (.bool false)]⟩, ⟨some 3, none, .alloc [(.str ⟨#[]⟩), (.int .i64 0), (.int .i64 0), (.int .i64 0), (.int .i64 0), (.int .i64 0), (.int .i64 0), (.bool false), (.bool false), (.bool false)]⟩]) <|
  .seq (.ops [⟨some 7, none, .mov (.t 0)⟩, ⟨some 8, none, .call .shared 55 [(.t 7), (.c (.int .i64 16))]⟩, ⟨some 9, none, .build [(.str ⟨#[]⟩), (.int .i64 0), (.int .i64 0), (.int .i64 0), (.int .i64 0), (.int .i64 0), (.int .i64 0), (.bool false), (.bool false), (.bool false)] [(0, 1, (.t 8))]⟩, ⟨some 4, none, .alloc [(.str ⟨#[]⟩), (.int .i64 0), (.int .i64 0), (.int .i64 0), (.int .i64 0), (.int .i64 0), (.int .i64 0), (.bool false), (.bool false), (.bool false)]⟩, ⟨none, none, .storeN 10 (.t 4) (.t 9)⟩]) <|
  .seq (.seq (.ops [⟨some 10, none, .mov (.c (.int .i64 0))⟩]) <|
  .block 0 (.loop (.seq (.ops [⟨some 11, none, .bin .num .lss (.t 10) (.c (.int .i64 3))⟩]) <|
    .seq (.cond (.t 11) (.skip) (.exit 0)) <|
    .seq (.block 1 (.seq (.ops [⟨some 12, none, .mov (.t 10)⟩, ⟨some 5, none, .mov (.t 12)⟩]) <|
     .ops [⟨some 13, none, .mov (.t 5)⟩, ⟨some 14, none, .mov (.t 0)⟩, ⟨some 15, none, .call .shared 93 [(.t 14)]⟩, ⟨some 16, none, .fieldAddr 7 (.t 4)⟩, ⟨some 17, none, .idxAddrA 3 1 (.t 16) (.t 13)⟩, ⟨none, none, .store1 (.t 17) (.t 15)⟩])) <|
    .ops [⟨some 18, none, .bin .num .add (.t 10) (.c (.int .i64 1))⟩, ⟨some 10, none, .mov (.t 18)⟩]))) <|
  .seq (.ops [⟨some 19, none, .loadN 10 (.t 4)⟩, ⟨some 6, none, .alloc [(.str ⟨#[]⟩), (.int .i64 0), (.int .i64 0), (.int .i64 0), (.int .i64 0), (.int .i64 0), (.int .i64 0), (.bool false), (.bool false), (.bool false)]⟩, ⟨none, none, .storeN 10 (.t 6) (.t 19)⟩]) <|
  .seq (.ops [⟨some 20, none, .mov (.t 0)⟩, ⟨some 21, none, .call .shared 94 [(.t 20)]⟩, ⟨some 22, none, .mov (.t 0)⟩, ⟨some 23, none, .call .shared 94 [(.t 22)]⟩, ⟨some 24, none, .fieldAddr 1 (.t 4)⟩, ⟨none, none, .storeN 3 (.t 24) (.t 21)⟩, ⟨some 25, none, .fieldAddr 4 (.t 4)⟩, ⟨none, none, .storeN 3 (.t 25) (.t 23)⟩]) <|
  .seq (.ops [⟨some 26, none, .mov (.t 0)⟩, ⟨some 27, none, .call .shared 94 [(.t 26)]⟩, ⟨some 28, none, .mov (.t 0)⟩, ⟨some 29, none, .call .shared 94 [(.t 28)]⟩, ⟨some 30, none, .fieldAddr 1 (.t 6)⟩, ⟨none, none, .storeN 3 (.t 30) (.t 27)⟩, ⟨some 31, none, .fieldAddr 4 (.t 6)⟩, ⟨none, none, .storeN 3 (.t 31) (.t 29)⟩]) <|
  .seq (.draw [] [⟨some 32, none, .loadN 10 (.t 4)⟩, ⟨some 33, none, .loadN 10 (.t 6)⟩, ⟨none, none, .storeN 10 (.t 2) (.t 32)⟩, ⟨none, none, .storeN 10 (.t 3) (.t 33)⟩] [(1, 2)]) <|
  .ret
def v78 : VFunc := ⟨34, [.cellN 10 2, .cellN 10 3], c78⟩
/-- (*berthing/tape.Reader).Fail -/
def c79 : VCode :=
  .seq (.ops [⟨some 4, none, .mov (.t 0)⟩, ⟨some 5, none, .bin .ptr .neq (.t 4) (.c .nilp)⟩, ⟨some 6, none, .mov (.t 5)⟩, ⟨some 7, some (6, true), .mov (.t 0)⟩, ⟨some 8, some (6, true), .nilCheck (.t 7)⟩, ⟨some 9, some (6, true), .fieldAddr 1 (.t 8)⟩, ⟨some 10, some (6, true), .load1 (.t 9)⟩, ⟨some 11, some (6, true), .bin .num .eql (.t 10) (.c (.int .i64 0))⟩, ⟨some 12, none, .pick (.t 6) (.t 11) (.c (.bool false))⟩, ⟨some 13, none, .mov (.t 12)⟩, ⟨some 14, some (13, true), .mov (.t 1)⟩, ⟨some 15, some (13, true), .bin .num .neq (.t 14) (.c (.int .i64 0))⟩, ⟨some 16, none, .pick (.t 13) (.t 15) (.c (.bool false))⟩]) <|
  .cond (.t 16) (.ops [⟨some 17, none, .mov (.t 0)⟩, ⟨some 18, none, .mov (.t 0)⟩, ⟨some 19, none, .mov (.t 1)⟩, ⟨some 20, none, .nilCheck (.t 17)⟩, ⟨some 21, none, .fieldAddr 0 (.t 20)⟩, ⟨none, none, .store1 (.t 21) (.c (.sl .nil 0 []))⟩, ⟨some 22, none, .nilCheck (.t 18)⟩, ⟨some 23, none, .fieldAddr 1 (.t 22)⟩, ⟨none, none, .store1 (.t 23) (.t 19)⟩]) (.skip)
def v79 : VFunc := ⟨24, [], c79⟩
/-- (*berthing/tape.Reader).Left -/
def c80 : VCode :=
  .seq (.ops [⟨some 2, none, .mov (.c (.int .i64 0))⟩]) <|
  .seq (.seq (.ops [⟨some 3, none, .mov (.t 0)⟩, ⟨some 4, none, .bin .ptr .eql (.t 3) (.c .nilp)⟩]) <|
  .cond (.t 4) (.seq (.ops [⟨some 2, none, .mov (.c (.int .i64 0))⟩]) <|
   .ret) (.skip)) <|
  .seq (.ops [⟨some 5, none, .mov (.t 0)⟩, ⟨some 6, none, .nilCheck (.t 5)⟩, ⟨some 7, none, .fieldAddr 0 (.t 6)⟩, ⟨some 8, none, .load1 (.t 7)⟩, ⟨some 9, none, .lenS (.t 8)⟩, ⟨some 2, none, .mov (.t 9)⟩]) <|
  .ret
def v80 : VFunc := ⟨10, [.tmp 2], c80⟩
/-- (*berthing/tape.Reader).Err -/
def c81 : VCode :=
  .seq (.ops [⟨some 2, none, .mov (.c (.int .i64 0))⟩]) <|
  .seq (.seq (.ops [⟨some 3, none, .mov (.t 0)⟩, ⟨some 4, none, .bin .ptr .eql (.t 3) (.c .nilp)⟩]) <|
  .cond (.t 4) (.seq (.ops [⟨some 2, none, .mov (.c (.int .i64 1))⟩]) <|
   .ret) (.skip)) <|
  .seq (.ops [⟨some 5, none, .mov (.t 0)⟩, ⟨some 6, none, .nilCheck (.t 5)⟩, ⟨some 7, none, .fieldAddr 1 (.t 6)⟩, ⟨some 8, none, .load1 (.t 7)⟩, ⟨some 2, none, .mov (.t 8)⟩]) <|
  .ret
def v81 : VFunc := ⟨9, [.tmp 2], c81⟩
/-- slices.IndexFunc[[]berthing/api.Container,berthing/api.Container] -/
def c82 : VCode :=
  .seq (.ops [⟨some 4, none, .mov (.c (.int .i64 0))⟩]) <|
  .seq (.seq (.ops [⟨some 6, none, .mov (.t 0)⟩, ⟨some 7, none, .lenS (.t 6)⟩, ⟨some 8, none, .mov (.c (.int .i64 0))⟩]) <|
  .block 0 (.loop (.seq (.ops [⟨some 9, none, .bin .num .lss (.t 8) (.t 7)⟩]) <|
    .seq (.cond (.t 9) (.skip) (.exit 0)) <|
    .seq (.block 1 (.seq (.ops [⟨some 10, none, .mov (.t 8)⟩, ⟨some 5, none, .mov (.t 10)⟩]) <|
     .seq (.ops [⟨some 11, none, .mov (.t 1)⟩, ⟨some 12, none, .mov (.t 0)⟩, ⟨some 13, none, .mov (.t 5)⟩, ⟨some 14, none, .idxAddrS 10 (.t 12) (.t 13)⟩, ⟨some 15, none, .loadN 10 (.t 14)⟩, ⟨some 16, none, .callV (.t 11) [(.t 15)]⟩]) <|
     .cond (.t 16) (.seq (.ops [⟨some 17, none, .mov (.t 5)⟩, ⟨some 4, none, .mov (.t 17)⟩]) <|
      .ret) (.skip))) <|
    .ops [⟨some 18, none, .bin .num .add (.t 8) (.c (.int .i64 1))⟩, ⟨some 8, none, .mov (.t 18)⟩]))) <|
  .seq (.ops [⟨some 4, none, .mov (.c (.int .i64 (-1)))⟩]) <|
  .ret
def v82 : VFunc := ⟨19, [.tmp 4], c82⟩
/-- berthing/spec.Find$1 -/
def c83 : VCode :=
  .seq (.ops [⟨some 2, none, .box (.t 0)⟩, ⟨some 3, none, .mov (.c (.bool false))⟩]) <|
  .seq (.ops [⟨some 4, none, .fieldAddr 0 (.t 2)⟩, ⟨some 5, none, .load1 (.t 4)⟩, ⟨some 6, none, .load1 (.t 1)⟩, ⟨some 7, none, .bin .num .eql (.t 5) (.t 6)⟩, ⟨some 3, none, .mov (.t 7)⟩]) <|
  .ret
def v83 : VFunc := ⟨8, [.tmp 3], c83⟩
/-- berthing/vector.Right -/
def c84 : VCode :=
  .seq (.ops [⟨some 1, none, .box (.t 0)⟩, ⟨some 2, none, .mov (.c (.bool false))⟩]) <|
  .seq (.seq (.ops [⟨some 5, none, .loadN 3 (.t 1)⟩, ⟨some 6, none, .call .pure 95 [(.t 5)]⟩, ⟨some 7, none, .mov (.c (.int .i64 0))⟩]) <|
  .block 0 (.loop (.seq (.ops [⟨some 8, none, .bin .num .lss (.t 7) (.c (.int .i64 3))⟩]) <|
    .seq (.cond (.t 8) (.skip) (.exit 0)) <|
    .seq (.block 1 (.seq (.ops [⟨some 9, none, .mov (.t 7)⟩, ⟨some 10, none, .idxA1 3 (.t 6) (.t 7)⟩, ⟨some 3, none, .mov (.t 9)⟩, ⟨some 4, none, .mov (.t 10)⟩]) <|
     .seq (.ops [⟨some 11, none, .mov (.t 3)⟩, ⟨some 12, none, .mov (.t 4)⟩, ⟨some 13, none, .call .pure 96 [(.t 11), (.t 12)]⟩, ⟨some 14, none, .un .not (.t 13)⟩]) <|
     .cond (.t 14) (.seq (.ops [⟨some 2, none, .mov (.c (.bool false))⟩]) <|
      .ret) (.skip))) <|
    .ops [⟨some 15, none, .bin .num .add (.t 7) (.c (.int .i64 1))⟩, ⟨some 7, none, .mov (.t 15)⟩]))) <|
  .seq (.ops [⟨some 16, none, .fieldAddr 2 (.t 1)⟩, ⟨some 17, none, .load1 (.t 16)⟩, ⟨some 18, none, .bin .num .and (.t 17) (.c (.int .i64 2097151))⟩, ⟨some 19, none, .bin .num .eql (.t 18) (.c (.int .i64 0))⟩, ⟨some 2, none, .mov (.t 19)⟩]) <|
  .ret
def v84 : VFunc := ⟨20, [.tmp 2], c84⟩
/-- berthing/vector.At -/
def c85 : VCode :=
  .seq (.ops [⟨some 2, none, .box (.t 0)⟩, ⟨some 4, none, .mov (.c (.int .i64 0))⟩]) <|
  .seq (.seq (.ops [⟨some 5, none, .mov (.t 1)⟩, ⟨some 6, none, .bin .num .lss (.t 5) (.c (.int .i64 0))⟩, ⟨some 7, none, .mov (.t 6)⟩, ⟨some 8, some (7, false), .mov (.t 1)⟩, ⟨some 9, some (7, false), .bin .num .gtr (.t 8) (.c (.int .i64 2))⟩, ⟨some 10, none, .pick (.t 7) (.c (.bool true)) (.t 9)⟩]) <|
  .cond (.t 10) (.seq (.ops [⟨some 4, none, .mov (.c (.int .i64 0))⟩]) <|
   .ret) (.skip)) <|
  .seq (.ops [⟨some 11, none, .loadN 3 (.t 2)⟩, ⟨some 12, none, .call .pure 95 [(.t 11)]⟩, ⟨some 13, none, .mov (.t 1)⟩, ⟨some 14, none, .idxA1 3 (.t 12) (.t 13)⟩, ⟨some 4, none, .mov (.t 14)⟩]) <|
  .ret
def v85 : VFunc := ⟨15, [.tmp 4], c85⟩
/-- berthing/vector.Sum -/
def c86 : VCode :=
  .seq (.ops [⟨some 2, none, .alloc [(.int .i64 0), (.int .i64 0), (.int .i64 0)]⟩, ⟨some 3, none, .mov (.c (.bool false))⟩]) <|
  .seq (.ops [⟨some 4, none, .alloc [(.int .i64 0), (.int .i64 0), (.int .i64 0)]⟩]) <|
  .seq (.seq (.ops [⟨some 9, none, .mov (.t 0)⟩, ⟨some 10, none, .lenS (.t 9)⟩, ⟨some 11, none, .mov (.c (.int .i64 0))⟩]) <|
  .block 0 (.loop (.seq (.ops [⟨some 12, none, .bin .num .lss (.t 11) (.t 10)⟩]) <|
    .seq (.cond (.t 12) (.skip) (.exit 0)) <|
    .seq (.block 1 (.seq (.ops [⟨some 13, none, .idxAddrS 3 (.t 9) (.t 11)⟩, ⟨some 14, none, .loadN 3 (.t 13)⟩, ⟨some 6, none, .alloc [(.int .i64 0), (.int .i64 0), (.int .i64 0)]⟩, ⟨none, none, .storeN 3 (.t 6) (.t 14)⟩]) <|
     .seq (.ops [⟨some 16, none, .loadN 3 (.t 4)⟩, ⟨some 17, none, .loadN 3 (.t 6)⟩, ⟨some 18, none, .call .pure 97 [(.t 16), (.t 17)]⟩, ⟨some 15, none, .mov (.t 18)⟩, ⟨some 19, none, .extract 0 (.t 15)⟩, ⟨some 20, none, .extract 1 (.t 15)⟩, ⟨some 7, none, .alloc [(.int .i64 0), (.int .i64 0), (.int .i64 0)]⟩, ⟨none, none, .storeN 3 (.t 7) (.t 19)⟩, ⟨some 8, none, .mov (.t 20)⟩]) <|
     .seq (.seq (.ops [⟨some 21, none, .mov (.t 8)⟩, ⟨some 22, none, .un .not (.t 21)⟩]) <|
     .cond (.t 22) (.seq (.ops [⟨some 23, none, .build [(.int .i64 0), (.int .i64 0), (.int .i64 0)] []⟩, ⟨none, none, .storeN 3 (.t 2) (.t 23)⟩, ⟨some 3, none, .mov (.c (.bool false))⟩]) <|
      .ret) (.skip)) <|
     .ops [⟨some 24, none, .loadN 3 (.t 7)⟩, ⟨none, none, .storeN 3 (.t 4) (.t 24)⟩])) <|
    .ops [⟨some 25, none, .bin .num .add (.t 11) (.c (.int .i64 1))⟩, ⟨some 11, none, .mov (.t 25)⟩]))) <|
  .seq (.ops [⟨some 26, none, .loadN 3 (.t 4)⟩, ⟨none, none, .storeN 3 (.t 2) (.t 26)⟩, ⟨some 3, none, .mov (.c (.bool true))⟩]) <|
  .ret
def v86 : VFunc := ⟨27, [.cellN 3 2, .tmp 3], c86⟩
/-- berthing/berthingref04.Right -/
def c87 : VCode :=
  .seq (.ops [⟨some 1, none, .box (.t 0)⟩, ⟨some 2, none, .mov (.c (.bool false))⟩]) <|
  .seq (.ops [⟨some 3, none, .fieldAddr 0 (.t 1)⟩, ⟨some 4, none, .load1 (.t 3)⟩, ⟨some 5, none, .bin .num .geq (.t 4) (.c (.int .i64 0))⟩, ⟨some 6, none, .mov (.t 5)⟩, ⟨some 7, some (6, true), .fieldAddr 0 (.t 1)⟩, ⟨some 8, some (6, true), .load1 (.t 7)⟩, ⟨some 9, some (6, true), .bin .num .leq (.t 8) (.c (.int .i64 1099511627776))⟩, ⟨some 10, none, .pick (.t 6) (.t 9) (.c (.bool false))⟩, ⟨some 11, none, .mov (.t 10)⟩, ⟨some 12, some (11, true), .fieldAddr 1 (.t 1)⟩, ⟨some 13, some (11, true), .load1 (.t 12)⟩, ⟨some 14, some (11, true), .bin .num .geq (.t 13) (.c (.int .i64 0))⟩, ⟨some 15, none, .pick (.t 11) (.t 14) (.c (.bool false))⟩, ⟨some 16, none, .mov (.t 15)⟩, ⟨some 17, some (16, true), .fieldAddr 1 (.t 1)⟩, ⟨some 18, some (16, true), .load1 (.t 17)⟩, ⟨some 19, some (16, true), .bin .num .leq (.t 18) (.c (.int .i64 1125899906842624))⟩, ⟨some 20, none, .pick (.t 16) (.t 19) (.c (.bool false))⟩, ⟨some 21, none, .mov (.t 20)⟩, ⟨some 22, some (21, true), .fieldAddr 2 (.t 1)⟩, ⟨some 23, some (21, true), .load1 (.t 22)⟩, ⟨some 24, some (21, true), .bin .num .geq (.t 23) (.c (.int .i64 0))⟩, ⟨some 25, none, .pick (.t 21) (.t 24) (.c (.bool false))⟩, ⟨some 26, none, .mov (.t 25)⟩, ⟨some 27, some (26, true), .fieldAddr 2 (.t 1)⟩, ⟨some 28, some (26, true), .load1 (.t 27)⟩, ⟨some 29, some (26, true), .bin .num .leq (.t 28) (.c (.int .i64 1125899906842624))⟩, ⟨some 30, none, .pick (.t 26) (.t 29) (.c (.bool false))⟩, ⟨some 31, none, .mov (.t 30)⟩, ⟨some 32, some (31, true), .fieldAddr 2 (.t 1)⟩, ⟨some 33, some (31, true), .load1 (.t 32)⟩, ⟨some 34, some (31, true), .bin .num .rem (.t 33) (.c (.int .i64 2097152))⟩, ⟨some 35, some (31, true), .bin .num .eql (.t 34) (.c (.int .i64 0))⟩, ⟨some 36, none, .pick (.t 31) (.t 35) (.c (.bool false))⟩, ⟨some 2, none, .mov (.t 36)⟩]) <|
  .ret
def v87 : VFunc := ⟨37, [.tmp 2], c87⟩
/-- berthing/berthingref04.Sum -/
def c88 : VCode :=
  .seq (.ops [⟨some 2, none, .alloc [(.int .i64 0), (.int .i64 0), (.int .i64 0)]⟩, ⟨some 3, none, .mov (.c (.bool false))⟩]) <|
  .seq (.ops [⟨some 8, none, .build [(.int .i64 0), (.int .i64 0), (.int .i64 0)] []⟩, ⟨some 4, none, .alloc [(.int .i64 0), (.int .i64 0), (.int .i64 0)]⟩, ⟨none, none, .storeN 3 (.t 4) (.t 8)⟩, ⟨some 5, none, .mov (.c (.bool true))⟩]) <|
  .seq (.seq (.ops [⟨some 9, none, .mov (.t 0)⟩, ⟨some 10, none, .lenS (.t 9)⟩, ⟨some 11, none, .mov (.c (.int .i64 0))⟩]) <|
  .block 0 (.loop (.seq (.ops [⟨some 12, none, .bin .num .lss (.t 11) (.t 10)⟩]) <|
    .seq (.cond (.t 12) (.skip) (.exit 0)) <|
    .seq (.block 1 (.seq (.ops [⟨some 13, none, .idxAddrS 3 (.t 9) (.t 11)⟩, ⟨some 14, none, .loadN 3 (.t 13)⟩, ⟨some 7, none, .alloc [(.int .i64 0), (.int .i64 0), (.int .i64 0)]⟩, ⟨none, none, .storeN 3 (.t 7) (.t 14)⟩]) <|
     .seq (.ops [⟨some 15, none, .mov (.t 5)⟩]) <|
     .cond (.t 15) (.ops [⟨some 17, none, .loadN 3 (.t 4)⟩, ⟨some 18, none, .loadN 3 (.t 7)⟩, ⟨some 19, none, .call .pure 98 [(.t 17), (.t 18)]⟩, ⟨some 16, none, .mov (.t 19)⟩, ⟨some 20, none, .extract 0 (.t 16)⟩, ⟨some 21, none, .extract 1 (.t 16)⟩, ⟨none, none, .storeN 3 (.t 4) (.t 20)⟩, ⟨some 5, none, .mov (.t 21)⟩]) (.skip))) <|
    .ops [⟨some 22, none, .bin .num .add (.t 11) (.c (.int .i64 1))⟩, ⟨some 11, none, .mov (.t 22)⟩]))) <|
  .seq (.ops [⟨some 23, none, .loadN 3 (.t 4)⟩, ⟨some 24, none, .mov (.t 5)⟩, ⟨none, none, .storeN 3 (.t 2) (.t 23)⟩, ⟨some 3, none, .mov (.t 24)⟩]) <|
  .ret
def v88 : VFunc := ⟨25, [.cellN 3 2, .tmp 3], c88⟩
/-- cmp.isNaN[string] -/
def c89 : VCode :=
  .seq (.ops [⟨some 2, none, .mov (.c (.bool false))⟩]) <|
  .seq (.ops [⟨some 3, none, .mov (.t 0)⟩, ⟨some 4, none, .mov (.t 0)⟩, ⟨some 5, none, .bin .num .neq (.t 3) (.t 4)⟩, ⟨some 2, none, .mov (.t 5)⟩]) <|
  .ret
def v89 : VFunc := ⟨6, [.tmp 2], c89⟩
/-- cmp.isNaN[int] -/
def c90 : VCode :=
  .seq (.ops [⟨some 2, none, .mov (.c (.bool false))⟩]) <|
  .seq (.ops [⟨some 3, none, .mov (.t 0)⟩, ⟨some 4, none, .mov (.t 0)⟩, ⟨some 5, none, .bin .num .neq (.t 3) (.t 4)⟩, ⟨some 2, none, .mov (.t 5)⟩]) <|
  .ret
def v90 : VFunc := ⟨6, [.tmp 2], c90⟩
/-- (*berthing/tape.Reader).number -/
def c91 : VCode :=
  .seq (.ops [⟨some 2, none, .mov (.c (.int .u64 0))⟩, ⟨some 3, none, .mov (.c (.int .i64 0))⟩]) <|
  .seq (.ops [⟨some 4, none, .mov (.c (.int .u64 0))⟩]) <|
  .seq (.seq (.ops [⟨some 7, none, .mov (.t 0)⟩, ⟨some 8, none, .nilCheck (.t 7)⟩, ⟨some 9, none, .fieldAddr 0 (.t 8)⟩, ⟨some 10, none, .load1 (.t 9)⟩, ⟨some 11, none, .lenS (.t 10)⟩, ⟨some 12, none, .mov (.c (.int .i64 0))⟩]) <|
  .block 0 (.loop (.seq (.ops [⟨some 13, none, .bin .num .lss (.t 12) (.t 11)⟩]) <|
    .seq (.cond (.t 13) (.skip) (.exit 0)) <|
    .seq (.block 1 (.seq (.ops [⟨some 14, none, .mov (.t 12)⟩, ⟨some 15, none, .idxAddrS 1 (.t 10) (.t 12)⟩, ⟨some 16, none, .load1 (.t 15)⟩, ⟨some 5, none, .mov (.t 14)⟩, ⟨some 6, none, .mov (.t 16)⟩]) <|
     .seq (.ops [⟨some 17, none, .mov (.t 4)⟩, ⟨some 18, none, .mov (.t 6)⟩, ⟨some 19, none, .bin .num .andNot (.t 18) (.c (.int .u8 128))⟩, ⟨some 20, none, .conv .u64 (.t 19)⟩, ⟨some 21, none, .mov (.t 5)⟩, ⟨some 22, none, .bin .num .mul (.c (.int .i64 7)) (.t 21)⟩, ⟨some 23, none, .bin .num .shl (.t 20) (.t 22)⟩, ⟨some 24, none, .bin .num .or (.t 17) (.t 23)⟩, ⟨some 4, none, .mov (.t 24)⟩]) <|
     .block 2 (.seq (.ops [⟨some 26, none, .mov (.t 5)⟩, ⟨some 27, none, .bin .num .eql (.t 26) (.c (.int .i64 9))⟩, ⟨some 28, none, .mov (.t 27)⟩, ⟨some 29, some (28, true), .mov (.t 6)⟩, ⟨some 30, some (28, true), .bin .num .gtr (.t 29) (.c (.int .u8 1))⟩, ⟨some 31, none, .pick (.t 28) (.t 30) (.c (.bool false))⟩, ⟨some 25, none, .mov (.t 31)⟩]) <|
      .cond (.t 25) (.seq (.ops [⟨some 2, none, .mov (.c (.int .u64 0))⟩, ⟨some 3, none, .mov (.c (.int .i64 11))⟩]) <|
       .ret) (.seq (.ops [⟨some 33, none, .mov (.t 6)⟩, ⟨some 34, none, .bin .num .lss (.t 33) (.c (.int .u8 128))⟩, ⟨some 35, none, .mov (.t 34)⟩, ⟨some 36, some (35, true), .mov (.t 6)⟩, ⟨some 37, some (35, true), .bin .num .eql (.t 36) (.c (.int .u8 0))⟩, ⟨some 38, none, .pick (.t 35) (.t 37) (.c (.bool false))⟩, ⟨some 39, none, .mov (.t 38)⟩, ⟨some 40, some (39, true), .mov (.t 5)⟩, ⟨some 41, some (39, true), .bin .num .gtr (.t 40) (.c (.int .i64 0))⟩, ⟨some 42, none, .pick (.t 39) (.t 41) (.c (.bool false))⟩, ⟨some 32, none, .mov (.t 42)⟩]) <|
       .cond (.t 32) (.seq (.ops [⟨some 2, none, .mov (.c (.int .u64 0))⟩, ⟨some 3, none, .mov (.c (.int .i64 11))⟩]) <|
        .ret) (.seq (.ops [⟨some 44, none, .mov (.t 6)⟩, ⟨some 45, none, .bin .num .lss (.t 44) (.c (.int .u8 128))⟩, ⟨some 43, none, .mov (.t 45)⟩]) <|
        .cond (.t 43) (.seq (.ops [⟨some 46, none, .mov (.t 0)⟩, ⟨some 47, none, .mov (.t 0)⟩, ⟨some 48, none, .nilCheck (.t 47)⟩, ⟨some 49, none, .fieldAddr 0 (.t 48)⟩, ⟨some 50, none, .load1 (.t 49)⟩, ⟨some 51, none, .mov (.t 5)⟩, ⟨some 52, none, .bin .num .add (.t 51) (.c (.int .i64 1))⟩, ⟨some 53, none, .sliceS 1 (.t 50) (some (.t 52)) none none⟩, ⟨some 54, none, .nilCheck (.t 46)⟩, ⟨some 55, none, .fieldAddr 0 (.t 54)⟩, ⟨none, none, .store1 (.t 55) (.t 53)⟩]) <|
         .seq (.ops [⟨some 56, none, .mov (.t 4)⟩, ⟨some 2, none, .mov (.t 56)⟩, ⟨some 3, none, .mov (.c (.int .i64 0))⟩]) <|
         .ret) (.skip)))))) <|
    .ops [⟨some 57, none, .bin .num .add (.t 12) (.c (.int .i64 1))⟩, ⟨some 12, none, .mov (.t 57)⟩]))) <|
  .seq (.ops [⟨some 2, none, .mov (.c (.int .u64 0))⟩, ⟨some 3, none, .mov (.c (.int .i64 10))⟩]) <|
  .ret
def v91 : VFunc := ⟨58, [.tmp 2, .tmp 3], c91⟩
/-- berthing/checked.Zag -/
def c92 : VCode :=
  .seq (.ops [⟨some 2, none, .mov (.c (.int .i64 0))⟩]) <|
  .seq (.ops [⟨some 3, none, .mov (.t 0)⟩, ⟨some 4, none, .bin .num .shr (.t 3) (.c (.int .u64 1))⟩, ⟨some 5, none, .conv .i64 (.t 4)⟩, ⟨some 6, none, .mov (.t 0)⟩, ⟨some 7, none, .bin .num .and (.t 6) (.c (.int .u64 1))⟩, ⟨some 8, none, .conv .i64 (.t 7)⟩, ⟨some 9, none, .un .neg (.t 8)⟩, ⟨some 10, none, .bin .num .xor (.t 5) (.t 9)⟩, ⟨some 2, none, .mov (.t 10)⟩]) <|
  .ret
def v92 : VFunc := ⟨11, [.tmp 2], c92⟩
/-- (*berthing/tape.Reader).Flag -/
def c93 : VCode :=
  .seq (.ops [⟨some 2, none, .mov (.c (.bool false))⟩]) <|
  .seq (.seq (.ops [⟨some 4, none, .mov (.t 0)⟩, ⟨some 5, none, .bin .ptr .eql (.t 4) (.c .nilp)⟩, ⟨some 6, none, .mov (.t 5)⟩, ⟨some 7, some (6, false), .mov (.t 0)⟩, ⟨some 8, some (6, false), .nilCheck (.t 7)⟩, ⟨some 9, some (6, false), .fieldAddr 1 (.t 8)⟩, ⟨some 10, some (6, false), .load1 (.t 9)⟩, ⟨some 11, some (6, false), .bin .num .neq (.t 10) (.c (.int .i64 0))⟩, ⟨some 12, none, .pick (.t 6) (.c (.bool true)) (.t 11)⟩]) <|
  .cond (.t 12) (.seq (.ops [⟨some 2, none, .mov (.c (.bool false))⟩]) <|
   .ret) (.skip)) <|
  .seq (.block 0 (.seq (.ops [⟨some 14, none, .mov (.t 0)⟩, ⟨some 15, none, .nilCheck (.t 14)⟩, ⟨some 16, none, .fieldAddr 0 (.t 15)⟩, ⟨some 17, none, .load1 (.t 16)⟩, ⟨some 18, none, .lenS (.t 17)⟩, ⟨some 19, none, .bin .num .eql (.t 18) (.c (.int .i64 0))⟩, ⟨some 13, none, .mov (.t 19)⟩]) <|
   .cond (.t 13) (.seq (.ops [⟨some 20, none, .mov (.t 0)⟩, ⟨some 21, none, .call .shared 79 [(.t 20), (.c (.int .i64 10))]⟩]) <|
    .seq (.ops [⟨some 2, none, .mov (.c (.bool false))⟩]) <|
    .ret) (.seq (.ops [⟨some 23, none, .mov (.t 0)⟩, ⟨some 24, none, .nilCheck (.t 23)⟩, ⟨some 25, none, .fieldAddr 0 (.t 24)⟩, ⟨some 26, none, .load1 (.t 25)⟩, ⟨some 27, none, .idxAddrS 1 (.t 26) (.c (.int .i64 0))⟩, ⟨some 28, none, .load1 (.t 27)⟩, ⟨some 29, none, .bin .num .gtr (.t 28) (.c (.int .u8 1))⟩, ⟨some 22, none, .mov (.t 29)⟩]) <|
    .cond (.t 22) (.seq (.ops [⟨some 30, none, .mov (.t 0)⟩, ⟨some 31, none, .call .shared 79 [(.t 30), (.c (.int .i64 11))]⟩]) <|
     .seq (.ops [⟨some 2, none, .mov (.c (.bool false))⟩]) <|
     .ret) (.skip)))) <|
  .seq (.ops [⟨some 32, none, .mov (.t 0)⟩, ⟨some 33, none, .nilCheck (.t 32)⟩, ⟨some 34, none, .fieldAddr 0 (.t 33)⟩, ⟨some 35, none, .load1 (.t 34)⟩, ⟨some 36, none, .idxAddrS 1 (.t 35) (.c (.int .i64 0))⟩, ⟨some 37, none, .load1 (.t 36)⟩, ⟨some 38, none, .bin .num .eql (.t 37) (.c (.int .u8 1))⟩, ⟨some 3, none, .mov (.t 38)⟩]) <|
  .seq (.ops [⟨some 39, none, .mov (.t 0)⟩, ⟨some 40, none, .mov (.t 0)⟩, ⟨some 41, none, .nilCheck (.t 40)⟩, ⟨some 42, none, .fieldAddr 0 (.t 41)⟩, ⟨some 43, none, .load1 (.t 42)⟩, ⟨some 44, none, .sliceS 1 (.t 43) (some (.c (.int .i64 1))) none none⟩, ⟨some 45, none, .nilCheck (.t 39)⟩, ⟨some 46, none, .fieldAddr 0 (.t 45)⟩, ⟨none, none, .store1 (.t 46) (.t 44)⟩]) <|
  .seq (.ops [⟨some 47, none, .mov (.t 3)⟩, ⟨some 2, none, .mov (.t 47)⟩]) <|
  .ret
def v93 : VFunc := ⟨48, [.tmp 2], c93⟩
/-- berthing/record.vector -/
def c94 : VCode :=
  .seq (.ops [⟨some 2, none, .alloc [(.int .i64 0), (.int .i64 0), (.int .i64 0)]⟩]) <|
  .seq (.ops [⟨some 3, none, .mov (.t 0)⟩, ⟨some 4, none, .call .shared 53 [(.t 3), (.c (.int .i64 1099511627776))]⟩, ⟨some 5, none, .mov (.t 0)⟩, ⟨some 6, none, .call .shared 53 [(.t 5), (.c (.int .i64 1125899906842624))]⟩, ⟨some 7, none, .mov (.t 0)⟩, ⟨some 8, none, .call .shared 53 [(.t 7), (.c (.int .i64 1125899906842624))]⟩, ⟨some 9, none, .build [(.int .i64 0), (.int .i64 0), (.int .i64 0)] [(0, 1, (.t 4)), (1, 1, (.t 6)), (2, 1, (.t 8))]⟩, ⟨none, none, .storeN 3 (.t 2) (.t 9)⟩]) <|
  .ret
def v94 : VFunc := ⟨10, [.cellN 3 2], c94⟩
/-- berthing/vector.parts -/
def c95 : VCode :=
  .seq (.ops [⟨some 1, none, .box (.t 0)⟩, ⟨some 2, none, .alloc [(.int .i64 0), (.int .i64 0), (.int .i64 0)]⟩]) <|
  .seq (.ops [⟨some 3, none, .fieldAddr 0 (.t 1)⟩, ⟨some 4, none, .load1 (.t 3)⟩, ⟨some 5, none, .fieldAddr 1 (.t 1)⟩, ⟨some 6, none, .load1 (.t 5)⟩, ⟨some 7, none, .fieldAddr 2 (.t 1)⟩, ⟨some 8, none, .load1 (.t 7)⟩, ⟨some 9, none, .build [(.int .i64 0), (.int .i64 0), (.int .i64 0)] [(0, 1, (.t 4)), (1, 1, (.t 6)), (2, 1, (.t 8))]⟩, ⟨none, none, .storeN 3 (.t 2) (.t 9)⟩]) <|
  .ret
def v95 : VFunc := ⟨10, [.cellN 3 2], c95⟩
/-- berthing/vector.fits -/
def c96 : VCode :=
  .seq (.ops [⟨some 4, none, .mov (.c (.bool false))⟩]) <|
  .seq (.seq (.ops [⟨some 5, none, .mov (.t 0)⟩, ⟨some 6, none, .bin .num .eql (.t 5) (.c (.int .i64 0))⟩]) <|
  .cond (.t 6) (.seq (.ops [⟨some 7, none, .mov (.t 1)⟩, ⟨some 8, none, .bin .num .geq (.t 7) (.c (.int .i64 0))⟩, ⟨some 9, none, .mov (.t 8)⟩, ⟨some 10, some (9, true), .mov (.t 1)⟩, ⟨some 11, some (9, true), .bin .num .leq (.t 10) (.c (.int .i64 1099511627776))⟩, ⟨some 12, none, .pick (.t 9) (.t 11) (.c (.bool false))⟩, ⟨some 4, none, .mov (.t 12)⟩]) <|
   .ret) (.skip)) <|
  .seq (.ops [⟨some 13, none, .mov (.t 1)⟩, ⟨some 14, none, .bin .num .geq (.t 13) (.c (.int .i64 0))⟩, ⟨some 15, none, .mov (.t 14)⟩, ⟨some 16, some (15, true), .mov (.t 1)⟩, ⟨some 17, some (15, true), .bin .num .leq (.t 16) (.c (.int .i64 1125899906842624))⟩, ⟨some 18, none, .pick (.t 15) (.t 17) (.c (.bool false))⟩, ⟨some 4, none, .mov (.t 18)⟩]) <|
  .ret
def v96 : VFunc := ⟨19, [.tmp 4], c96⟩
/-- berthing/vector.Add -/
def c97 : VCode :=
  .seq (.ops [⟨some 2, none, .box (.t 0)⟩, ⟨some 3, none, .box (.t 1)⟩, ⟨some 4, none, .alloc [(.int .i64 0), (.int .i64 0), (.int .i64 0)]⟩, ⟨some 5, none, .mov (.c (.bool false))⟩]) <|
  .seq (.ops [⟨some 6, none, .loadN 3 (.t 2)⟩, ⟨some 7, none, .loadN 3 (.t 3)⟩, ⟨some 8, none, .call .pure 99 [(.t 6), (.t 7), (.f 100)]⟩, ⟨some 9, none, .extract 0 (.t 8)⟩, ⟨some 10, none, .extract 1 (.t 8)⟩, ⟨none, none, .storeN 3 (.t 4) (.t 9)⟩, ⟨some 5, none, .mov (.t 10)⟩]) <|
  .ret
def v97 : VFunc := ⟨11, [.cellN 3 4, .tmp 5], c97⟩
/-- berthing/berthingref04.Add -/
def c98 : VCode :=
  .seq (.ops [⟨some 2, none, .box (.t 0)⟩, ⟨some 3, none, .box (.t 1)⟩, ⟨some 4, none, .alloc [(.int .i64 0), (.int .i64 0), (.int .i64 0)]⟩, ⟨some 5, none, .mov (.c (.bool false))⟩]) <|
  .seq (.seq (.ops [⟨some 7, none, .loadN 3 (.t 2)⟩, ⟨some 8, none, .call .pure 87 [(.t 7)]⟩, ⟨some 9, none, .un .not (.t 8)⟩, ⟨some 10, none, .mov (.t 9)⟩, ⟨some 11, some (10, false), .loadN 3 (.t 3)⟩, ⟨some 12, some (10, false), .call .pure 87 [(.t 11)]⟩, ⟨some 13, some (10, false), .un .not (.t 12)⟩, ⟨some 14, none, .pick (.t 10) (.c (.bool true)) (.t 13)⟩]) <|
  .cond (.t 14) (.seq (.ops [⟨some 15, none, .build [(.int .i64 0), (.int .i64 0), (.int .i64 0)] []⟩, ⟨none, none, .storeN 3 (.t 4) (.t 15)⟩, ⟨some 5, none, .mov (.c (.bool false))⟩]) <|
   .ret) (.skip)) <|
  .seq (.ops [⟨some 16, none, .fieldAddr 0 (.t 2)⟩, ⟨some 17, none, .load1 (.t 16)⟩, ⟨some 18, none, .fieldAddr 0 (.t 3)⟩, ⟨some 19, none, .load1 (.t 18)⟩, ⟨some 20, none, .bin .num .add (.t 17) (.t 19)⟩, ⟨some 21, none, .fieldAddr 1 (.t 2)⟩, ⟨some 22, none, .load1 (.t 21)⟩, ⟨some 23, none, .fieldAddr 1 (.t 3)⟩, ⟨some 24, none, .load1 (.t 23)⟩, ⟨some 25, none, .bin .num .add (.t 22) (.t 24)⟩, ⟨some 26, none, .fieldAddr 2 (.t 2)⟩, ⟨some 27, none, .load1 (.t 26)⟩, ⟨some 28, none, .fieldAddr 2 (.t 3)⟩, ⟨some 29, none, .load1 (.t 28)⟩, ⟨some 30, none, .bin .num .add (.t 27) (.t 29)⟩, ⟨some 31, none, .build [(.int .i64 0), (.int .i64 0), (.int .i64 0)] [(0, 1, (.t 20)), (1, 1, (.t 25)), (2, 1, (.t 30))]⟩, ⟨some 6, none, .alloc [(.int .i64 0), (.int .i64 0), (.int .i64 0)]⟩, ⟨none, none, .storeN 3 (.t 6) (.t 31)⟩]) <|
  .seq (.seq (.ops [⟨some 32, none, .loadN 3 (.t 6)⟩, ⟨some 33, none, .call .pure 87 [(.t 32)]⟩, ⟨some 34, none, .un .not (.t 33)⟩]) <|
  .cond (.t 34) (.seq (.ops [⟨some 35, none, .build [(.int .i64 0), (.int .i64 0), (.int .i64 0)] []⟩, ⟨none, none, .storeN 3 (.t 4) (.t 35)⟩, ⟨some 5, none, .mov (.c (.bool false))⟩]) <|
   .ret) (.skip)) <|
  .seq (.ops [⟨some 36, none, .loadN 3 (.t 6)⟩, ⟨none, none, .storeN 3 (.t 4) (.t 36)⟩, ⟨some 5, none, .mov (.c (.bool true))⟩]) <|
  .ret
def v98 : VFunc := ⟨37, [.cellN 3 4, .tmp 5], c98⟩
/-- berthing/vector.both -/
def c99 : VCode :=
  .seq (.ops [⟨some 3, none, .box (.t 0)⟩, ⟨some 4, none, .box (.t 1)⟩, ⟨some 6, none, .alloc [(.int .i64 0), (.int .i64 0), (.int .i64 0)]⟩, ⟨some 7, none, .mov (.c (.bool false))⟩]) <|
  .seq (.seq (.ops [⟨some 12, none, .loadN 3 (.t 3)⟩, ⟨some 13, none, .call .pure 84 [(.t 12)]⟩, ⟨some 14, none, .un .not (.t 13)⟩, ⟨some 15, none, .mov (.t 14)⟩, ⟨some 16, some (15, false), .loadN 3 (.t 4)⟩, ⟨some 17, some (15, false), .call .pure 84 [(.t 16)]⟩, ⟨some 18, some (15, false), .un .not (.t 17)⟩, ⟨some 19, none, .pick (.t 15) (.c (.bool true)) (.t 18)⟩]) <|
  .cond (.t 19) (.seq (.ops [⟨some 20, none, .build [(.int .i64 0), (.int .i64 0), (.int .i64 0)] []⟩, ⟨none, none, .storeN 3 (.t 6) (.t 20)⟩, ⟨some 7, none, .mov (.c (.bool false))⟩]) <|
   .ret) (.skip)) <|
  .seq (.draw [(8, [(.int .i64 0), (.int .i64 0), (.int .i64 0)]), (9, [(.int .i64 0), (.int .i64 0), (.int .i64 0)])] [⟨some 21, none, .loadN 3 (.t 3)⟩, ⟨some 22, none, .call .pure 95 [(.t 21)]⟩, ⟨some 23, none, .loadN 3 (.t 4)⟩, ⟨some 24, none, .call .pure 95 [(.t 23)]⟩, ⟨none, none, .idle⟩, ⟨none, none, .idle⟩, ⟨none, none, .storeN 3 (.t 8) (.t 22)⟩, ⟨none, none, .storeN 3 (.t 9) (.t 24)⟩] []) <|
  .seq (.seq (.ops [⟨some 25, none, .mov (.c (.int .i64 0))⟩]) <|
  .block 0 (.loop (.seq (.ops [⟨some 26, none, .bin .num .lss (.t 25) (.c (.int .i64 3))⟩]) <|
    .seq (.cond (.t 26) (.skip) (.exit 0)) <|
    .seq (.block 1 (.seq (.ops [⟨some 27, none, .mov (.t 25)⟩, ⟨some 10, none, .mov (.t 27)⟩]) <|
     .ops [⟨some 29, none, .mov (.t 10)⟩, ⟨some 30, none, .mov (.t 2)⟩, ⟨some 31, none, .mov (.t 10)⟩, ⟨some 32, none, .idxAddrA 3 1 (.t 8) (.t 31)⟩, ⟨some 33, none, .load1 (.t 32)⟩, ⟨some 34, none, .mov (.t 10)⟩, ⟨some 35, none, .idxAddrA 3 1 (.t 9) (.t 34)⟩, ⟨some 36, none, .load1 (.t 35)⟩, ⟨some 37, none, .callV (.t 30) [(.t 33), (.t 36)]⟩, ⟨some 28, none, .mov (.t 37)⟩, ⟨some 38, none, .extract 0 (.t 28)⟩, ⟨some 39, none, .extract 1 (.t 28)⟩, ⟨some 40, none, .idxAddrA 3 1 (.t 8) (.t 29)⟩, ⟨none, none, .store1 (.t 40) (.t 38)⟩])) <|
    .ops [⟨some 41, none, .bin .num .add (.t 25) (.c (.int .i64 1))⟩, ⟨some 25, none, .mov (.t 41)⟩]))) <|
  .seq (.seq (.ops [⟨some 42, none, .loadN 3 (.t 8)⟩, ⟨some 43, none, .call .pure 101 [(.t 42)]⟩, ⟨some 11, none, .alloc [(.int .i64 0), (.int .i64 0), (.int .i64 0)]⟩, ⟨none, none, .storeN 3 (.t 11) (.t 43)⟩]) <|
  .seq (.ops [⟨some 44, none, .loadN 3 (.t 11)⟩, ⟨some 45, none, .call .pure 84 [(.t 44)]⟩]) <|
  .cond (.t 45) (.seq (.ops [⟨some 46, none, .loadN 3 (.t 11)⟩, ⟨none, none, .storeN 3 (.t 6) (.t 46)⟩, ⟨some 7, none, .mov (.c (.bool true))⟩]) <|
   .ret) (.skip)) <|
  .seq (.ops [⟨some 47, none, .build [(.int .i64 0), (.int .i64 0), (.int .i64 0)] []⟩, ⟨none, none, .storeN 3 (.t 6) (.t 47)⟩, ⟨some 7, none, .mov (.c (.bool false))⟩]) <|
  .ret
def v99 : VFunc := ⟨48, [.cellN 3 6, .tmp 7], c99⟩
/-- berthing/checked.Add -/
def c100 : VCode :=
  .seq (.ops [⟨some 4, none, .mov (.c (.int .i64 0))⟩, ⟨some 5, none, .mov (.c (.bool false))⟩]) <|
  .seq (.ops [⟨some 7, none, .mov (.t 0)⟩, ⟨some 8, none, .conv .u64 (.t 7)⟩, ⟨some 9, none, .mov (.t 1)⟩, ⟨some 10, none, .conv .u64 (.t 9)⟩, ⟨some 11, none, .bin .num .add (.t 8) (.t 10)⟩, ⟨some 12, none, .conv .i64 (.t 11)⟩, ⟨some 6, none, .mov (.t 12)⟩]) <|
  .seq (.seq (.ops [⟨some 13, none, .mov (.t 0)⟩, ⟨some 14, none, .mov (.t 6)⟩, ⟨some 15, none, .bin .num .xor (.t 13) (.t 14)⟩, ⟨some 16, none, .mov (.t 1)⟩, ⟨some 17, none, .mov (.t 6)⟩, ⟨some 18, none, .bin .num .xor (.t 16) (.t 17)⟩, ⟨some 19, none, .bin .num .and (.t 15) (.t 18)⟩, ⟨some 20, none, .bin .num .lss (.t 19) (.c (.int .i64 0))⟩]) <|
  .cond (.t 20) (.seq (.ops [⟨some 4, none, .mov (.c (.int .i64 0))⟩, ⟨some 5, none, .mov (.c (.bool false))⟩]) <|
   .ret) (.skip)) <|
  .seq (.ops [⟨some 21, none, .mov (.t 6)⟩, ⟨some 4, none, .mov (.t 21)⟩, ⟨some 5, none, .mov (.c (.bool true))⟩]) <|
  .ret
def v100 : VFunc := ⟨22, [.tmp 4, .tmp 5], c100⟩
/-- berthing/vector.of -/
def c101 : VCode :=
  .seq (.ops [⟨some 1, none, .box (.t 0)⟩, ⟨some 2, none, .alloc [(.int .i64 0), (.int .i64 0), (.int .i64 0)]⟩]) <|
  .seq (.ops [⟨some 3, none, .idxAddrA 3 1 (.t 1) (.c (.int .i64 0))⟩, ⟨some 4, none, .load1 (.t 3)⟩, ⟨some 5, none, .idxAddrA 3 1 (.t 1) (.c (.int .i64 1))⟩, ⟨some 6, none, .load1 (.t 5)⟩, ⟨some 7, none, .idxAddrA 3 1 (.t 1) (.c (.int .i64 2))⟩, ⟨some 8, none, .load1 (.t 7)⟩, ⟨some 9, none, .build [(.int .i64 0), (.int .i64 0), (.int .i64 0)] [(0, 1, (.t 4)), (1, 1, (.t 6)), (2, 1, (.t 8))]⟩, ⟨none, none, .storeN 3 (.t 2) (.t 9)⟩]) <|
  .ret
def v101 : VFunc := ⟨10, [.cellN 3 2], c101⟩
def ft : FuncId → Option VFunc := fun f => bif Nat.beq f 3 then some v3 else bif Nat.beq f 4 then some v4 else bif Nat.beq f 5 then some v5 else bif Nat.beq f 6 then some v6 else bif Nat.beq f 7 then some v7 else bif Nat.beq f 8 then some v8 else bif Nat.beq f 9 then some v9 else bif Nat.beq f 10 then some v10 else bif Nat.beq f 11 then some v11 else bif Nat.beq f 12 then some v12 else bif Nat.beq f 13 then some v13 else bif Nat.beq f 14 then some v14 else bif Nat.beq f 15 then some v15 else bif Nat.beq f 16 then some v16 else bif Nat.beq f 17 then some v17 else bif Nat.beq f 18 then some v18 else bif Nat.beq f 19 then some v19 else bif Nat.beq f 20 then some v20 else bif Nat.beq f 21 then some v21 else bif Nat.beq f 22 then some v22 else bif Nat.beq f 23 then some v23 else bif Nat.beq f 24 then some v24 else bif Nat.beq f 25 then some v25 else bif Nat.beq f 26 then some v26 else bif Nat.beq f 27 then some v27 else bif Nat.beq f 28 then some v28 else bif Nat.beq f 29 then some v29 else bif Nat.beq f 30 then some v30 else bif Nat.beq f 31 then some v31 else bif Nat.beq f 32 then some v32 else bif Nat.beq f 33 then some v33 else bif Nat.beq f 34 then some v34 else bif Nat.beq f 35 then some v35 else bif Nat.beq f 36 then some v36 else bif Nat.beq f 37 then some v37 else bif Nat.beq f 38 then some v38 else bif Nat.beq f 39 then some v39 else bif Nat.beq f 40 then some v40 else bif Nat.beq f 41 then some v41 else bif Nat.beq f 42 then some v42 else bif Nat.beq f 43 then some v43 else bif Nat.beq f 44 then some v44 else bif Nat.beq f 45 then some v45 else bif Nat.beq f 46 then some v46 else bif Nat.beq f 47 then some v47 else bif Nat.beq f 48 then some v48 else bif Nat.beq f 49 then some v49 else bif Nat.beq f 50 then some v50 else bif Nat.beq f 51 then some v51 else bif Nat.beq f 52 then some v52 else bif Nat.beq f 53 then some v53 else bif Nat.beq f 54 then some v54 else bif Nat.beq f 55 then some v55 else bif Nat.beq f 56 then some v56 else bif Nat.beq f 57 then some v57 else bif Nat.beq f 58 then some v58 else bif Nat.beq f 59 then some v59 else bif Nat.beq f 60 then some v60 else bif Nat.beq f 61 then some v61 else bif Nat.beq f 62 then some v62 else bif Nat.beq f 63 then some v63 else bif Nat.beq f 64 then some v64 else bif Nat.beq f 65 then some v65 else bif Nat.beq f 66 then some v66 else bif Nat.beq f 67 then some v67 else bif Nat.beq f 68 then some v68 else bif Nat.beq f 69 then some v69 else bif Nat.beq f 70 then some v70 else bif Nat.beq f 71 then some v71 else bif Nat.beq f 72 then some v72 else bif Nat.beq f 73 then some v73 else bif Nat.beq f 74 then some v74 else bif Nat.beq f 75 then some v75 else bif Nat.beq f 76 then some v76 else bif Nat.beq f 77 then some v77 else bif Nat.beq f 78 then some v78 else bif Nat.beq f 79 then some v79 else bif Nat.beq f 80 then some v80 else bif Nat.beq f 81 then some v81 else bif Nat.beq f 82 then some v82 else bif Nat.beq f 83 then some v83 else bif Nat.beq f 84 then some v84 else bif Nat.beq f 85 then some v85 else bif Nat.beq f 86 then some v86 else bif Nat.beq f 87 then some v87 else bif Nat.beq f 88 then some v88 else bif Nat.beq f 89 then some v89 else bif Nat.beq f 90 then some v90 else bif Nat.beq f 91 then some v91 else bif Nat.beq f 92 then some v92 else bif Nat.beq f 93 then some v93 else bif Nat.beq f 94 then some v94 else bif Nat.beq f 95 then some v95 else bif Nat.beq f 96 then some v96 else bif Nat.beq f 97 then some v97 else bif Nat.beq f 98 then some v98 else bif Nat.beq f 99 then some v99 else bif Nat.beq f 100 then some v100 else bif Nat.beq f 101 then some v101 else none
def env : Env := ⟨ft, md⟩
theorem is3 : FnComp ⟨Try.prog, md⟩ 3 v3 := ⟨Try.f3, _, fun t => ⟨false, md⟩, Try.func3, rfl, by kernel_rfl, by kernel_rfl, by kernel_rfl⟩
theorem is4 : FnComp ⟨Try.prog, md⟩ 4 v4 := ⟨Try.f4, _, fun t => ⟨false, md⟩, Try.func4, rfl, by kernel_rfl, by kernel_rfl, by kernel_rfl⟩
theorem is5 : FnComp ⟨Try.prog, md⟩ 5 v5 := ⟨Try.f5, _, fun t => ⟨false, md⟩, Try.func5, rfl, by kernel_rfl, by kernel_rfl, by kernel_rfl⟩
theorem is6 : FnComp ⟨Try.prog, md⟩ 6 v6 := ⟨Try.f6, _, fun t => ⟨false, md⟩, Try.func6, rfl, by kernel_rfl, by kernel_rfl, by kernel_rfl⟩
theorem is7 : FnComp ⟨Try.prog, md⟩ 7 v7 := ⟨Try.f7, _, fun t => ⟨false, md⟩, Try.func7, rfl, by kernel_rfl, by kernel_rfl, by kernel_rfl⟩
theorem is8 : FnComp ⟨Try.prog, md⟩ 8 v8 := ⟨Try.f8, _, fun t => ⟨false, md⟩, Try.func8, rfl, by kernel_rfl, by kernel_rfl, by kernel_rfl⟩
theorem is9 : FnComp ⟨Try.prog, md⟩ 9 v9 := ⟨Try.f9, _, fun t => ⟨false, md⟩, Try.func9, rfl, by kernel_rfl, by kernel_rfl, by kernel_rfl⟩
theorem is10 : FnComp ⟨Try.prog, md⟩ 10 v10 := ⟨Try.f10, _, fun t => ⟨false, md⟩, Try.func10, rfl, by kernel_rfl, by kernel_rfl, by kernel_rfl⟩
theorem is11 : FnComp ⟨Try.prog, md⟩ 11 v11 := ⟨Try.f11, _, fun t => ⟨false, md⟩, Try.func11, rfl, by kernel_rfl, by kernel_rfl, by kernel_rfl⟩
theorem is12 : FnComp ⟨Try.prog, md⟩ 12 v12 := ⟨Try.f12, _, fun t => ⟨false, md⟩, Try.func12, rfl, by kernel_rfl, by kernel_rfl, by kernel_rfl⟩
theorem is13 : FnComp ⟨Try.prog, md⟩ 13 v13 := ⟨Try.f13, _, fun t => ⟨false, md⟩, Try.func13, rfl, by kernel_rfl, by kernel_rfl, by kernel_rfl⟩
theorem is14 : FnComp ⟨Try.prog, md⟩ 14 v14 := ⟨Try.f14, _, fun t => ⟨false, md⟩, Try.func14, rfl, by kernel_rfl, by kernel_rfl, by kernel_rfl⟩
theorem is15 : FnComp ⟨Try.prog, md⟩ 15 v15 := ⟨Try.f15, _, fun t => ⟨false, md⟩, Try.func15, rfl, by kernel_rfl, by kernel_rfl, by kernel_rfl⟩
theorem is16 : FnComp ⟨Try.prog, md⟩ 16 v16 := ⟨Try.f16, _, fun t => ⟨false, md⟩, Try.func16, rfl, by kernel_rfl, by kernel_rfl, by kernel_rfl⟩
theorem is17 : FnComp ⟨Try.prog, md⟩ 17 v17 := ⟨Try.f17, _, fun t => ⟨false, md⟩, Try.func17, rfl, by kernel_rfl, by kernel_rfl, by kernel_rfl⟩
theorem is18 : FnComp ⟨Try.prog, md⟩ 18 v18 := ⟨Try.f18, _, fun t => ⟨false, md⟩, Try.func18, rfl, by kernel_rfl, by kernel_rfl, by kernel_rfl⟩
theorem is19 : FnComp ⟨Try.prog, md⟩ 19 v19 := ⟨Try.f19, _, fun t => ⟨false, md⟩, Try.func19, rfl, by kernel_rfl, by kernel_rfl, by kernel_rfl⟩
theorem is20 : FnComp ⟨Try.prog, md⟩ 20 v20 := ⟨Try.f20, _, fun t => ⟨false, md⟩, Try.func20, rfl, by kernel_rfl, by kernel_rfl, by kernel_rfl⟩
theorem is21 : FnComp ⟨Try.prog, md⟩ 21 v21 := ⟨Try.f21, _, fun t => ⟨false, md⟩, Try.func21, rfl, by kernel_rfl, by kernel_rfl, by kernel_rfl⟩
theorem is22 : FnComp ⟨Try.prog, md⟩ 22 v22 := ⟨Try.f22, _, fun t => ⟨false, md⟩, Try.func22, rfl, by kernel_rfl, by kernel_rfl, by kernel_rfl⟩
theorem is23 : FnComp ⟨Try.prog, md⟩ 23 v23 := ⟨Try.f23, _, fun t => ⟨false, md⟩, Try.func23, rfl, by kernel_rfl, by kernel_rfl, by kernel_rfl⟩
theorem is24 : FnComp ⟨Try.prog, md⟩ 24 v24 := ⟨Try.f24, _, fun t => ⟨false, md⟩, Try.func24, rfl, by kernel_rfl, by kernel_rfl, by kernel_rfl⟩
theorem is25 : FnComp ⟨Try.prog, md⟩ 25 v25 := ⟨Try.f25, _, fun t => ⟨false, md⟩, Try.func25, rfl, by kernel_rfl, by kernel_rfl, by kernel_rfl⟩
theorem is26 : FnComp ⟨Try.prog, md⟩ 26 v26 := ⟨Try.f26, _, fun t => ⟨false, md⟩, Try.func26, rfl, by kernel_rfl, by kernel_rfl, by kernel_rfl⟩
theorem is27 : FnComp ⟨Try.prog, md⟩ 27 v27 := ⟨Try.f27, _, fun t => ⟨false, md⟩, Try.func27, rfl, by kernel_rfl, by kernel_rfl, by kernel_rfl⟩
theorem is28 : FnComp ⟨Try.prog, md⟩ 28 v28 := ⟨Try.f28, _, fun t => ⟨false, md⟩, Try.func28, rfl, by kernel_rfl, by kernel_rfl, by kernel_rfl⟩
theorem is29 : FnComp ⟨Try.prog, md⟩ 29 v29 := ⟨Try.f29, _, fun t => ⟨false, md⟩, Try.func29, rfl, by kernel_rfl, by kernel_rfl, by kernel_rfl⟩
theorem is30 : FnComp ⟨Try.prog, md⟩ 30 v30 := ⟨Try.f30, _, fun t => ⟨false, md⟩, Try.func30, rfl, by kernel_rfl, by kernel_rfl, by kernel_rfl⟩
theorem is31 : FnComp ⟨Try.prog, md⟩ 31 v31 := ⟨Try.f31, _, fun t => ⟨false, md⟩, Try.func31, rfl, by kernel_rfl, by kernel_rfl, by kernel_rfl⟩
theorem is32 : FnComp ⟨Try.prog, md⟩ 32 v32 := ⟨Try.f32, _, fun t => ⟨false, md⟩, Try.func32, rfl, by kernel_rfl, by kernel_rfl, by kernel_rfl⟩
theorem is33 : FnComp ⟨Try.prog, md⟩ 33 v33 := ⟨Try.f33, _, fun t => ⟨false, md⟩, Try.func33, rfl, by kernel_rfl, by kernel_rfl, by kernel_rfl⟩
theorem is34 : FnComp ⟨Try.prog, md⟩ 34 v34 := ⟨Try.f34, _, fun t => ⟨false, md⟩, Try.func34, rfl, by kernel_rfl, by kernel_rfl, by kernel_rfl⟩
theorem is35 : FnComp ⟨Try.prog, md⟩ 35 v35 := ⟨Try.f35, _, fun t => ⟨false, md⟩, Try.func35, rfl, by kernel_rfl, by kernel_rfl, by kernel_rfl⟩
theorem is36 : FnComp ⟨Try.prog, md⟩ 36 v36 := ⟨Try.f36, _, fun t => ⟨false, md⟩, Try.func36, rfl, by kernel_rfl, by kernel_rfl, by kernel_rfl⟩
theorem is37 : FnComp ⟨Try.prog, md⟩ 37 v37 := ⟨Try.f37, _, fun t => ⟨false, md⟩, Try.func37, rfl, by kernel_rfl, by kernel_rfl, by kernel_rfl⟩
theorem is38 : FnComp ⟨Try.prog, md⟩ 38 v38 := ⟨Try.f38, _, fun t => ⟨false, md⟩, Try.func38, rfl, by kernel_rfl, by kernel_rfl, by kernel_rfl⟩
theorem is39 : FnComp ⟨Try.prog, md⟩ 39 v39 := ⟨Try.f39, _, fun t => ⟨false, md⟩, Try.func39, rfl, by kernel_rfl, by kernel_rfl, by kernel_rfl⟩
theorem is40 : FnComp ⟨Try.prog, md⟩ 40 v40 := ⟨Try.f40, _, fun t => ⟨false, md⟩, Try.func40, rfl, by kernel_rfl, by kernel_rfl, by kernel_rfl⟩
theorem is41 : FnComp ⟨Try.prog, md⟩ 41 v41 := ⟨Try.f41, _, fun t => ⟨false, md⟩, Try.func41, rfl, by kernel_rfl, by kernel_rfl, by kernel_rfl⟩
theorem is42 : FnComp ⟨Try.prog, md⟩ 42 v42 := ⟨Try.f42, _, fun t => ⟨false, md⟩, Try.func42, rfl, by kernel_rfl, by kernel_rfl, by kernel_rfl⟩
theorem is43 : FnComp ⟨Try.prog, md⟩ 43 v43 := ⟨Try.f43, _, fun t => ⟨false, md⟩, Try.func43, rfl, by kernel_rfl, by kernel_rfl, by kernel_rfl⟩
theorem is44 : FnComp ⟨Try.prog, md⟩ 44 v44 := ⟨Try.f44, _, fun t => ⟨false, md⟩, Try.func44, rfl, by kernel_rfl, by kernel_rfl, by kernel_rfl⟩
theorem is45 : FnComp ⟨Try.prog, md⟩ 45 v45 := ⟨Try.f45, _, fun t => ⟨false, md⟩, Try.func45, rfl, by kernel_rfl, by kernel_rfl, by kernel_rfl⟩
theorem is46 : FnComp ⟨Try.prog, md⟩ 46 v46 := ⟨Try.f46, _, fun t => ⟨false, md⟩, Try.func46, rfl, by kernel_rfl, by kernel_rfl, by kernel_rfl⟩
theorem is47 : FnComp ⟨Try.prog, md⟩ 47 v47 := ⟨Try.f47, _, fun t => ⟨false, md⟩, Try.func47, rfl, by kernel_rfl, by kernel_rfl, by kernel_rfl⟩
theorem is48 : FnComp ⟨Try.prog, md⟩ 48 v48 := ⟨Try.f48, _, fun t => ⟨false, md⟩, Try.func48, rfl, by kernel_rfl, by kernel_rfl, by kernel_rfl⟩
theorem is49 : FnComp ⟨Try.prog, md⟩ 49 v49 := ⟨Try.f49, _, fun t => ⟨false, md⟩, Try.func49, rfl, by kernel_rfl, by kernel_rfl, by kernel_rfl⟩
theorem is50 : FnComp ⟨Try.prog, md⟩ 50 v50 := ⟨Try.f50, _, fun t => ⟨false, md⟩, Try.func50, rfl, by kernel_rfl, by kernel_rfl, by kernel_rfl⟩
theorem is51 : FnComp ⟨Try.prog, md⟩ 51 v51 := ⟨Try.f51, _, fun t => ⟨false, md⟩, Try.func51, rfl, by kernel_rfl, by kernel_rfl, by kernel_rfl⟩
theorem is52 : FnComp ⟨Try.prog, md⟩ 52 v52 := ⟨Try.f52, _, fun t => ⟨false, md⟩, Try.func52, rfl, by kernel_rfl, by kernel_rfl, by kernel_rfl⟩
theorem is53 : FnComp ⟨Try.prog, md⟩ 53 v53 := ⟨Try.f53, _, fun t => ⟨false, md⟩, Try.func53, rfl, by kernel_rfl, by kernel_rfl, by kernel_rfl⟩
theorem is54 : FnComp ⟨Try.prog, md⟩ 54 v54 := ⟨Try.f54, _, fun t => ⟨false, md⟩, Try.func54, rfl, by kernel_rfl, by kernel_rfl, by kernel_rfl⟩
theorem is55 : FnComp ⟨Try.prog, md⟩ 55 v55 := ⟨Try.f55, _, fun t => ⟨false, md⟩, Try.func55, rfl, by kernel_rfl, by kernel_rfl, by kernel_rfl⟩
theorem is56 : FnComp ⟨Try.prog, md⟩ 56 v56 := ⟨Try.f56, _, fun t => ⟨false, md⟩, Try.func56, rfl, by kernel_rfl, by kernel_rfl, by kernel_rfl⟩
theorem is57 : FnComp ⟨Try.prog, md⟩ 57 v57 := ⟨Try.f57, _, fun t => ⟨false, md⟩, Try.func57, rfl, by kernel_rfl, by kernel_rfl, by kernel_rfl⟩
theorem is58 : FnComp ⟨Try.prog, md⟩ 58 v58 := ⟨Try.f58, _, fun t => ⟨false, md⟩, Try.func58, rfl, by kernel_rfl, by kernel_rfl, by kernel_rfl⟩
theorem is59 : FnComp ⟨Try.prog, md⟩ 59 v59 := ⟨Try.f59, _, fun t => ⟨false, md⟩, Try.func59, rfl, by kernel_rfl, by kernel_rfl, by kernel_rfl⟩
theorem is60 : FnComp ⟨Try.prog, md⟩ 60 v60 := ⟨Try.f60, _, fun t => ⟨false, md⟩, Try.func60, rfl, by kernel_rfl, by kernel_rfl, by kernel_rfl⟩
theorem is61 : FnComp ⟨Try.prog, md⟩ 61 v61 := ⟨Try.f61, _, fun t => ⟨false, md⟩, Try.func61, rfl, by kernel_rfl, by kernel_rfl, by kernel_rfl⟩
theorem is62 : FnComp ⟨Try.prog, md⟩ 62 v62 := ⟨Try.f62, _, fun t => ⟨false, md⟩, Try.func62, rfl, by kernel_rfl, by kernel_rfl, by kernel_rfl⟩
theorem is63 : FnComp ⟨Try.prog, md⟩ 63 v63 := ⟨Try.f63, _, fun t => ⟨false, md⟩, Try.func63, rfl, by kernel_rfl, by kernel_rfl, by kernel_rfl⟩
theorem is64 : FnComp ⟨Try.prog, md⟩ 64 v64 := ⟨Try.f64, _, fun t => ⟨false, md⟩, Try.func64, rfl, by kernel_rfl, by kernel_rfl, by kernel_rfl⟩
theorem is65 : FnComp ⟨Try.prog, md⟩ 65 v65 := ⟨Try.f65, _, fun t => ⟨false, md⟩, Try.func65, rfl, by kernel_rfl, by kernel_rfl, by kernel_rfl⟩
theorem is66 : FnComp ⟨Try.prog, md⟩ 66 v66 := ⟨Try.f66, _, fun t => ⟨false, md⟩, Try.func66, rfl, by kernel_rfl, by kernel_rfl, by kernel_rfl⟩
theorem is67 : FnComp ⟨Try.prog, md⟩ 67 v67 := ⟨Try.f67, _, fun t => ⟨false, md⟩, Try.func67, rfl, by kernel_rfl, by kernel_rfl, by kernel_rfl⟩
theorem is68 : FnComp ⟨Try.prog, md⟩ 68 v68 := ⟨Try.f68, _, fun t => ⟨false, md⟩, Try.func68, rfl, by kernel_rfl, by kernel_rfl, by kernel_rfl⟩
theorem is69 : FnComp ⟨Try.prog, md⟩ 69 v69 := ⟨Try.f69, _, fun t => ⟨false, md⟩, Try.func69, rfl, by kernel_rfl, by kernel_rfl, by kernel_rfl⟩
theorem is70 : FnComp ⟨Try.prog, md⟩ 70 v70 := ⟨Try.f70, _, fun t => ⟨false, md⟩, Try.func70, rfl, by kernel_rfl, by kernel_rfl, by kernel_rfl⟩
theorem is71 : FnComp ⟨Try.prog, md⟩ 71 v71 := ⟨Try.f71, _, fun t => ⟨false, md⟩, Try.func71, rfl, by kernel_rfl, by kernel_rfl, by kernel_rfl⟩
theorem is72 : FnComp ⟨Try.prog, md⟩ 72 v72 := ⟨Try.f72, _, fun t => ⟨false, md⟩, Try.func72, rfl, by kernel_rfl, by kernel_rfl, by kernel_rfl⟩
theorem is73 : FnComp ⟨Try.prog, md⟩ 73 v73 := ⟨Try.f73, _, fun t => ⟨false, md⟩, Try.func73, rfl, by kernel_rfl, by kernel_rfl, by kernel_rfl⟩
theorem is74 : FnComp ⟨Try.prog, md⟩ 74 v74 := ⟨Try.f74, _, fun t => ⟨false, md⟩, Try.func74, rfl, by kernel_rfl, by kernel_rfl, by kernel_rfl⟩
theorem is75 : FnComp ⟨Try.prog, md⟩ 75 v75 := ⟨Try.f75, _, fun t => ⟨false, md⟩, Try.func75, rfl, by kernel_rfl, by kernel_rfl, by kernel_rfl⟩
theorem is76 : FnComp ⟨Try.prog, md⟩ 76 v76 := ⟨Try.f76, _, fun t => ⟨false, md⟩, Try.func76, rfl, by kernel_rfl, by kernel_rfl, by kernel_rfl⟩
theorem is77 : FnComp ⟨Try.prog, md⟩ 77 v77 := ⟨Try.f77, _, fun t => ⟨false, md⟩, Try.func77, rfl, by kernel_rfl, by kernel_rfl, by kernel_rfl⟩
theorem is78 : FnComp ⟨Try.prog, md⟩ 78 v78 := ⟨Try.f78, _, fun t => ⟨false, md⟩, Try.func78, rfl, by kernel_rfl, by kernel_rfl, by kernel_rfl⟩
theorem is79 : FnComp ⟨Try.prog, md⟩ 79 v79 := ⟨Try.f79, _, fun t => ⟨false, md⟩, Try.func79, rfl, by kernel_rfl, by kernel_rfl, by kernel_rfl⟩
theorem is80 : FnComp ⟨Try.prog, md⟩ 80 v80 := ⟨Try.f80, _, fun t => ⟨false, md⟩, Try.func80, rfl, by kernel_rfl, by kernel_rfl, by kernel_rfl⟩
theorem is81 : FnComp ⟨Try.prog, md⟩ 81 v81 := ⟨Try.f81, _, fun t => ⟨false, md⟩, Try.func81, rfl, by kernel_rfl, by kernel_rfl, by kernel_rfl⟩
theorem is82 : FnComp ⟨Try.prog, md⟩ 82 v82 := ⟨Try.f82, _, fun t => ⟨false, md⟩, Try.func82, rfl, by kernel_rfl, by kernel_rfl, by kernel_rfl⟩
theorem is83 : FnComp ⟨Try.prog, md⟩ 83 v83 := ⟨Try.f83, _, fun t => ⟨false, md⟩, Try.func83, rfl, by kernel_rfl, by kernel_rfl, by kernel_rfl⟩
theorem is84 : FnComp ⟨Try.prog, md⟩ 84 v84 := ⟨Try.f84, _, fun t => ⟨false, md⟩, Try.func84, rfl, by kernel_rfl, by kernel_rfl, by kernel_rfl⟩
theorem is85 : FnComp ⟨Try.prog, md⟩ 85 v85 := ⟨Try.f85, _, fun t => ⟨false, md⟩, Try.func85, rfl, by kernel_rfl, by kernel_rfl, by kernel_rfl⟩
theorem is86 : FnComp ⟨Try.prog, md⟩ 86 v86 := ⟨Try.f86, _, fun t => ⟨false, md⟩, Try.func86, rfl, by kernel_rfl, by kernel_rfl, by kernel_rfl⟩
theorem is87 : FnComp ⟨Try.prog, md⟩ 87 v87 := ⟨Try.f87, _, fun t => ⟨false, md⟩, Try.func87, rfl, by kernel_rfl, by kernel_rfl, by kernel_rfl⟩
theorem is88 : FnComp ⟨Try.prog, md⟩ 88 v88 := ⟨Try.f88, _, fun t => ⟨false, md⟩, Try.func88, rfl, by kernel_rfl, by kernel_rfl, by kernel_rfl⟩
theorem is89 : FnComp ⟨Try.prog, md⟩ 89 v89 := ⟨Try.f89, _, fun t => ⟨false, md⟩, Try.func89, rfl, by kernel_rfl, by kernel_rfl, by kernel_rfl⟩
theorem is90 : FnComp ⟨Try.prog, md⟩ 90 v90 := ⟨Try.f90, _, fun t => ⟨false, md⟩, Try.func90, rfl, by kernel_rfl, by kernel_rfl, by kernel_rfl⟩
theorem is91 : FnComp ⟨Try.prog, md⟩ 91 v91 := ⟨Try.f91, _, fun t => ⟨false, md⟩, Try.func91, rfl, by kernel_rfl, by kernel_rfl, by kernel_rfl⟩
theorem is92 : FnComp ⟨Try.prog, md⟩ 92 v92 := ⟨Try.f92, _, fun t => ⟨false, md⟩, Try.func92, rfl, by kernel_rfl, by kernel_rfl, by kernel_rfl⟩
theorem is93 : FnComp ⟨Try.prog, md⟩ 93 v93 := ⟨Try.f93, _, fun t => ⟨false, md⟩, Try.func93, rfl, by kernel_rfl, by kernel_rfl, by kernel_rfl⟩
theorem is94 : FnComp ⟨Try.prog, md⟩ 94 v94 := ⟨Try.f94, _, fun t => ⟨false, md⟩, Try.func94, rfl, by kernel_rfl, by kernel_rfl, by kernel_rfl⟩
theorem is95 : FnComp ⟨Try.prog, md⟩ 95 v95 := ⟨Try.f95, _, fun t => ⟨false, md⟩, Try.func95, rfl, by kernel_rfl, by kernel_rfl, by kernel_rfl⟩
theorem is96 : FnComp ⟨Try.prog, md⟩ 96 v96 := ⟨Try.f96, _, fun t => ⟨false, md⟩, Try.func96, rfl, by kernel_rfl, by kernel_rfl, by kernel_rfl⟩
theorem is97 : FnComp ⟨Try.prog, md⟩ 97 v97 := ⟨Try.f97, _, fun t => ⟨false, md⟩, Try.func97, rfl, by kernel_rfl, by kernel_rfl, by kernel_rfl⟩
theorem is98 : FnComp ⟨Try.prog, md⟩ 98 v98 := ⟨Try.f98, _, fun t => ⟨false, md⟩, Try.func98, rfl, by kernel_rfl, by kernel_rfl, by kernel_rfl⟩
theorem is99 : FnComp ⟨Try.prog, md⟩ 99 v99 := ⟨Try.f99, _, fun t => ⟨false, md⟩, Try.func99, rfl, by kernel_rfl, by kernel_rfl, by kernel_rfl⟩
theorem is100 : FnComp ⟨Try.prog, md⟩ 100 v100 := ⟨Try.f100, _, fun t => ⟨false, md⟩, Try.func100, rfl, by kernel_rfl, by kernel_rfl, by kernel_rfl⟩
theorem is101 : FnComp ⟨Try.prog, md⟩ 101 v101 := ⟨Try.f101, _, fun t => ⟨false, md⟩, Try.func101, rfl, by kernel_rfl, by kernel_rfl, by kernel_rfl⟩

theorem envOK : EnvOK ⟨Try.prog, md⟩ env := ⟨rfl, by kernel_rfl, fun f vf h => by
  change ft f = some vf at h
  unfold ft at h
  rcases ft_cons h with ⟨h1, h2⟩ | h
  · rw [h1, h2]; exact is3
  rcases ft_cons h with ⟨h1, h2⟩ | h
  · rw [h1, h2]; exact is4
  rcases ft_cons h with ⟨h1, h2⟩ | h
  · rw [h1, h2]; exact is5
  rcases ft_cons h with ⟨h1, h2⟩ | h
  · rw [h1, h2]; exact is6
  rcases ft_cons h with ⟨h1, h2⟩ | h
  · rw [h1, h2]; exact is7
  rcases ft_cons h with ⟨h1, h2⟩ | h
  · rw [h1, h2]; exact is8
  rcases ft_cons h with ⟨h1, h2⟩ | h
  · rw [h1, h2]; exact is9
  rcases ft_cons h with ⟨h1, h2⟩ | h
  · rw [h1, h2]; exact is10
  rcases ft_cons h with ⟨h1, h2⟩ | h
  · rw [h1, h2]; exact is11
  rcases ft_cons h with ⟨h1, h2⟩ | h
  · rw [h1, h2]; exact is12
  rcases ft_cons h with ⟨h1, h2⟩ | h
  · rw [h1, h2]; exact is13
  rcases ft_cons h with ⟨h1, h2⟩ | h
  · rw [h1, h2]; exact is14
  rcases ft_cons h with ⟨h1, h2⟩ | h
  · rw [h1, h2]; exact is15
  rcases ft_cons h with ⟨h1, h2⟩ | h
  · rw [h1, h2]; exact is16
  rcases ft_cons h with ⟨h1, h2⟩ | h
  · rw [h1, h2]; exact is17
  rcases ft_cons h with ⟨h1, h2⟩ | h
  · rw [h1, h2]; exact is18
  rcases ft_cons h with ⟨h1, h2⟩ | h
  · rw [h1, h2]; exact is19
  rcases ft_cons h with ⟨h1, h2⟩ | h
  · rw [h1, h2]; exact is20
  rcases ft_cons h with ⟨h1, h2⟩ | h
  · rw [h1, h2]; exact is21
  rcases ft_cons h with ⟨h1, h2⟩ | h
  · rw [h1, h2]; exact is22
  rcases ft_cons h with ⟨h1, h2⟩ | h
  · rw [h1, h2]; exact is23
  rcases ft_cons h with ⟨h1, h2⟩ | h
  · rw [h1, h2]; exact is24
  rcases ft_cons h with ⟨h1, h2⟩ | h
  · rw [h1, h2]; exact is25
  rcases ft_cons h with ⟨h1, h2⟩ | h
  · rw [h1, h2]; exact is26
  rcases ft_cons h with ⟨h1, h2⟩ | h
  · rw [h1, h2]; exact is27
  rcases ft_cons h with ⟨h1, h2⟩ | h
  · rw [h1, h2]; exact is28
  rcases ft_cons h with ⟨h1, h2⟩ | h
  · rw [h1, h2]; exact is29
  rcases ft_cons h with ⟨h1, h2⟩ | h
  · rw [h1, h2]; exact is30
  rcases ft_cons h with ⟨h1, h2⟩ | h
  · rw [h1, h2]; exact is31
  rcases ft_cons h with ⟨h1, h2⟩ | h
  · rw [h1, h2]; exact is32
  rcases ft_cons h with ⟨h1, h2⟩ | h
  · rw [h1, h2]; exact is33
  rcases ft_cons h with ⟨h1, h2⟩ | h
  · rw [h1, h2]; exact is34
  rcases ft_cons h with ⟨h1, h2⟩ | h
  · rw [h1, h2]; exact is35
  rcases ft_cons h with ⟨h1, h2⟩ | h
  · rw [h1, h2]; exact is36
  rcases ft_cons h with ⟨h1, h2⟩ | h
  · rw [h1, h2]; exact is37
  rcases ft_cons h with ⟨h1, h2⟩ | h
  · rw [h1, h2]; exact is38
  rcases ft_cons h with ⟨h1, h2⟩ | h
  · rw [h1, h2]; exact is39
  rcases ft_cons h with ⟨h1, h2⟩ | h
  · rw [h1, h2]; exact is40
  rcases ft_cons h with ⟨h1, h2⟩ | h
  · rw [h1, h2]; exact is41
  rcases ft_cons h with ⟨h1, h2⟩ | h
  · rw [h1, h2]; exact is42
  rcases ft_cons h with ⟨h1, h2⟩ | h
  · rw [h1, h2]; exact is43
  rcases ft_cons h with ⟨h1, h2⟩ | h
  · rw [h1, h2]; exact is44
  rcases ft_cons h with ⟨h1, h2⟩ | h
  · rw [h1, h2]; exact is45
  rcases ft_cons h with ⟨h1, h2⟩ | h
  · rw [h1, h2]; exact is46
  rcases ft_cons h with ⟨h1, h2⟩ | h
  · rw [h1, h2]; exact is47
  rcases ft_cons h with ⟨h1, h2⟩ | h
  · rw [h1, h2]; exact is48
  rcases ft_cons h with ⟨h1, h2⟩ | h
  · rw [h1, h2]; exact is49
  rcases ft_cons h with ⟨h1, h2⟩ | h
  · rw [h1, h2]; exact is50
  rcases ft_cons h with ⟨h1, h2⟩ | h
  · rw [h1, h2]; exact is51
  rcases ft_cons h with ⟨h1, h2⟩ | h
  · rw [h1, h2]; exact is52
  rcases ft_cons h with ⟨h1, h2⟩ | h
  · rw [h1, h2]; exact is53
  rcases ft_cons h with ⟨h1, h2⟩ | h
  · rw [h1, h2]; exact is54
  rcases ft_cons h with ⟨h1, h2⟩ | h
  · rw [h1, h2]; exact is55
  rcases ft_cons h with ⟨h1, h2⟩ | h
  · rw [h1, h2]; exact is56
  rcases ft_cons h with ⟨h1, h2⟩ | h
  · rw [h1, h2]; exact is57
  rcases ft_cons h with ⟨h1, h2⟩ | h
  · rw [h1, h2]; exact is58
  rcases ft_cons h with ⟨h1, h2⟩ | h
  · rw [h1, h2]; exact is59
  rcases ft_cons h with ⟨h1, h2⟩ | h
  · rw [h1, h2]; exact is60
  rcases ft_cons h with ⟨h1, h2⟩ | h
  · rw [h1, h2]; exact is61
  rcases ft_cons h with ⟨h1, h2⟩ | h
  · rw [h1, h2]; exact is62
  rcases ft_cons h with ⟨h1, h2⟩ | h
  · rw [h1, h2]; exact is63
  rcases ft_cons h with ⟨h1, h2⟩ | h
  · rw [h1, h2]; exact is64
  rcases ft_cons h with ⟨h1, h2⟩ | h
  · rw [h1, h2]; exact is65
  rcases ft_cons h with ⟨h1, h2⟩ | h
  · rw [h1, h2]; exact is66
  rcases ft_cons h with ⟨h1, h2⟩ | h
  · rw [h1, h2]; exact is67
  rcases ft_cons h with ⟨h1, h2⟩ | h
  · rw [h1, h2]; exact is68
  rcases ft_cons h with ⟨h1, h2⟩ | h
  · rw [h1, h2]; exact is69
  rcases ft_cons h with ⟨h1, h2⟩ | h
  · rw [h1, h2]; exact is70
  rcases ft_cons h with ⟨h1, h2⟩ | h
  · rw [h1, h2]; exact is71
  rcases ft_cons h with ⟨h1, h2⟩ | h
  · rw [h1, h2]; exact is72
  rcases ft_cons h with ⟨h1, h2⟩ | h
  · rw [h1, h2]; exact is73
  rcases ft_cons h with ⟨h1, h2⟩ | h
  · rw [h1, h2]; exact is74
  rcases ft_cons h with ⟨h1, h2⟩ | h
  · rw [h1, h2]; exact is75
  rcases ft_cons h with ⟨h1, h2⟩ | h
  · rw [h1, h2]; exact is76
  rcases ft_cons h with ⟨h1, h2⟩ | h
  · rw [h1, h2]; exact is77
  rcases ft_cons h with ⟨h1, h2⟩ | h
  · rw [h1, h2]; exact is78
  rcases ft_cons h with ⟨h1, h2⟩ | h
  · rw [h1, h2]; exact is79
  rcases ft_cons h with ⟨h1, h2⟩ | h
  · rw [h1, h2]; exact is80
  rcases ft_cons h with ⟨h1, h2⟩ | h
  · rw [h1, h2]; exact is81
  rcases ft_cons h with ⟨h1, h2⟩ | h
  · rw [h1, h2]; exact is82
  rcases ft_cons h with ⟨h1, h2⟩ | h
  · rw [h1, h2]; exact is83
  rcases ft_cons h with ⟨h1, h2⟩ | h
  · rw [h1, h2]; exact is84
  rcases ft_cons h with ⟨h1, h2⟩ | h
  · rw [h1, h2]; exact is85
  rcases ft_cons h with ⟨h1, h2⟩ | h
  · rw [h1, h2]; exact is86
  rcases ft_cons h with ⟨h1, h2⟩ | h
  · rw [h1, h2]; exact is87
  rcases ft_cons h with ⟨h1, h2⟩ | h
  · rw [h1, h2]; exact is88
  rcases ft_cons h with ⟨h1, h2⟩ | h
  · rw [h1, h2]; exact is89
  rcases ft_cons h with ⟨h1, h2⟩ | h
  · rw [h1, h2]; exact is90
  rcases ft_cons h with ⟨h1, h2⟩ | h
  · rw [h1, h2]; exact is91
  rcases ft_cons h with ⟨h1, h2⟩ | h
  · rw [h1, h2]; exact is92
  rcases ft_cons h with ⟨h1, h2⟩ | h
  · rw [h1, h2]; exact is93
  rcases ft_cons h with ⟨h1, h2⟩ | h
  · rw [h1, h2]; exact is94
  rcases ft_cons h with ⟨h1, h2⟩ | h
  · rw [h1, h2]; exact is95
  rcases ft_cons h with ⟨h1, h2⟩ | h
  · rw [h1, h2]; exact is96
  rcases ft_cons h with ⟨h1, h2⟩ | h
  · rw [h1, h2]; exact is97
  rcases ft_cons h with ⟨h1, h2⟩ | h
  · rw [h1, h2]; exact is98
  rcases ft_cons h with ⟨h1, h2⟩ | h
  · rw [h1, h2]; exact is99
  rcases ft_cons h with ⟨h1, h2⟩ | h
  · rw [h1, h2]; exact is100
  rcases ft_cons h with ⟨h1, h2⟩ | h
  · rw [h1, h2]; exact is101
  cases h⟩
end Go.Proofs.Ytchcbpnoagldnaa
