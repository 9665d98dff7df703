/-
  The functions of this seat as code of the abstract machine, and that they are so. Printed by a program.
-/
import Derived.Test.YtpebkojodmjleaaV9
import Derived.Test.YtpebkojodmjleaaChecked
import Derived.KernelRfl
set_option linter.all false
set_option linter.unusedVariables false
set_option linter.unusedSimpArgs false
set_option linter.unusedSectionVars false
namespace Go.Proofs.Ytpebkojodmjleaa
open Go Go.VM

def md : FuncId → VM.Mode := fun f => bif Nat.beq f 7 then .shared else bif Nat.beq f 8 then .shared else bif Nat.beq f 9 then .shared else bif Nat.beq f 10 then .shared else bif Nat.beq f 13 then .shared else bif Nat.beq f 14 then .shared else bif Nat.beq f 15 then .shared else bif Nat.beq f 16 then .shared else bif Nat.beq f 17 then .shared else bif Nat.beq f 18 then .shared else bif Nat.beq f 19 then .shared else bif Nat.beq f 20 then .shared else bif Nat.beq f 21 then .shared else bif Nat.beq f 22 then .shared else bif Nat.beq f 23 then .shared else bif Nat.beq f 24 then .shared else bif Nat.beq f 25 then .shared else bif Nat.beq f 26 then .shared else bif Nat.beq f 27 then .shared else bif Nat.beq f 28 then .shared else bif Nat.beq f 33 then .shared else .pure
/-- berthing/berthinglaw12.TapeWrites -/
def c3 : VCode :=
  .seq (.ops [⟨some 4, none, .mov (.c (.bool false))⟩]) <|
  .seq (.seq (.ops [⟨some 9, none, .call .pure 6 []⟩, ⟨some 10, none, .un .not (.t 9)⟩]) <|
  .cond (.t 10) (.seq (.ops [⟨some 4, none, .mov (.c (.bool false))⟩]) <|
   .ret) (.skip)) <|
  .seq (.ops [⟨some 12, none, .mov (.t 0)⟩, ⟨some 13, none, .call .shared 7 [(.t 12)]⟩, ⟨some 11, none, .mov (.t 13)⟩, ⟨some 14, none, .extract 0 (.t 11)⟩, ⟨some 15, none, .extract 1 (.t 11)⟩, ⟨some 16, none, .extract 2 (.t 11)⟩, ⟨some 5, none, .mov (.t 14)⟩, ⟨some 6, none, .mov (.t 15)⟩, ⟨some 7, none, .mov (.t 16)⟩]) <|
  .seq (.ops [⟨some 8, none, .mov (.c .nilp)⟩]) <|
  .seq (.ops [⟨some 17, none, .mov (.t 8)⟩, ⟨some 18, none, .call .shared 8 [(.t 17), (.c (.int .u64 1))]⟩]) <|
  .seq (.ops [⟨some 19, none, .mov (.t 8)⟩, ⟨some 20, none, .call .shared 9 [(.t 19), (.c (.str ⟨#[97]⟩))]⟩]) <|
  .seq (.ops [⟨some 21, none, .mov (.t 7)⟩, ⟨some 22, none, .un .not (.t 21)⟩, ⟨some 23, none, .mov (.t 22)⟩, ⟨some 24, some (23, false), .mov (.t 5)⟩, ⟨some 25, some (23, false), .call .shared 10 [(.t 24)]⟩, ⟨some 26, some (23, false), .strOfP (.t 25)⟩, ⟨some 27, some (23, false), .mov (.t 6)⟩, ⟨some 28, some (23, false), .bin .num .eql (.t 26) (.t 27)⟩, ⟨some 29, some (23, false), .mov (.t 28)⟩, ⟨some 30, some (29, true), .mov (.t 1)⟩, ⟨some 31, some (29, true), .call .pure 11 [(.t 30)]⟩, ⟨some 32, some (29, true), .mov (.t 1)⟩, ⟨some 33, some (29, true), .call .pure 12 [(.t 32)]⟩, ⟨some 34, some (29, true), .lenStr (.t 33)⟩, ⟨some 35, some (29, true), .bin .num .eql (.t 31) (.t 34)⟩, ⟨some 36, some (23, false), .pick (.t 29) (.t 35) (.c (.bool false))⟩, ⟨some 37, some (23, false), .mov (.t 36)⟩, ⟨some 38, some (37, true), .mov (.t 8)⟩, ⟨some 39, some (37, true), .call .shared 10 [(.t 38)]⟩, ⟨some 40, some (37, true), .lenS (.t 39)⟩, ⟨some 41, some (37, true), .bin .num .eql (.t 40) (.c (.int .i64 0))⟩, ⟨some 42, some (23, false), .pick (.t 37) (.t 41) (.c (.bool false))⟩, ⟨some 43, none, .pick (.t 23) (.c (.bool true)) (.t 42)⟩, ⟨some 4, none, .mov (.t 43)⟩]) <|
  .ret
def v3 : VFunc := ⟨44, [.tmp 4], c3⟩
/-- berthing/berthinglaw12.TapeReads -/
def c4 : VCode :=
  .seq (.ops [⟨some 4, none, .mov (.c (.bool false))⟩]) <|
  .seq (.seq (.ops [⟨some 11, none, .call .pure 6 []⟩, ⟨some 12, none, .un .not (.t 11)⟩]) <|
  .cond (.t 12) (.seq (.ops [⟨some 4, none, .mov (.c (.bool false))⟩]) <|
   .ret) (.skip)) <|
  .seq (.seq (.ops [⟨some 13, none, .mov (.t 0)⟩, ⟨some 14, none, .lenS (.t 13)⟩, ⟨some 15, none, .bin .num .gtr (.t 14) (.c (.int .i64 3000))⟩, ⟨some 16, none, .mov (.t 15)⟩, ⟨some 17, some (16, false), .mov (.t 1)⟩, ⟨some 18, some (16, false), .lenS (.t 17)⟩, ⟨some 19, some (16, false), .bin .num .gtr (.t 18) (.c (.int .i64 60))⟩, ⟨some 20, none, .pick (.t 16) (.c (.bool true)) (.t 19)⟩]) <|
  .cond (.t 20) (.seq (.ops [⟨some 4, none, .mov (.c (.bool true))⟩]) <|
   .ret) (.skip)) <|
  .seq (.draw [(26, .x 5 [⟨some 23, none, .mov (.t 0)⟩, ⟨some 24, none, .strOfP (.t 23)⟩, ⟨some 25, none, .build [(.str ⟨#[]⟩), (.int .i64 0)] [(0, 1, (.t 24))]⟩] (.t 25))] [⟨some 21, none, .mov (.t 0)⟩, ⟨some 22, none, .call .shared 13 [(.t 21)]⟩, ⟨some 23, none, .mov (.t 0)⟩, ⟨some 24, none, .strOfP (.t 23)⟩, ⟨some 25, none, .build [(.str ⟨#[]⟩), (.int .i64 0)] [(0, 1, (.t 24))]⟩, ⟨none, none, .idleX (.t 25)⟩, ⟨some 5, none, .mov (.t 22)⟩, ⟨some 6, none, .mov (.t 26)⟩] []) <|
  .seq (.seq (.ops [⟨some 27, none, .mov (.t 1)⟩, ⟨some 28, none, .lenS (.t 27)⟩, ⟨some 29, none, .mov (.c (.int .i64 0))⟩]) <|
  .block 0 (.loop (.seq (.ops [⟨some 30, none, .bin .num .lss (.t 29) (.t 28)⟩]) <|
    .seq (.cond (.t 30) (.skip) (.exit 0)) <|
    .seq (.block 1 (.seq (.ops [⟨some 31, none, .idxAddrS 4 (.t 27) (.t 29)⟩, ⟨some 32, none, .loadN 4 (.t 31)⟩, ⟨some 8, none, .alloc [(.int .i64 0), (.int .i64 0), (.int .i64 0), (.int .u64 0)]⟩, ⟨none, none, .storeN 4 (.t 8) (.t 32)⟩]) <|
     .seq (.ops [⟨some 9, none, .mov (.c (.bool true))⟩]) <|
     .seq (.seq (.ops [⟨some 33, none, .fieldAddr 0 (.t 8)⟩, ⟨some 34, none, .load1 (.t 33)⟩, ⟨some 35, none, .conv .u64 (.t 34)⟩, ⟨some 36, none, .bin .num .rem (.t 35) (.c (.int .u64 6))⟩]) <|
     .block 2 (.seq (.ops [⟨some 52, none, .bin .num .eql (.t 36) (.c (.int .u64 0))⟩, ⟨some 51, none, .mov (.t 52)⟩]) <|
      .cond (.t 51) (.draw [] [⟨some 53, none, .mov (.t 5)⟩, ⟨some 54, none, .fieldAddr 3 (.t 8)⟩, ⟨some 55, none, .load1 (.t 54)⟩, ⟨some 56, none, .call .shared 14 [(.t 53), (.t 55)]⟩, ⟨some 57, none, .mov (.t 6)⟩, ⟨some 58, none, .fieldAddr 3 (.t 8)⟩, ⟨some 59, none, .load1 (.t 58)⟩, ⟨some 60, none, .call .shared 15 [(.t 57), (.t 59)]⟩, ⟨some 61, none, .bin .num .eql (.t 56) (.t 60)⟩, ⟨some 9, none, .mov (.t 61)⟩] [(6, 3)]) (.seq (.ops [⟨some 63, none, .bin .num .eql (.t 36) (.c (.int .u64 1))⟩, ⟨some 62, none, .mov (.t 63)⟩]) <|
       .cond (.t 62) (.draw [] [⟨some 64, none, .mov (.t 5)⟩, ⟨some 65, none, .fieldAddr 1 (.t 8)⟩, ⟨some 66, none, .load1 (.t 65)⟩, ⟨some 67, none, .fieldAddr 2 (.t 8)⟩, ⟨some 68, none, .load1 (.t 67)⟩, ⟨some 69, none, .call .shared 16 [(.t 64), (.t 66), (.t 68)]⟩, ⟨some 70, none, .mov (.t 6)⟩, ⟨some 71, none, .fieldAddr 1 (.t 8)⟩, ⟨some 72, none, .load1 (.t 71)⟩, ⟨some 73, none, .fieldAddr 2 (.t 8)⟩, ⟨some 74, none, .load1 (.t 73)⟩, ⟨some 75, none, .call .shared 17 [(.t 70), (.t 72), (.t 74)]⟩, ⟨some 76, none, .bin .num .eql (.t 69) (.t 75)⟩, ⟨some 9, none, .mov (.t 76)⟩] [(8, 5), (10, 5)]) (.seq (.ops [⟨some 78, none, .bin .num .eql (.t 36) (.c (.int .u64 2))⟩, ⟨some 77, none, .mov (.t 78)⟩]) <|
        .cond (.t 77) (.draw [] [⟨some 79, none, .mov (.t 5)⟩, ⟨some 80, none, .fieldAddr 1 (.t 8)⟩, ⟨some 81, none, .load1 (.t 80)⟩, ⟨some 82, none, .call .shared 18 [(.t 79), (.t 81)]⟩, ⟨some 83, none, .mov (.t 6)⟩, ⟨some 84, none, .fieldAddr 1 (.t 8)⟩, ⟨some 85, none, .load1 (.t 84)⟩, ⟨some 86, none, .call .shared 19 [(.t 83), (.t 85)]⟩, ⟨some 87, none, .bin .num .eql (.t 82) (.t 86)⟩, ⟨some 9, none, .mov (.t 87)⟩] [(6, 3)]) (.seq (.ops [⟨some 89, none, .bin .num .eql (.t 36) (.c (.int .u64 3))⟩, ⟨some 88, none, .mov (.t 89)⟩]) <|
         .cond (.t 88) (.ops [⟨some 90, none, .mov (.t 5)⟩, ⟨some 91, none, .call .shared 20 [(.t 90)]⟩, ⟨some 92, none, .mov (.t 6)⟩, ⟨some 93, none, .call .shared 21 [(.t 92)]⟩, ⟨some 94, none, .bin .bool .eql (.t 91) (.t 93)⟩, ⟨some 9, none, .mov (.t 94)⟩]) (.seq (.ops [⟨some 96, none, .bin .num .eql (.t 36) (.c (.int .u64 4))⟩, ⟨some 95, none, .mov (.t 96)⟩]) <|
          .cond (.t 95) (.seq (.ops [⟨some 97, none, .mov (.t 5)⟩, ⟨some 98, none, .fieldAddr 1 (.t 8)⟩, ⟨some 99, none, .load1 (.t 98)⟩, ⟨some 100, none, .call .shared 22 [(.t 97), (.t 99)]⟩]) <|
           .ops [⟨some 101, none, .mov (.t 6)⟩, ⟨some 102, none, .fieldAddr 1 (.t 8)⟩, ⟨some 103, none, .load1 (.t 102)⟩, ⟨some 104, none, .call .shared 23 [(.t 101), (.t 103)]⟩]) (.seq (.seq (.ops [⟨some 37, none, .mov (.t 6)⟩, ⟨some 38, none, .nilCheck (.t 37)⟩, ⟨some 39, none, .fieldAddr 0 (.t 38)⟩, ⟨some 40, none, .load1 (.t 39)⟩, ⟨some 41, none, .bin .num .neq (.t 40) (.c (.str ⟨#[]⟩))⟩]) <|
           .cond (.t 41) (.ops [⟨some 42, none, .mov (.t 6)⟩, ⟨some 43, none, .call .shared 23 [(.t 42), (.c (.int .i64 13))]⟩]) (.skip)) <|
           .draw [] [⟨some 44, none, .mov (.t 5)⟩, ⟨some 45, none, .call .shared 24 [(.t 44)]⟩, ⟨some 46, none, .mov (.t 6)⟩, ⟨some 47, none, .nilCheck (.t 46)⟩, ⟨some 48, none, .fieldAddr 1 (.t 47)⟩, ⟨some 49, none, .load1 (.t 48)⟩, ⟨some 50, none, .bin .num .eql (.t 45) (.t 49)⟩, ⟨some 9, none, .mov (.t 50)⟩] [(5, 1)]))))))) <|
     .seq (.draw [] [⟨some 105, none, .mov (.t 9)⟩, ⟨some 106, none, .un .not (.t 105)⟩, ⟨some 107, none, .mov (.t 106)⟩, ⟨some 108, some (107, false), .mov (.t 5)⟩, ⟨some 109, some (107, false), .call .shared 25 [(.t 108)]⟩, ⟨some 110, some (107, false), .mov (.t 6)⟩, ⟨some 111, some (107, false), .nilCheck (.t 110)⟩, ⟨some 112, some (107, false), .fieldAddr 1 (.t 111)⟩, ⟨some 113, some (107, false), .load1 (.t 112)⟩, ⟨some 114, some (107, false), .bin .num .neq (.t 109) (.t 113)⟩, ⟨some 115, none, .pick (.t 107) (.c (.bool true)) (.t 114)⟩, ⟨some 116, none, .mov (.t 115)⟩, ⟨some 117, some (116, false), .mov (.t 5)⟩, ⟨some 118, some (116, false), .call .shared 26 [(.t 117)]⟩, ⟨some 119, some (116, false), .mov (.t 6)⟩, ⟨some 120, some (116, false), .nilCheck (.t 119)⟩, ⟨some 121, some (116, false), .fieldAddr 0 (.t 120)⟩, ⟨some 122, some (116, false), .load1 (.t 121)⟩, ⟨some 123, some (116, false), .lenStr (.t 122)⟩, ⟨some 124, some (116, false), .bin .num .neq (.t 118) (.t 123)⟩, ⟨some 125, none, .pick (.t 116) (.c (.bool true)) (.t 124)⟩] [(8, 4), (17, 13)]) <|
     .cond (.t 125) (.seq (.ops [⟨some 4, none, .mov (.c (.bool false))⟩]) <|
      .ret) (.skip))) <|
    .ops [⟨some 126, none, .bin .num .add (.t 29) (.c (.int .i64 1))⟩, ⟨some 29, none, .mov (.t 126)⟩]))) <|
  .seq (.ops [⟨some 10, none, .mov (.c .nilp)⟩]) <|
  .seq (.ops [⟨some 127, none, .mov (.t 10)⟩, ⟨some 128, none, .call .shared 22 [(.t 127), (.c (.int .i64 2))]⟩]) <|
  .seq (.ops [⟨some 129, none, .mov (.t 10)⟩, ⟨some 130, none, .call .shared 14 [(.t 129), (.c (.int .u64 9))]⟩, ⟨some 131, none, .bin .num .eql (.t 130) (.c (.int .u64 0))⟩, ⟨some 132, none, .mov (.t 131)⟩, ⟨some 133, some (132, true), .mov (.t 10)⟩, ⟨some 134, some (132, true), .call .shared 16 [(.t 133), (.c (.int .i64 0)), (.c (.int .i64 9))]⟩, ⟨some 135, some (132, true), .bin .num .eql (.t 134) (.c (.int .i64 0))⟩, ⟨some 136, none, .pick (.t 132) (.t 135) (.c (.bool false))⟩, ⟨some 137, none, .mov (.t 136)⟩, ⟨some 138, some (137, true), .mov (.t 10)⟩, ⟨some 139, some (137, true), .call .shared 18 [(.t 138), (.c (.int .i64 9))]⟩, ⟨some 140, some (137, true), .bin .num .eql (.t 139) (.c (.str ⟨#[]⟩))⟩, ⟨some 141, none, .pick (.t 137) (.t 140) (.c (.bool false))⟩, ⟨some 142, none, .mov (.t 141)⟩, ⟨some 143, some (142, true), .mov (.t 10)⟩, ⟨some 144, some (142, true), .call .shared 20 [(.t 143)]⟩, ⟨some 145, some (142, true), .un .not (.t 144)⟩, ⟨some 146, none, .pick (.t 142) (.t 145) (.c (.bool false))⟩, ⟨some 147, none, .mov (.t 146)⟩, ⟨some 148, some (147, true), .mov (.t 10)⟩, ⟨some 149, some (147, true), .call .shared 26 [(.t 148)]⟩, ⟨some 150, some (147, true), .bin .num .eql (.t 149) (.c (.int .i64 0))⟩, ⟨some 151, none, .pick (.t 147) (.t 150) (.c (.bool false))⟩, ⟨some 152, none, .mov (.t 151)⟩, ⟨some 153, some (152, true), .mov (.t 10)⟩, ⟨some 154, some (152, true), .call .shared 25 [(.t 153)]⟩, ⟨some 155, some (152, true), .bin .num .eql (.t 154) (.c (.int .i64 1))⟩, ⟨some 156, none, .pick (.t 152) (.t 155) (.c (.bool false))⟩, ⟨some 157, none, .mov (.t 156)⟩, ⟨some 158, some (157, true), .mov (.t 10)⟩, ⟨some 159, some (157, true), .call .shared 24 [(.t 158)]⟩, ⟨some 160, some (157, true), .bin .num .eql (.t 159) (.c (.int .i64 1))⟩, ⟨some 161, none, .pick (.t 157) (.t 160) (.c (.bool false))⟩, ⟨some 4, none, .mov (.t 161)⟩]) <|
  .ret
def v4 : VFunc := ⟨162, [.tmp 4], c4⟩
/-- berthing/berthinglaw12.TapeBack -/
def c5 : VCode :=
  .seq (.ops [⟨some 4, none, .mov (.c (.bool false))⟩]) <|
  .seq (.seq (.ops [⟨some 13, none, .call .pure 6 []⟩, ⟨some 14, none, .un .not (.t 13)⟩]) <|
  .cond (.t 14) (.seq (.ops [⟨some 4, none, .mov (.c (.bool false))⟩]) <|
   .ret) (.skip)) <|
  .seq (.ops [⟨some 16, none, .mov (.t 0)⟩, ⟨some 17, none, .call .shared 7 [(.t 16)]⟩, ⟨some 15, none, .mov (.t 17)⟩, ⟨some 18, none, .extract 0 (.t 15)⟩, ⟨some 19, none, .extract 1 (.t 15)⟩, ⟨some 20, none, .extract 2 (.t 15)⟩, ⟨some 5, none, .mov (.t 18)⟩, ⟨some 6, none, .mov (.t 19)⟩, ⟨some 7, none, .mov (.t 20)⟩]) <|
  .seq (.seq (.ops [⟨some 21, none, .mov (.t 7)⟩, ⟨some 22, none, .un .not (.t 21)⟩, ⟨some 23, none, .mov (.t 22)⟩, ⟨some 24, some (23, false), .mov (.t 1)⟩, ⟨some 25, some (23, false), .lenS (.t 24)⟩, ⟨some 26, some (23, false), .bin .num .gtr (.t 25) (.c (.int .i64 3000))⟩, ⟨some 27, none, .pick (.t 23) (.c (.bool true)) (.t 26)⟩]) <|
  .cond (.t 27) (.seq (.ops [⟨some 4, none, .mov (.c (.bool true))⟩]) <|
   .ret) (.skip)) <|
  .seq (.ops [⟨some 28, none, .mov (.t 5)⟩, ⟨some 29, none, .call .shared 10 [(.t 28)]⟩, ⟨some 30, none, .call .shared 13 [(.t 29)]⟩, ⟨some 8, none, .mov (.t 30)⟩]) <|
  .seq (.ops [⟨some 31, none, .mov (.t 1)⟩, ⟨some 32, none, .call .shared 13 [(.t 31)]⟩, ⟨some 33, none, .build [(.sl .nil 0 [])] []⟩, ⟨some 34, none, .box (.t 33)⟩, ⟨some 9, none, .mov (.t 32)⟩, ⟨some 10, none, .mov (.t 34)⟩]) <|
  .seq (.seq (.ops [⟨some 35, none, .mov (.t 0)⟩, ⟨some 36, none, .lenS (.t 35)⟩, ⟨some 37, none, .mov (.c (.int .i64 0))⟩]) <|
  .block 0 (.loop (.seq (.ops [⟨some 38, none, .bin .num .lss (.t 37) (.t 36)⟩]) <|
    .seq (.cond (.t 38) (.skip) (.exit 0)) <|
    .seq (.block 1 (.seq (.ops [⟨some 39, none, .idxAddrS 4 (.t 35) (.t 37)⟩, ⟨some 40, none, .loadN 4 (.t 39)⟩, ⟨some 12, none, .alloc [(.int .i64 0), (.int .i64 0), (.int .u64 0), (.str ⟨#[]⟩)]⟩, ⟨none, none, .storeN 4 (.t 12) (.t 40)⟩]) <|
     .seq (.ops [⟨some 41, none, .fieldAddr 0 (.t 12)⟩, ⟨some 42, none, .load1 (.t 41)⟩, ⟨some 43, none, .conv .u64 (.t 42)⟩, ⟨some 44, none, .bin .num .rem (.t 43) (.c (.int .u64 4))⟩]) <|
     .block 2 (.seq (.ops [⟨some 60, none, .bin .num .eql (.t 44) (.c (.int .u64 0))⟩, ⟨some 59, none, .mov (.t 60)⟩]) <|
      .cond (.t 59) (.seq (.draw [] [⟨some 61, none, .mov (.t 7)⟩, ⟨some 62, none, .mov (.t 61)⟩, ⟨some 63, some (62, true), .mov (.t 8)⟩, ⟨some 64, some (62, true), .fieldAddr 2 (.t 12)⟩, ⟨some 65, some (62, true), .load1 (.t 64)⟩, ⟨some 66, some (62, true), .call .shared 14 [(.t 63), (.t 65)]⟩, ⟨some 67, some (62, true), .fieldAddr 2 (.t 12)⟩, ⟨some 68, some (62, true), .load1 (.t 67)⟩, ⟨some 69, some (62, true), .bin .num .eql (.t 66) (.t 68)⟩, ⟨some 70, none, .pick (.t 62) (.t 69) (.c (.bool false))⟩, ⟨some 7, none, .mov (.t 70)⟩] [(7, 5)]) <|
       .ops [⟨some 71, none, .mov (.t 10)⟩, ⟨some 72, none, .mov (.t 9)⟩, ⟨some 73, none, .call .shared 14 [(.t 72), (.c (.int .u64 18446744073709551615))]⟩, ⟨some 74, none, .call .shared 8 [(.t 71), (.t 73)]⟩]) (.seq (.ops [⟨some 76, none, .bin .num .eql (.t 44) (.c (.int .u64 1))⟩, ⟨some 75, none, .mov (.t 76)⟩]) <|
       .cond (.t 75) (.seq (.draw [] [⟨some 77, none, .mov (.t 7)⟩, ⟨some 78, none, .mov (.t 77)⟩, ⟨some 79, some (78, true), .mov (.t 8)⟩, ⟨some 80, some (78, true), .fieldAddr 1 (.t 12)⟩, ⟨some 81, some (78, true), .load1 (.t 80)⟩, ⟨some 82, some (78, true), .fieldAddr 1 (.t 12)⟩, ⟨some 83, some (78, true), .load1 (.t 82)⟩, ⟨some 84, some (78, true), .call .shared 16 [(.t 79), (.t 81), (.t 83)]⟩, ⟨some 85, some (78, true), .fieldAddr 1 (.t 12)⟩, ⟨some 86, some (78, true), .load1 (.t 85)⟩, ⟨some 87, some (78, true), .bin .num .eql (.t 84) (.t 86)⟩, ⟨some 88, none, .pick (.t 78) (.t 87) (.c (.bool false))⟩, ⟨some 7, none, .mov (.t 88)⟩] [(9, 7)]) <|
        .ops [⟨some 89, none, .mov (.t 10)⟩, ⟨some 90, none, .mov (.t 9)⟩, ⟨some 91, none, .call .shared 16 [(.t 90), (.c (.int .i64 (-9223372036854775808))), (.c (.int .i64 9223372036854775807))]⟩, ⟨some 92, none, .call .shared 27 [(.t 89), (.t 91)]⟩]) (.seq (.ops [⟨some 94, none, .bin .num .eql (.t 44) (.c (.int .u64 2))⟩, ⟨some 93, none, .mov (.t 94)⟩]) <|
        .cond (.t 93) (.seq (.draw [] [⟨some 95, none, .mov (.t 7)⟩, ⟨some 96, none, .mov (.t 95)⟩, ⟨some 97, some (96, true), .mov (.t 8)⟩, ⟨some 98, some (96, true), .fieldAddr 3 (.t 12)⟩, ⟨some 99, some (96, true), .load1 (.t 98)⟩, ⟨some 100, some (96, true), .lenStr (.t 99)⟩, ⟨some 101, some (96, true), .call .shared 18 [(.t 97), (.t 100)]⟩, ⟨some 102, some (96, true), .fieldAddr 3 (.t 12)⟩, ⟨some 103, some (96, true), .load1 (.t 102)⟩, ⟨some 104, some (96, true), .bin .num .eql (.t 101) (.t 103)⟩, ⟨some 105, none, .pick (.t 96) (.t 104) (.c (.bool false))⟩, ⟨some 7, none, .mov (.t 105)⟩] [(8, 6)]) <|
         .ops [⟨some 106, none, .mov (.t 10)⟩, ⟨some 107, none, .mov (.t 9)⟩, ⟨some 108, none, .call .shared 18 [(.t 107), (.c (.int .i64 3000))]⟩, ⟨some 109, none, .call .shared 9 [(.t 106), (.t 108)]⟩]) (.seq (.draw [] [⟨some 45, none, .mov (.t 7)⟩, ⟨some 46, none, .mov (.t 45)⟩, ⟨some 47, some (46, true), .mov (.t 8)⟩, ⟨some 48, some (46, true), .call .shared 20 [(.t 47)]⟩, ⟨some 49, some (46, true), .fieldAddr 1 (.t 12)⟩, ⟨some 50, some (46, true), .load1 (.t 49)⟩, ⟨some 51, some (46, true), .bin .num .and (.t 50) (.c (.int .i64 1))⟩, ⟨some 52, some (46, true), .bin .num .eql (.t 51) (.c (.int .i64 1))⟩, ⟨some 53, some (46, true), .bin .bool .eql (.t 48) (.t 52)⟩, ⟨some 54, none, .pick (.t 46) (.t 53) (.c (.bool false))⟩, ⟨some 7, none, .mov (.t 54)⟩] [(5, 3)]) <|
         .ops [⟨some 55, none, .mov (.t 10)⟩, ⟨some 56, none, .mov (.t 9)⟩, ⟨some 57, none, .call .shared 20 [(.t 56)]⟩, ⟨some 58, none, .call .shared 28 [(.t 55), (.t 57)]⟩])))))) <|
    .ops [⟨some 110, none, .bin .num .add (.t 37) (.c (.int .i64 1))⟩, ⟨some 37, none, .mov (.t 110)⟩]))) <|
  .seq (.ops [⟨some 111, none, .mov (.t 7)⟩, ⟨some 112, none, .mov (.t 111)⟩, ⟨some 113, some (112, true), .mov (.t 8)⟩, ⟨some 114, some (112, true), .call .shared 24 [(.t 113)]⟩, ⟨some 115, some (112, true), .bin .num .eql (.t 114) (.c (.int .i64 0))⟩, ⟨some 116, none, .pick (.t 112) (.t 115) (.c (.bool false))⟩, ⟨some 117, none, .mov (.t 116)⟩, ⟨some 118, some (117, true), .mov (.t 9)⟩, ⟨some 119, some (117, true), .call .shared 24 [(.t 118)]⟩, ⟨some 120, some (117, true), .bin .num .neq (.t 119) (.c (.int .i64 0))⟩, ⟨some 121, some (117, true), .mov (.t 120)⟩, ⟨some 122, some (121, false), .mov (.t 10)⟩, ⟨some 123, some (121, false), .call .shared 10 [(.t 122)]⟩, ⟨some 124, some (121, false), .strOfP (.t 123)⟩, ⟨some 125, some (121, false), .mov (.t 1)⟩, ⟨some 126, some (121, false), .strOfP (.t 125)⟩, ⟨some 127, some (121, false), .bin .num .eql (.t 124) (.t 126)⟩, ⟨some 128, some (117, true), .pick (.t 121) (.c (.bool true)) (.t 127)⟩, ⟨some 129, none, .pick (.t 117) (.t 128) (.c (.bool false))⟩, ⟨some 4, none, .mov (.t 129)⟩]) <|
  .ret
def v5 : VFunc := ⟨130, [.tmp 4], c5⟩
/-- berthing/berthinglaw12.first -/
def c6 : VCode :=
  .seq (.ops [⟨some 0, none, .mov (.c (.bool false))⟩]) <|
  .seq (.ops [⟨some 8, none, .build [(.sl .nil 0 [])] []⟩, ⟨some 9, none, .box (.t 8)⟩, ⟨some 1, none, .mov (.t 9)⟩]) <|
  .seq (.ops [⟨some 10, none, .mov (.t 1)⟩, ⟨some 11, none, .call .shared 8 [(.t 10), (.c (.int .u64 300))]⟩]) <|
  .seq (.ops [⟨some 12, none, .mov (.t 1)⟩, ⟨some 13, none, .call .shared 27 [(.t 12), (.c (.int .i64 (-1)))]⟩]) <|
  .seq (.ops [⟨some 14, none, .mov (.t 1)⟩, ⟨some 15, none, .call .shared 9 [(.t 14), (.c (.str ⟨#[97, 98]⟩))]⟩]) <|
  .seq (.ops [⟨some 16, none, .mov (.t 1)⟩, ⟨some 17, none, .call .shared 28 [(.t 16), (.c (.bool true))]⟩]) <|
  .seq (.ops [⟨some 18, none, .mov (.t 1)⟩, ⟨some 19, none, .call .shared 10 [(.t 18)]⟩, ⟨some 20, none, .call .shared 13 [(.t 19)]⟩, ⟨some 2, none, .mov (.t 20)⟩]) <|
  .seq (.ops [⟨some 21, none, .mov (.t 2)⟩, ⟨some 22, none, .call .shared 14 [(.t 21), (.c (.int .u64 300))]⟩, ⟨some 23, none, .mov (.t 2)⟩, ⟨some 24, none, .call .shared 16 [(.t 23), (.c (.int .i64 (-1))), (.c (.int .i64 1))]⟩, ⟨some 25, none, .mov (.t 2)⟩, ⟨some 26, none, .call .shared 18 [(.t 25), (.c (.int .i64 2))]⟩, ⟨some 27, none, .mov (.t 2)⟩, ⟨some 28, none, .call .shared 20 [(.t 27)]⟩, ⟨some 3, none, .mov (.t 22)⟩, ⟨some 4, none, .mov (.t 24)⟩, ⟨some 5, none, .mov (.t 26)⟩, ⟨some 6, none, .mov (.t 28)⟩]) <|
  .seq (.ops [⟨some 29, none, .buildSlice false 1 1 [(.int .u8 0)] [(0, 1, (.c (.int .u8 128)))]⟩, ⟨some 30, none, .call .shared 13 [(.t 29)]⟩, ⟨some 7, none, .mov (.t 30)⟩]) <|
  .seq (.ops [⟨some 31, none, .mov (.t 7)⟩, ⟨some 32, none, .call .shared 14 [(.t 31), (.c (.int .u64 9))]⟩]) <|
  .seq (.ops [⟨some 33, none, .mov (.t 1)⟩, ⟨some 34, none, .call .shared 10 [(.t 33)]⟩, ⟨some 35, none, .strOfP (.t 34)⟩, ⟨some 36, none, .bin .num .eql (.t 35) (.c (.str ⟨#[172, 2, 1, 2, 97, 98, 1]⟩))⟩, ⟨some 37, none, .mov (.t 36)⟩, ⟨some 38, some (37, true), .mov (.t 3)⟩, ⟨some 39, some (37, true), .bin .num .eql (.t 38) (.c (.int .u64 300))⟩, ⟨some 40, none, .pick (.t 37) (.t 39) (.c (.bool false))⟩, ⟨some 41, none, .mov (.t 40)⟩, ⟨some 42, some (41, true), .mov (.t 4)⟩, ⟨some 43, some (41, true), .bin .num .eql (.t 42) (.c (.int .i64 (-1)))⟩, ⟨some 44, none, .pick (.t 41) (.t 43) (.c (.bool false))⟩, ⟨some 45, none, .mov (.t 44)⟩, ⟨some 46, some (45, true), .mov (.t 5)⟩, ⟨some 47, some (45, true), .bin .num .eql (.t 46) (.c (.str ⟨#[97, 98]⟩))⟩, ⟨some 48, none, .pick (.t 45) (.t 47) (.c (.bool false))⟩, ⟨some 49, none, .mov (.t 48)⟩, ⟨some 50, some (49, true), .mov (.t 6)⟩, ⟨some 51, none, .pick (.t 49) (.t 50) (.c (.bool false))⟩, ⟨some 52, none, .mov (.t 51)⟩, ⟨some 53, some (52, true), .mov (.t 2)⟩, ⟨some 54, some (52, true), .call .shared 24 [(.t 53)]⟩, ⟨some 55, some (52, true), .bin .num .eql (.t 54) (.c (.int .i64 0))⟩, ⟨some 56, none, .pick (.t 52) (.t 55) (.c (.bool false))⟩, ⟨some 57, none, .mov (.t 56)⟩, ⟨some 58, some (57, true), .mov (.t 7)⟩, ⟨some 59, some (57, true), .call .shared 25 [(.t 58)]⟩, ⟨some 60, some (57, true), .bin .num .eql (.t 59) (.c (.int .i64 10))⟩, ⟨some 61, none, .pick (.t 57) (.t 60) (.c (.bool false))⟩, ⟨some 62, none, .mov (.t 61)⟩, ⟨some 63, some (62, true), .call .pure 11 [(.c (.int .u64 128))]⟩, ⟨some 64, some (62, true), .bin .num .eql (.t 63) (.c (.int .i64 2))⟩, ⟨some 65, none, .pick (.t 62) (.t 64) (.c (.bool false))⟩, ⟨some 0, none, .mov (.t 65)⟩]) <|
  .ret
def v6 : VFunc := ⟨66, [.tmp 0], c6⟩
/-- berthing/berthinglaw12.written -/
def c7 : VCode :=
  .seq (.ops [⟨some 2, none, .mov (.c .nilp)⟩, ⟨some 3, none, .mov (.c (.str ⟨#[]⟩))⟩, ⟨some 4, none, .mov (.c (.bool false))⟩]) <|
  .seq (.ops [⟨some 9, none, .build [(.sl .nil 0 [])] []⟩, ⟨some 10, none, .box (.t 9)⟩, ⟨some 5, none, .mov (.t 10)⟩, ⟨some 6, none, .mov (.c (.str ⟨#[]⟩))⟩]) <|
  .seq (.seq (.ops [⟨some 11, none, .mov (.t 0)⟩, ⟨some 12, none, .lenS (.t 11)⟩, ⟨some 13, none, .mov (.c (.int .i64 0))⟩]) <|
  .block 0 (.loop (.seq (.ops [⟨some 14, none, .bin .num .lss (.t 13) (.t 12)⟩]) <|
    .seq (.cond (.t 14) (.skip) (.exit 0)) <|
    .seq (.block 1 (.seq (.ops [⟨some 15, none, .mov (.t 13)⟩, ⟨some 16, none, .idxAddrS 4 (.t 11) (.t 13)⟩, ⟨some 17, none, .loadN 4 (.t 16)⟩, ⟨some 8, none, .alloc [(.int .i64 0), (.int .i64 0), (.int .u64 0), (.str ⟨#[]⟩)]⟩, ⟨some 7, none, .mov (.t 15)⟩, ⟨none, none, .storeN 4 (.t 8) (.t 17)⟩]) <|
     .seq (.seq (.ops [⟨some 18, none, .mov (.t 7)⟩, ⟨some 19, none, .bin .num .geq (.t 18) (.c (.int .i64 100))⟩, ⟨some 20, none, .mov (.t 19)⟩, ⟨some 21, some (20, false), .fieldAddr 3 (.t 8)⟩, ⟨some 22, some (20, false), .load1 (.t 21)⟩, ⟨some 23, some (20, false), .lenStr (.t 22)⟩, ⟨some 24, some (20, false), .bin .num .gtr (.t 23) (.c (.int .i64 300))⟩, ⟨some 25, none, .pick (.t 20) (.c (.bool true)) (.t 24)⟩]) <|
     .cond (.t 25) (.seq (.ops [⟨some 26, none, .mov (.t 5)⟩, ⟨some 27, none, .mov (.t 6)⟩, ⟨some 2, none, .mov (.t 26)⟩, ⟨some 3, none, .mov (.t 27)⟩, ⟨some 4, none, .mov (.c (.bool false))⟩]) <|
      .ret) (.skip)) <|
     .seq (.ops [⟨some 28, none, .fieldAddr 0 (.t 8)⟩, ⟨some 29, none, .load1 (.t 28)⟩, ⟨some 30, none, .conv .u64 (.t 29)⟩, ⟨some 31, none, .bin .num .rem (.t 30) (.c (.int .u64 4))⟩]) <|
     .block 2 (.seq (.ops [⟨some 46, none, .bin .num .eql (.t 31) (.c (.int .u64 0))⟩, ⟨some 45, none, .mov (.t 46)⟩]) <|
      .cond (.t 45) (.seq (.ops [⟨some 47, none, .mov (.t 5)⟩, ⟨some 48, none, .fieldAddr 2 (.t 8)⟩, ⟨some 49, none, .load1 (.t 48)⟩, ⟨some 50, none, .call .shared 8 [(.t 47), (.t 49)]⟩]) <|
       .ops [⟨some 51, none, .mov (.t 6)⟩, ⟨some 52, none, .fieldAddr 2 (.t 8)⟩, ⟨some 53, none, .load1 (.t 52)⟩, ⟨some 54, none, .call .pure 12 [(.t 53)]⟩, ⟨some 55, none, .bin .num .add (.t 51) (.t 54)⟩, ⟨some 6, none, .mov (.t 55)⟩]) (.seq (.ops [⟨some 57, none, .bin .num .eql (.t 31) (.c (.int .u64 1))⟩, ⟨some 56, none, .mov (.t 57)⟩]) <|
       .cond (.t 56) (.seq (.ops [⟨some 58, none, .mov (.t 5)⟩, ⟨some 59, none, .fieldAddr 1 (.t 8)⟩, ⟨some 60, none, .load1 (.t 59)⟩, ⟨some 61, none, .call .shared 27 [(.t 58), (.t 60)]⟩]) <|
        .ops [⟨some 62, none, .mov (.t 6)⟩, ⟨some 63, none, .fieldAddr 1 (.t 8)⟩, ⟨some 64, none, .load1 (.t 63)⟩, ⟨some 65, none, .call .pure 29 [(.t 64)]⟩, ⟨some 66, none, .bin .num .add (.t 62) (.t 65)⟩, ⟨some 6, none, .mov (.t 66)⟩]) (.seq (.ops [⟨some 68, none, .bin .num .eql (.t 31) (.c (.int .u64 2))⟩, ⟨some 67, none, .mov (.t 68)⟩]) <|
        .cond (.t 67) (.seq (.ops [⟨some 69, none, .mov (.t 5)⟩, ⟨some 70, none, .fieldAddr 3 (.t 8)⟩, ⟨some 71, none, .load1 (.t 70)⟩, ⟨some 72, none, .call .shared 9 [(.t 69), (.t 71)]⟩]) <|
         .ops [⟨some 73, none, .mov (.t 6)⟩, ⟨some 74, none, .fieldAddr 3 (.t 8)⟩, ⟨some 75, none, .load1 (.t 74)⟩, ⟨some 76, none, .call .pure 30 [(.t 75)]⟩, ⟨some 77, none, .bin .num .add (.t 73) (.t 76)⟩, ⟨some 6, none, .mov (.t 77)⟩]) (.seq (.ops [⟨some 32, none, .mov (.t 5)⟩, ⟨some 33, none, .fieldAddr 1 (.t 8)⟩, ⟨some 34, none, .load1 (.t 33)⟩, ⟨some 35, none, .bin .num .and (.t 34) (.c (.int .i64 1))⟩, ⟨some 36, none, .bin .num .eql (.t 35) (.c (.int .i64 1))⟩, ⟨some 37, none, .call .shared 28 [(.t 32), (.t 36)]⟩]) <|
         .ops [⟨some 38, none, .mov (.t 6)⟩, ⟨some 39, none, .fieldAddr 1 (.t 8)⟩, ⟨some 40, none, .load1 (.t 39)⟩, ⟨some 41, none, .bin .num .and (.t 40) (.c (.int .i64 1))⟩, ⟨some 42, none, .bin .num .eql (.t 41) (.c (.int .i64 1))⟩, ⟨some 43, none, .call .pure 31 [(.t 42)]⟩, ⟨some 44, none, .bin .num .add (.t 38) (.t 43)⟩, ⟨some 6, none, .mov (.t 44)⟩])))))) <|
    .ops [⟨some 78, none, .bin .num .add (.t 13) (.c (.int .i64 1))⟩, ⟨some 13, none, .mov (.t 78)⟩]))) <|
  .seq (.ops [⟨some 79, none, .mov (.t 5)⟩, ⟨some 80, none, .mov (.t 6)⟩, ⟨some 2, none, .mov (.t 79)⟩, ⟨some 3, none, .mov (.t 80)⟩, ⟨some 4, none, .mov (.c (.bool true))⟩]) <|
  .ret
def v7 : VFunc := ⟨81, [.tmp 2, .tmp 3, .tmp 4], c7⟩
/-- (*berthing/tape.Tape).Number -/
def c8 : VCode :=
  .seq (.seq (.ops [⟨some 4, none, .mov (.t 0)⟩, ⟨some 5, none, .bin .ptr .eql (.t 4) (.c .nilp)⟩]) <|
  .cond (.t 5) (.ret) (.skip)) <|
  .seq (.block 0 (.loop (.seq (.seq (.ops [⟨some 6, none, .mov (.t 1)⟩, ⟨some 7, none, .bin .num .geq (.t 6) (.c (.int .u64 128))⟩]) <|
    .cond (.t 7) (.skip) (.exit 0)) <|
    .seq (.block 1 (.ops [⟨some 10, none, .mov (.t 0)⟩, ⟨some 11, none, .mov (.t 0)⟩, ⟨some 12, none, .nilCheck (.t 11)⟩, ⟨some 13, none, .fieldAddr 0 (.t 12)⟩, ⟨some 14, none, .load1 (.t 13)⟩, ⟨some 15, none, .mov (.t 1)⟩, ⟨some 16, none, .conv .u8 (.t 15)⟩, ⟨some 17, none, .bin .num .or (.t 16) (.c (.int .u8 128))⟩, ⟨some 18, none, .buildSlice false 1 1 [(.int .u8 0)] [(0, 1, (.t 17))]⟩, ⟨some 19, none, .append false false 1 1 (.t 14) (.t 18)⟩, ⟨some 20, none, .nilCheck (.t 10)⟩, ⟨some 21, none, .fieldAddr 0 (.t 20)⟩, ⟨none, none, .store1 (.t 21) (.t 19)⟩])) <|
    .ops [⟨some 8, none, .mov (.t 1)⟩, ⟨some 9, none, .bin .num .shr (.t 8) (.c (.int .u64 7))⟩, ⟨some 1, none, .mov (.t 9)⟩]))) <|
  .ops [⟨some 22, none, .mov (.t 0)⟩, ⟨some 23, none, .mov (.t 0)⟩, ⟨some 24, none, .nilCheck (.t 23)⟩, ⟨some 25, none, .fieldAddr 0 (.t 24)⟩, ⟨some 26, none, .load1 (.t 25)⟩, ⟨some 27, none, .mov (.t 1)⟩, ⟨some 28, none, .conv .u8 (.t 27)⟩, ⟨some 29, none, .buildSlice false 1 1 [(.int .u8 0)] [(0, 1, (.t 28))]⟩, ⟨some 30, none, .append false false 1 1 (.t 26) (.t 29)⟩, ⟨some 31, none, .nilCheck (.t 22)⟩, ⟨some 32, none, .fieldAddr 0 (.t 31)⟩, ⟨none, none, .store1 (.t 32) (.t 30)⟩]
def v8 : VFunc := ⟨33, [], c8⟩
/-- (*berthing/tape.Tape).Text -/
def c9 : VCode :=
  .seq (.ops [⟨some 4, none, .mov (.t 0)⟩, ⟨some 5, none, .mov (.t 1)⟩, ⟨some 6, none, .lenStr (.t 5)⟩, ⟨some 7, none, .conv .u64 (.t 6)⟩, ⟨some 8, none, .call .shared 8 [(.t 4), (.t 7)]⟩]) <|
  .seq (.ops [⟨some 9, none, .mov (.t 0)⟩, ⟨some 10, none, .bin .ptr .neq (.t 9) (.c .nilp)⟩]) <|
  .cond (.t 10) (.ops [⟨some 11, none, .mov (.t 0)⟩, ⟨some 12, none, .mov (.t 0)⟩, ⟨some 13, none, .nilCheck (.t 12)⟩, ⟨some 14, none, .fieldAddr 0 (.t 13)⟩, ⟨some 15, none, .load1 (.t 14)⟩, ⟨some 16, none, .mov (.t 1)⟩, ⟨some 17, none, .append false true 1 1 (.t 15) (.t 16)⟩, ⟨some 18, none, .nilCheck (.t 11)⟩, ⟨some 19, none, .fieldAddr 0 (.t 18)⟩, ⟨none, none, .store1 (.t 19) (.t 17)⟩]) (.skip)
def v9 : VFunc := ⟨20, [], c9⟩
/-- (*berthing/tape.Tape).Bytes -/
def c10 : VCode :=
  .seq (.ops [⟨some 2, none, .mov (.c (.sl .nil 0 []))⟩]) <|
  .seq (.seq (.ops [⟨some 3, none, .mov (.t 0)⟩, ⟨some 4, none, .bin .ptr .eql (.t 3) (.c .nilp)⟩]) <|
  .cond (.t 4) (.seq (.ops [⟨some 2, none, .mov (.c (.sl .nil 0 []))⟩]) <|
   .ret) (.skip)) <|
  .seq (.ops [⟨some 5, none, .mov (.t 0)⟩, ⟨some 6, none, .nilCheck (.t 5)⟩, ⟨some 7, none, .fieldAddr 0 (.t 6)⟩, ⟨some 8, none, .load1 (.t 7)⟩, ⟨some 9, none, .call .pure 32 [(.t 8)]⟩, ⟨some 2, none, .mov (.t 9)⟩]) <|
  .ret
def v10 : VFunc := ⟨10, [.tmp 2], c10⟩
/-- berthing/tape.Size -/
def c11 : VCode :=
  .seq (.ops [⟨some 2, none, .mov (.c (.int .i64 0))⟩]) <|
  .seq (.ops [⟨some 3, none, .mov (.c (.int .i64 1))⟩]) <|
  .seq (.block 0 (.loop (.seq (.seq (.ops [⟨some 4, none, .mov (.t 0)⟩, ⟨some 5, none, .bin .num .geq (.t 4) (.c (.int .u64 128))⟩]) <|
    .cond (.t 5) (.skip) (.exit 0)) <|
    .seq (.block 1 (.ops [⟨some 8, none, .mov (.t 3)⟩, ⟨some 9, none, .bin .num .add (.t 8) (.c (.int .i64 1))⟩, ⟨some 3, none, .mov (.t 9)⟩])) <|
    .ops [⟨some 6, none, .mov (.t 0)⟩, ⟨some 7, none, .bin .num .shr (.t 6) (.c (.int .u64 7))⟩, ⟨some 0, none, .mov (.t 7)⟩]))) <|
  .seq (.ops [⟨some 10, none, .mov (.t 3)⟩, ⟨some 2, none, .mov (.t 10)⟩]) <|
  .ret
def v11 : VFunc := ⟨11, [.tmp 2], c11⟩
/-- berthing/berthingref12.Number -/
def c12 : VCode :=
  .seq (.ops [⟨some 2, none, .mov (.c (.str ⟨#[]⟩))⟩]) <|
  .seq (.ops [⟨some 3, none, .mov (.c (.str ⟨#[]⟩))⟩]) <|
  .seq (.block 0 (.loop (.seq (.seq (.ops [⟨some 4, none, .mov (.t 0)⟩, ⟨some 5, none, .bin .num .gtr (.t 4) (.c (.int .u64 127))⟩]) <|
    .cond (.t 5) (.skip) (.exit 0)) <|
    .block 1 (.seq (.ops [⟨some 6, none, .mov (.t 3)⟩, ⟨some 7, none, .mov (.t 0)⟩, ⟨some 8, none, .bin .num .rem (.t 7) (.c (.int .u64 128))⟩, ⟨some 9, none, .bin .num .add (.t 8) (.c (.int .u64 128))⟩, ⟨some 10, none, .conv .u8 (.t 9)⟩, ⟨some 11, none, .buildSlice false 1 1 [(.int .u8 0)] [(0, 1, (.t 10))]⟩, ⟨some 12, none, .strOfP (.t 11)⟩, ⟨some 13, none, .bin .num .add (.t 6) (.t 12)⟩, ⟨some 3, none, .mov (.t 13)⟩]) <|
     .ops [⟨some 14, none, .mov (.t 0)⟩, ⟨some 15, none, .bin .num .quo (.t 14) (.c (.int .u64 128))⟩, ⟨some 0, none, .mov (.t 15)⟩])))) <|
  .seq (.ops [⟨some 16, none, .mov (.t 3)⟩, ⟨some 17, none, .mov (.t 0)⟩, ⟨some 18, none, .conv .u8 (.t 17)⟩, ⟨some 19, none, .buildSlice false 1 1 [(.int .u8 0)] [(0, 1, (.t 18))]⟩, ⟨some 20, none, .strOfP (.t 19)⟩, ⟨some 21, none, .bin .num .add (.t 16) (.t 20)⟩, ⟨some 2, none, .mov (.t 21)⟩]) <|
  .ret
def v12 : VFunc := ⟨22, [.tmp 2], c12⟩
/-- berthing/tape.Read -/
def c13 : VCode :=
  .seq (.ops [⟨some 2, none, .mov (.c .nilp)⟩]) <|
  .seq (.ops [⟨some 3, none, .mov (.t 0)⟩, ⟨some 4, none, .call .pure 32 [(.t 3)]⟩, ⟨some 5, none, .build [(.sl .nil 0 []), (.int .i64 0)] [(0, 1, (.t 4))]⟩, ⟨some 6, none, .box (.t 5)⟩, ⟨some 2, none, .mov (.t 6)⟩]) <|
  .ret
def v13 : VFunc := ⟨7, [.tmp 2], c13⟩
/-- (*berthing/tape.Reader).Number -/
def c14 : VCode :=
  .seq (.ops [⟨some 4, none, .mov (.c (.int .u64 0))⟩]) <|
  .seq (.seq (.ops [⟨some 7, none, .mov (.t 0)⟩, ⟨some 8, none, .bin .ptr .eql (.t 7) (.c .nilp)⟩, ⟨some 9, none, .mov (.t 8)⟩, ⟨some 10, some (9, false), .mov (.t 0)⟩, ⟨some 11, some (9, false), .nilCheck (.t 10)⟩, ⟨some 12, some (9, false), .fieldAddr 1 (.t 11)⟩, ⟨some 13, some (9, false), .load1 (.t 12)⟩, ⟨some 14, some (9, false), .bin .num .neq (.t 13) (.c (.int .i64 0))⟩, ⟨some 15, none, .pick (.t 9) (.c (.bool true)) (.t 14)⟩]) <|
  .cond (.t 15) (.seq (.ops [⟨some 4, none, .mov (.c (.int .u64 0))⟩]) <|
   .ret) (.skip)) <|
  .seq (.ops [⟨some 17, none, .mov (.t 0)⟩, ⟨some 18, none, .call .shared 33 [(.t 17)]⟩, ⟨some 16, none, .mov (.t 18)⟩, ⟨some 19, none, .extract 0 (.t 16)⟩, ⟨some 20, none, .extract 1 (.t 16)⟩, ⟨some 5, none, .mov (.t 19)⟩, ⟨some 6, none, .mov (.t 20)⟩]) <|
  .seq (.seq (.ops [⟨some 21, none, .mov (.t 6)⟩, ⟨some 22, none, .bin .num .eql (.t 21) (.c (.int .i64 0))⟩, ⟨some 23, none, .mov (.t 22)⟩, ⟨some 24, some (23, true), .mov (.t 5)⟩, ⟨some 25, some (23, true), .mov (.t 1)⟩, ⟨some 26, some (23, true), .bin .num .gtr (.t 24) (.t 25)⟩, ⟨some 27, none, .pick (.t 23) (.t 26) (.c (.bool false))⟩]) <|
  .cond (.t 27) (.ops [⟨some 6, none, .mov (.c (.int .i64 15))⟩]) (.skip)) <|
  .seq (.ops [⟨some 28, none, .mov (.t 0)⟩, ⟨some 29, none, .mov (.t 6)⟩, ⟨some 30, none, .call .shared 22 [(.t 28), (.t 29)]⟩]) <|
  .seq (.seq (.ops [⟨some 31, none, .mov (.t 6)⟩, ⟨some 32, none, .bin .num .neq (.t 31) (.c (.int .i64 0))⟩]) <|
  .cond (.t 32) (.seq (.ops [⟨some 4, none, .mov (.c (.int .u64 0))⟩]) <|
   .ret) (.skip)) <|
  .seq (.ops [⟨some 33, none, .mov (.t 5)⟩, ⟨some 4, none, .mov (.t 33)⟩]) <|
  .ret
def v14 : VFunc := ⟨34, [.tmp 4], c14⟩
/-- (*berthing/berthingref12.Scan).Number -/
def c15 : VCode :=
  .seq (.ops [⟨some 4, none, .mov (.c (.int .u64 0))⟩]) <|
  .seq (.seq (.ops [⟨some 8, none, .mov (.t 0)⟩, ⟨some 9, none, .nilCheck (.t 8)⟩, ⟨some 10, none, .fieldAddr 1 (.t 9)⟩, ⟨some 11, none, .load1 (.t 10)⟩, ⟨some 12, none, .bin .num .neq (.t 11) (.c (.int .i64 0))⟩]) <|
  .cond (.t 12) (.seq (.ops [⟨some 4, none, .mov (.c (.int .u64 0))⟩]) <|
   .ret) (.skip)) <|
  .seq (.ops [⟨some 5, none, .mov (.c (.int .i64 0))⟩]) <|
  .seq (.block 0 (.loop (.seq (.seq (.ops [⟨some 13, none, .mov (.t 5)⟩, ⟨some 14, none, .mov (.t 0)⟩, ⟨some 15, none, .nilCheck (.t 14)⟩, ⟨some 16, none, .fieldAddr 0 (.t 15)⟩, ⟨some 17, none, .load1 (.t 16)⟩, ⟨some 18, none, .lenStr (.t 17)⟩, ⟨some 19, none, .bin .num .lss (.t 13) (.t 18)⟩, ⟨some 20, none, .mov (.t 19)⟩, ⟨some 21, some (20, true), .mov (.t 5)⟩, ⟨some 22, some (20, true), .bin .num .lss (.t 21) (.c (.int .i64 10))⟩, ⟨some 23, none, .pick (.t 20) (.t 22) (.c (.bool false))⟩, ⟨some 24, none, .mov (.t 23)⟩, ⟨some 25, some (24, true), .mov (.t 0)⟩, ⟨some 26, some (24, true), .nilCheck (.t 25)⟩, ⟨some 27, some (24, true), .fieldAddr 0 (.t 26)⟩, ⟨some 28, some (24, true), .load1 (.t 27)⟩, ⟨some 29, some (24, true), .mov (.t 5)⟩, ⟨some 30, some (24, true), .idxStr (.t 28) (.t 29)⟩, ⟨some 31, some (24, true), .bin .num .gtr (.t 30) (.c (.int .u8 127))⟩, ⟨some 32, none, .pick (.t 24) (.t 31) (.c (.bool false))⟩]) <|
    .cond (.t 32) (.skip) (.exit 0)) <|
    .block 1 (.ops [⟨some 33, none, .mov (.t 5)⟩, ⟨some 34, none, .bin .num .add (.t 33) (.c (.int .i64 1))⟩, ⟨some 5, none, .mov (.t 34)⟩])))) <|
  .seq (.seq (.ops [⟨some 35, none, .mov (.t 5)⟩, ⟨some 36, none, .bin .num .eql (.t 35) (.c (.int .i64 10))⟩]) <|
  .cond (.t 36) (.seq (.ops [⟨some 37, none, .mov (.t 0)⟩, ⟨some 38, none, .call .shared 23 [(.t 37), (.c (.int .i64 11))]⟩]) <|
   .seq (.ops [⟨some 4, none, .mov (.c (.int .u64 0))⟩]) <|
   .ret) (.skip)) <|
  .seq (.seq (.ops [⟨some 39, none, .mov (.t 5)⟩, ⟨some 40, none, .mov (.t 0)⟩, ⟨some 41, none, .nilCheck (.t 40)⟩, ⟨some 42, none, .fieldAddr 0 (.t 41)⟩, ⟨some 43, none, .load1 (.t 42)⟩, ⟨some 44, none, .lenStr (.t 43)⟩, ⟨some 45, none, .bin .num .eql (.t 39) (.t 44)⟩]) <|
  .cond (.t 45) (.seq (.ops [⟨some 46, none, .mov (.t 0)⟩, ⟨some 47, none, .call .shared 23 [(.t 46), (.c (.int .i64 10))]⟩]) <|
   .seq (.ops [⟨some 4, none, .mov (.c (.int .u64 0))⟩]) <|
   .ret) (.skip)) <|
  .seq (.seq (.ops [⟨some 48, none, .mov (.t 5)⟩, ⟨some 49, none, .bin .num .eql (.t 48) (.c (.int .i64 9))⟩, ⟨some 50, none, .mov (.t 49)⟩, ⟨some 51, some (50, true), .mov (.t 0)⟩, ⟨some 52, some (50, true), .nilCheck (.t 51)⟩, ⟨some 53, some (50, true), .fieldAddr 0 (.t 52)⟩, ⟨some 54, some (50, true), .load1 (.t 53)⟩, ⟨some 55, some (50, true), .idxStr (.t 54) (.c (.int .i64 9))⟩, ⟨some 56, some (50, true), .bin .num .gtr (.t 55) (.c (.int .u8 1))⟩, ⟨some 57, none, .pick (.t 50) (.t 56) (.c (.bool false))⟩, ⟨some 58, none, .mov (.t 57)⟩, ⟨some 59, some (58, false), .mov (.t 5)⟩, ⟨some 60, some (58, false), .bin .num .gtr (.t 59) (.c (.int .i64 0))⟩, ⟨some 61, some (58, false), .mov (.t 60)⟩, ⟨some 62, some (61, true), .mov (.t 0)⟩, ⟨some 63, some (61, true), .nilCheck (.t 62)⟩, ⟨some 64, some (61, true), .fieldAddr 0 (.t 63)⟩, ⟨some 65, some (61, true), .load1 (.t 64)⟩, ⟨some 66, some (61, true), .mov (.t 5)⟩, ⟨some 67, some (61, true), .idxStr (.t 65) (.t 66)⟩, ⟨some 68, some (61, true), .bin .num .eql (.t 67) (.c (.int .u8 0))⟩, ⟨some 69, some (58, false), .pick (.t 61) (.t 68) (.c (.bool false))⟩, ⟨some 70, none, .pick (.t 58) (.c (.bool true)) (.t 69)⟩]) <|
  .cond (.t 70) (.seq (.ops [⟨some 71, none, .mov (.t 0)⟩, ⟨some 72, none, .call .shared 23 [(.t 71), (.c (.int .i64 11))]⟩]) <|
   .seq (.ops [⟨some 4, none, .mov (.c (.int .u64 0))⟩]) <|
   .ret) (.skip)) <|
  .seq (.ops [⟨some 6, none, .mov (.c (.int .u64 0))⟩]) <|
  .seq (.seq (.ops [⟨some 73, none, .mov (.t 5)⟩, ⟨some 7, none, .mov (.t 73)⟩]) <|
  .block 2 (.loop (.seq (.seq (.ops [⟨some 74, none, .mov (.t 7)⟩, ⟨some 75, none, .bin .num .geq (.t 74) (.c (.int .i64 0))⟩]) <|
    .cond (.t 75) (.skip) (.exit 2)) <|
    .seq (.block 3 (.ops [⟨some 78, none, .mov (.t 6)⟩, ⟨some 79, none, .bin .num .mul (.t 78) (.c (.int .u64 128))⟩, ⟨some 80, none, .mov (.t 0)⟩, ⟨some 81, none, .nilCheck (.t 80)⟩, ⟨some 82, none, .fieldAddr 0 (.t 81)⟩, ⟨some 83, none, .load1 (.t 82)⟩, ⟨some 84, none, .mov (.t 7)⟩, ⟨some 85, none, .idxStr (.t 83) (.t 84)⟩, ⟨some 86, none, .bin .num .rem (.t 85) (.c (.int .u8 128))⟩, ⟨some 87, none, .conv .u64 (.t 86)⟩, ⟨some 88, none, .bin .num .add (.t 79) (.t 87)⟩, ⟨some 6, none, .mov (.t 88)⟩])) <|
    .ops [⟨some 76, none, .mov (.t 7)⟩, ⟨some 77, none, .bin .num .sub (.t 76) (.c (.int .i64 1))⟩, ⟨some 7, none, .mov (.t 77)⟩]))) <|
  .seq (.seq (.ops [⟨some 89, none, .mov (.t 6)⟩, ⟨some 90, none, .mov (.t 1)⟩, ⟨some 91, none, .bin .num .gtr (.t 89) (.t 90)⟩]) <|
  .cond (.t 91) (.seq (.ops [⟨some 92, none, .mov (.t 0)⟩, ⟨some 93, none, .call .shared 23 [(.t 92), (.c (.int .i64 15))]⟩]) <|
   .seq (.ops [⟨some 4, none, .mov (.c (.int .u64 0))⟩]) <|
   .ret) (.skip)) <|
  .seq (.ops [⟨some 94, none, .mov (.t 0)⟩, ⟨some 95, none, .mov (.t 0)⟩, ⟨some 96, none, .nilCheck (.t 95)⟩, ⟨some 97, none, .fieldAddr 0 (.t 96)⟩, ⟨some 98, none, .load1 (.t 97)⟩, ⟨some 99, none, .mov (.t 5)⟩, ⟨some 100, none, .bin .num .add (.t 99) (.c (.int .i64 1))⟩, ⟨some 101, none, .sliceStr (.t 98) (some (.t 100)) none⟩, ⟨some 102, none, .nilCheck (.t 94)⟩, ⟨some 103, none, .fieldAddr 0 (.t 102)⟩, ⟨none, none, .store1 (.t 103) (.t 101)⟩]) <|
  .seq (.ops [⟨some 104, none, .mov (.t 6)⟩, ⟨some 4, none, .mov (.t 104)⟩]) <|
  .ret
def v15 : VFunc := ⟨105, [.tmp 4], c15⟩
/-- (*berthing/tape.Reader).Signed -/
def c16 : VCode :=
  .seq (.ops [⟨some 6, none, .mov (.c (.int .i64 0))⟩]) <|
  .seq (.ops [⟨some 8, none, .mov (.t 0)⟩, ⟨some 9, none, .call .shared 14 [(.t 8), (.c (.int .u64 18446744073709551615))]⟩, ⟨some 10, none, .call .pure 34 [(.t 9)]⟩, ⟨some 7, none, .mov (.t 10)⟩]) <|
  .seq (.seq (.ops [⟨some 11, none, .mov (.t 0)⟩, ⟨some 12, none, .bin .ptr .eql (.t 11) (.c .nilp)⟩, ⟨some 13, none, .mov (.t 12)⟩, ⟨some 14, some (13, false), .mov (.t 0)⟩, ⟨some 15, some (13, false), .nilCheck (.t 14)⟩, ⟨some 16, some (13, false), .fieldAddr 1 (.t 15)⟩, ⟨some 17, some (13, false), .load1 (.t 16)⟩, ⟨some 18, some (13, false), .bin .num .neq (.t 17) (.c (.int .i64 0))⟩, ⟨some 19, none, .pick (.t 13) (.c (.bool true)) (.t 18)⟩]) <|
  .cond (.t 19) (.seq (.ops [⟨some 6, none, .mov (.c (.int .i64 0))⟩]) <|
   .ret) (.skip)) <|
  .seq (.seq (.ops [⟨some 20, none, .mov (.t 7)⟩, ⟨some 21, none, .mov (.t 1)⟩, ⟨some 22, none, .bin .num .lss (.t 20) (.t 21)⟩, ⟨some 23, none, .mov (.t 22)⟩, ⟨some 24, some (23, false), .mov (.t 7)⟩, ⟨some 25, some (23, false), .mov (.t 2)⟩, ⟨some 26, some (23, false), .bin .num .gtr (.t 24) (.t 25)⟩, ⟨some 27, none, .pick (.t 23) (.c (.bool true)) (.t 26)⟩]) <|
  .cond (.t 27) (.seq (.ops [⟨some 28, none, .mov (.t 0)⟩, ⟨some 29, none, .call .shared 22 [(.t 28), (.c (.int .i64 15))]⟩]) <|
   .seq (.ops [⟨some 6, none, .mov (.c (.int .i64 0))⟩]) <|
   .ret) (.skip)) <|
  .seq (.ops [⟨some 30, none, .mov (.t 7)⟩, ⟨some 6, none, .mov (.t 30)⟩]) <|
  .ret
def v16 : VFunc := ⟨31, [.tmp 6], c16⟩
/-- (*berthing/berthingref12.Scan).Signed -/
def c17 : VCode :=
  .seq (.ops [⟨some 6, none, .mov (.c (.int .i64 0))⟩]) <|
  .seq (.ops [⟨some 9, none, .mov (.t 0)⟩, ⟨some 10, none, .call .shared 15 [(.t 9), (.c (.int .u64 18446744073709551615))]⟩, ⟨some 7, none, .mov (.t 10)⟩]) <|
  .seq (.ops [⟨some 11, none, .mov (.t 7)⟩, ⟨some 12, none, .bin .num .quo (.t 11) (.c (.int .u64 2))⟩, ⟨some 13, none, .conv .i64 (.t 12)⟩, ⟨some 8, none, .mov (.t 13)⟩]) <|
  .seq (.seq (.ops [⟨some 14, none, .mov (.t 7)⟩, ⟨some 15, none, .bin .num .rem (.t 14) (.c (.int .u64 2))⟩, ⟨some 16, none, .bin .num .eql (.t 15) (.c (.int .u64 1))⟩]) <|
  .cond (.t 16) (.ops [⟨some 17, none, .mov (.t 8)⟩, ⟨some 18, none, .un .neg (.t 17)⟩, ⟨some 19, none, .bin .num .sub (.t 18) (.c (.int .i64 1))⟩, ⟨some 8, none, .mov (.t 19)⟩]) (.skip)) <|
  .seq (.seq (.ops [⟨some 20, none, .mov (.t 0)⟩, ⟨some 21, none, .nilCheck (.t 20)⟩, ⟨some 22, none, .fieldAddr 1 (.t 21)⟩, ⟨some 23, none, .load1 (.t 22)⟩, ⟨some 24, none, .bin .num .neq (.t 23) (.c (.int .i64 0))⟩]) <|
  .cond (.t 24) (.seq (.ops [⟨some 6, none, .mov (.c (.int .i64 0))⟩]) <|
   .ret) (.skip)) <|
  .seq (.seq (.ops [⟨some 25, none, .mov (.t 8)⟩, ⟨some 26, none, .mov (.t 1)⟩, ⟨some 27, none, .bin .num .lss (.t 25) (.t 26)⟩, ⟨some 28, none, .mov (.t 27)⟩, ⟨some 29, some (28, false), .mov (.t 8)⟩, ⟨some 30, some (28, false), .mov (.t 2)⟩, ⟨some 31, some (28, false), .bin .num .gtr (.t 29) (.t 30)⟩, ⟨some 32, none, .pick (.t 28) (.c (.bool true)) (.t 31)⟩]) <|
  .cond (.t 32) (.seq (.ops [⟨some 33, none, .mov (.t 0)⟩, ⟨some 34, none, .call .shared 23 [(.t 33), (.c (.int .i64 15))]⟩]) <|
   .seq (.ops [⟨some 6, none, .mov (.c (.int .i64 0))⟩]) <|
   .ret) (.skip)) <|
  .seq (.ops [⟨some 35, none, .mov (.t 8)⟩, ⟨some 6, none, .mov (.t 35)⟩]) <|
  .ret
def v17 : VFunc := ⟨36, [.tmp 6], c17⟩
/-- (*berthing/tape.Reader).Text -/
def c18 : VCode :=
  .seq (.ops [⟨some 4, none, .mov (.c (.str ⟨#[]⟩))⟩]) <|
  .seq (.seq (.ops [⟨some 7, none, .mov (.t 0)⟩, ⟨some 8, none, .bin .ptr .eql (.t 7) (.c .nilp)⟩]) <|
  .cond (.t 8) (.seq (.ops [⟨some 4, none, .mov (.c (.str ⟨#[]⟩))⟩]) <|
   .ret) (.skip)) <|
  .seq (.ops [⟨some 9, none, .mov (.t 0)⟩, ⟨some 10, none, .call .shared 14 [(.t 9), (.c (.int .u64 18446744073709551615))]⟩, ⟨some 5, none, .mov (.t 10)⟩]) <|
  .seq (.block 0 (.seq (.ops [⟨some 12, none, .mov (.t 0)⟩, ⟨some 13, none, .nilCheck (.t 12)⟩, ⟨some 14, none, .fieldAddr 1 (.t 13)⟩, ⟨some 15, none, .load1 (.t 14)⟩, ⟨some 16, none, .bin .num .neq (.t 15) (.c (.int .i64 0))⟩, ⟨some 11, none, .mov (.t 16)⟩]) <|
   .cond (.t 11) (.seq (.ops [⟨some 4, none, .mov (.c (.str ⟨#[]⟩))⟩]) <|
    .ret) (.seq (.ops [⟨some 18, none, .mov (.t 1)⟩, ⟨some 19, none, .bin .num .lss (.t 18) (.c (.int .i64 0))⟩, ⟨some 20, none, .mov (.t 19)⟩, ⟨some 21, some (20, false), .mov (.t 5)⟩, ⟨some 22, some (20, false), .mov (.t 1)⟩, ⟨some 23, some (20, false), .conv .u64 (.t 22)⟩, ⟨some 24, some (20, false), .bin .num .gtr (.t 21) (.t 23)⟩, ⟨some 25, none, .pick (.t 20) (.c (.bool true)) (.t 24)⟩, ⟨some 17, none, .mov (.t 25)⟩]) <|
    .cond (.t 17) (.seq (.ops [⟨some 26, none, .mov (.t 0)⟩, ⟨some 27, none, .call .shared 22 [(.t 26), (.c (.int .i64 15))]⟩]) <|
     .seq (.ops [⟨some 4, none, .mov (.c (.str ⟨#[]⟩))⟩]) <|
     .ret) (.seq (.ops [⟨some 29, none, .mov (.t 5)⟩, ⟨some 30, none, .mov (.t 0)⟩, ⟨some 31, none, .nilCheck (.t 30)⟩, ⟨some 32, none, .fieldAddr 0 (.t 31)⟩, ⟨some 33, none, .load1 (.t 32)⟩, ⟨some 34, none, .lenS (.t 33)⟩, ⟨some 35, none, .conv .u64 (.t 34)⟩, ⟨some 36, none, .bin .num .gtr (.t 29) (.t 35)⟩, ⟨some 28, none, .mov (.t 36)⟩]) <|
     .cond (.t 28) (.seq (.ops [⟨some 37, none, .mov (.t 0)⟩, ⟨some 38, none, .call .shared 22 [(.t 37), (.c (.int .i64 10))]⟩]) <|
      .seq (.ops [⟨some 4, none, .mov (.c (.str ⟨#[]⟩))⟩]) <|
      .ret) (.skip))))) <|
  .seq (.ops [⟨some 39, none, .mov (.t 0)⟩, ⟨some 40, none, .nilCheck (.t 39)⟩, ⟨some 41, none, .fieldAddr 0 (.t 40)⟩, ⟨some 42, none, .load1 (.t 41)⟩, ⟨some 43, none, .mov (.t 5)⟩, ⟨some 44, none, .sliceS 1 (.t 42) none (some (.t 43)) none⟩, ⟨some 45, none, .strOfP (.t 44)⟩, ⟨some 6, none, .mov (.t 45)⟩]) <|
  .seq (.ops [⟨some 46, none, .mov (.t 0)⟩, ⟨some 47, none, .mov (.t 0)⟩, ⟨some 48, none, .nilCheck (.t 47)⟩, ⟨some 49, none, .fieldAddr 0 (.t 48)⟩, ⟨some 50, none, .load1 (.t 49)⟩, ⟨some 51, none, .mov (.t 5)⟩, ⟨some 52, none, .sliceS 1 (.t 50) (some (.t 51)) none none⟩, ⟨some 53, none, .nilCheck (.t 46)⟩, ⟨some 54, none, .fieldAddr 0 (.t 53)⟩, ⟨none, none, .store1 (.t 54) (.t 52)⟩]) <|
  .seq (.ops [⟨some 55, none, .mov (.t 6)⟩, ⟨some 4, none, .mov (.t 55)⟩]) <|
  .ret
def v18 : VFunc := ⟨56, [.tmp 4], c18⟩
/-- (*berthing/berthingref12.Scan).Text -/
def c19 : VCode :=
  .seq (.ops [⟨some 4, none, .mov (.c (.str ⟨#[]⟩))⟩]) <|
  .seq (.ops [⟨some 7, none, .mov (.t 0)⟩, ⟨some 8, none, .call .shared 15 [(.t 7), (.c (.int .u64 18446744073709551615))]⟩, ⟨some 5, none, .mov (.t 8)⟩]) <|
  .seq (.seq (.ops [⟨some 9, none, .mov (.t 0)⟩, ⟨some 10, none, .nilCheck (.t 9)⟩, ⟨some 11, none, .fieldAddr 1 (.t 10)⟩, ⟨some 12, none, .load1 (.t 11)⟩, ⟨some 13, none, .bin .num .neq (.t 12) (.c (.int .i64 0))⟩]) <|
  .cond (.t 13) (.seq (.ops [⟨some 4, none, .mov (.c (.str ⟨#[]⟩))⟩]) <|
   .ret) (.skip)) <|
  .seq (.seq (.ops [⟨some 14, none, .mov (.t 1)⟩, ⟨some 15, none, .bin .num .lss (.t 14) (.c (.int .i64 0))⟩, ⟨some 16, none, .mov (.t 15)⟩, ⟨some 17, some (16, false), .mov (.t 5)⟩, ⟨some 18, some (16, false), .mov (.t 1)⟩, ⟨some 19, some (16, false), .conv .u64 (.t 18)⟩, ⟨some 20, some (16, false), .bin .num .gtr (.t 17) (.t 19)⟩, ⟨some 21, none, .pick (.t 16) (.c (.bool true)) (.t 20)⟩]) <|
  .cond (.t 21) (.seq (.ops [⟨some 22, none, .mov (.t 0)⟩, ⟨some 23, none, .call .shared 23 [(.t 22), (.c (.int .i64 15))]⟩]) <|
   .seq (.ops [⟨some 4, none, .mov (.c (.str ⟨#[]⟩))⟩]) <|
   .ret) (.skip)) <|
  .seq (.seq (.ops [⟨some 24, none, .mov (.t 5)⟩, ⟨some 25, none, .mov (.t 0)⟩, ⟨some 26, none, .nilCheck (.t 25)⟩, ⟨some 27, none, .fieldAddr 0 (.t 26)⟩, ⟨some 28, none, .load1 (.t 27)⟩, ⟨some 29, none, .lenStr (.t 28)⟩, ⟨some 30, none, .conv .u64 (.t 29)⟩, ⟨some 31, none, .bin .num .gtr (.t 24) (.t 30)⟩]) <|
  .cond (.t 31) (.seq (.ops [⟨some 32, none, .mov (.t 0)⟩, ⟨some 33, none, .call .shared 23 [(.t 32), (.c (.int .i64 10))]⟩]) <|
   .seq (.ops [⟨some 4, none, .mov (.c (.str ⟨#[]⟩))⟩]) <|
   .ret) (.skip)) <|
  .seq (.ops [⟨some 34, none, .mov (.t 0)⟩, ⟨some 35, none, .nilCheck (.t 34)⟩, ⟨some 36, none, .fieldAddr 0 (.t 35)⟩, ⟨some 37, none, .load1 (.t 36)⟩, ⟨some 38, none, .mov (.t 5)⟩, ⟨some 39, none, .conv .i64 (.t 38)⟩, ⟨some 40, none, .sliceStr (.t 37) none (some (.t 39))⟩, ⟨some 6, none, .mov (.t 40)⟩]) <|
  .seq (.ops [⟨some 41, none, .mov (.t 0)⟩, ⟨some 42, none, .mov (.t 0)⟩, ⟨some 43, none, .nilCheck (.t 42)⟩, ⟨some 44, none, .fieldAddr 0 (.t 43)⟩, ⟨some 45, none, .load1 (.t 44)⟩, ⟨some 46, none, .mov (.t 5)⟩, ⟨some 47, none, .conv .i64 (.t 46)⟩, ⟨some 48, none, .sliceStr (.t 45) (some (.t 47)) none⟩, ⟨some 49, none, .nilCheck (.t 41)⟩, ⟨some 50, none, .fieldAddr 0 (.t 49)⟩, ⟨none, none, .store1 (.t 50) (.t 48)⟩]) <|
  .seq (.ops [⟨some 51, none, .mov (.t 6)⟩, ⟨some 4, none, .mov (.t 51)⟩]) <|
  .ret
def v19 : VFunc := ⟨52, [.tmp 4], c19⟩
/-- (*berthing/tape.Reader).Flag -/
def c20 : VCode :=
  .seq (.ops [⟨some 2, none, .mov (.c (.bool false))⟩]) <|
  .seq (.seq (.ops [⟨some 4, none, .mov (.t 0)⟩, ⟨some 5, none, .bin .ptr .eql (.t 4) (.c .nilp)⟩, ⟨some 6, none, .mov (.t 5)⟩, ⟨some 7, some (6, false), .mov (.t 0)⟩, ⟨some 8, some (6, false), .nilCheck (.t 7)⟩, ⟨some 9, some (6, false), .fieldAddr 1 (.t 8)⟩, ⟨some 10, some (6, false), .load1 (.t 9)⟩, ⟨some 11, some (6, false), .bin .num .neq (.t 10) (.c (.int .i64 0))⟩, ⟨some 12, none, .pick (.t 6) (.c (.bool true)) (.t 11)⟩]) <|
  .cond (.t 12) (.seq (.ops [⟨some 2, none, .mov (.c (.bool false))⟩]) <|
   .ret) (.skip)) <|
  .seq (.block 0 (.seq (.ops [⟨some 14, none, .mov (.t 0)⟩, ⟨some 15, none, .nilCheck (.t 14)⟩, ⟨some 16, none, .fieldAddr 0 (.t 15)⟩, ⟨some 17, none, .load1 (.t 16)⟩, ⟨some 18, none, .lenS (.t 17)⟩, ⟨some 19, none, .bin .num .eql (.t 18) (.c (.int .i64 0))⟩, ⟨some 13, none, .mov (.t 19)⟩]) <|
   .cond (.t 13) (.seq (.ops [⟨some 20, none, .mov (.t 0)⟩, ⟨some 21, none, .call .shared 22 [(.t 20), (.c (.int .i64 10))]⟩]) <|
    .seq (.ops [⟨some 2, none, .mov (.c (.bool false))⟩]) <|
    .ret) (.seq (.ops [⟨some 23, none, .mov (.t 0)⟩, ⟨some 24, none, .nilCheck (.t 23)⟩, ⟨some 25, none, .fieldAddr 0 (.t 24)⟩, ⟨some 26, none, .load1 (.t 25)⟩, ⟨some 27, none, .idxAddrS 1 (.t 26) (.c (.int .i64 0))⟩, ⟨some 28, none, .load1 (.t 27)⟩, ⟨some 29, none, .bin .num .gtr (.t 28) (.c (.int .u8 1))⟩, ⟨some 22, none, .mov (.t 29)⟩]) <|
    .cond (.t 22) (.seq (.ops [⟨some 30, none, .mov (.t 0)⟩, ⟨some 31, none, .call .shared 22 [(.t 30), (.c (.int .i64 11))]⟩]) <|
     .seq (.ops [⟨some 2, none, .mov (.c (.bool false))⟩]) <|
     .ret) (.skip)))) <|
  .seq (.ops [⟨some 32, none, .mov (.t 0)⟩, ⟨some 33, none, .nilCheck (.t 32)⟩, ⟨some 34, none, .fieldAddr 0 (.t 33)⟩, ⟨some 35, none, .load1 (.t 34)⟩, ⟨some 36, none, .idxAddrS 1 (.t 35) (.c (.int .i64 0))⟩, ⟨some 37, none, .load1 (.t 36)⟩, ⟨some 38, none, .bin .num .eql (.t 37) (.c (.int .u8 1))⟩, ⟨some 3, none, .mov (.t 38)⟩]) <|
  .seq (.ops [⟨some 39, none, .mov (.t 0)⟩, ⟨some 40, none, .mov (.t 0)⟩, ⟨some 41, none, .nilCheck (.t 40)⟩, ⟨some 42, none, .fieldAddr 0 (.t 41)⟩, ⟨some 43, none, .load1 (.t 42)⟩, ⟨some 44, none, .sliceS 1 (.t 43) (some (.c (.int .i64 1))) none none⟩, ⟨some 45, none, .nilCheck (.t 39)⟩, ⟨some 46, none, .fieldAddr 0 (.t 45)⟩, ⟨none, none, .store1 (.t 46) (.t 44)⟩]) <|
  .seq (.ops [⟨some 47, none, .mov (.t 3)⟩, ⟨some 2, none, .mov (.t 47)⟩]) <|
  .ret
def v20 : VFunc := ⟨48, [.tmp 2], c20⟩
/-- (*berthing/berthingref12.Scan).Flag -/
def c21 : VCode :=
  .seq (.ops [⟨some 2, none, .mov (.c (.bool false))⟩]) <|
  .seq (.seq (.ops [⟨some 4, none, .mov (.t 0)⟩, ⟨some 5, none, .nilCheck (.t 4)⟩, ⟨some 6, none, .fieldAddr 1 (.t 5)⟩, ⟨some 7, none, .load1 (.t 6)⟩, ⟨some 8, none, .bin .num .neq (.t 7) (.c (.int .i64 0))⟩]) <|
  .cond (.t 8) (.seq (.ops [⟨some 2, none, .mov (.c (.bool false))⟩]) <|
   .ret) (.skip)) <|
  .seq (.seq (.ops [⟨some 9, none, .mov (.t 0)⟩, ⟨some 10, none, .nilCheck (.t 9)⟩, ⟨some 11, none, .fieldAddr 0 (.t 10)⟩, ⟨some 12, none, .load1 (.t 11)⟩, ⟨some 13, none, .bin .num .eql (.t 12) (.c (.str ⟨#[]⟩))⟩]) <|
  .cond (.t 13) (.seq (.ops [⟨some 14, none, .mov (.t 0)⟩, ⟨some 15, none, .call .shared 23 [(.t 14), (.c (.int .i64 10))]⟩]) <|
   .seq (.ops [⟨some 2, none, .mov (.c (.bool false))⟩]) <|
   .ret) (.skip)) <|
  .seq (.ops [⟨some 16, none, .mov (.t 0)⟩, ⟨some 17, none, .nilCheck (.t 16)⟩, ⟨some 18, none, .fieldAddr 0 (.t 17)⟩, ⟨some 19, none, .load1 (.t 18)⟩, ⟨some 20, none, .idxStr (.t 19) (.c (.int .i64 0))⟩, ⟨some 3, none, .mov (.t 20)⟩]) <|
  .seq (.seq (.ops [⟨some 21, none, .mov (.t 3)⟩, ⟨some 22, none, .bin .num .gtr (.t 21) (.c (.int .u8 1))⟩]) <|
  .cond (.t 22) (.seq (.ops [⟨some 23, none, .mov (.t 0)⟩, ⟨some 24, none, .call .shared 23 [(.t 23), (.c (.int .i64 11))]⟩]) <|
   .seq (.ops [⟨some 2, none, .mov (.c (.bool false))⟩]) <|
   .ret) (.skip)) <|
  .seq (.ops [⟨some 25, none, .mov (.t 0)⟩, ⟨some 26, none, .mov (.t 0)⟩, ⟨some 27, none, .nilCheck (.t 26)⟩, ⟨some 28, none, .fieldAddr 0 (.t 27)⟩, ⟨some 29, none, .load1 (.t 28)⟩, ⟨some 30, none, .sliceStr (.t 29) (some (.c (.int .i64 1))) none⟩, ⟨some 31, none, .nilCheck (.t 25)⟩, ⟨some 32, none, .fieldAddr 0 (.t 31)⟩, ⟨none, none, .store1 (.t 32) (.t 30)⟩]) <|
  .seq (.ops [⟨some 33, none, .mov (.t 3)⟩, ⟨some 34, none, .bin .num .eql (.t 33) (.c (.int .u8 1))⟩, ⟨some 2, none, .mov (.t 34)⟩]) <|
  .ret
def v21 : VFunc := ⟨35, [.tmp 2], c21⟩
/-- (*berthing/tape.Reader).Fail -/
def c22 : VCode :=
  .seq (.ops [⟨some 4, none, .mov (.t 0)⟩, ⟨some 5, none, .bin .ptr .neq (.t 4) (.c .nilp)⟩, ⟨some 6, none, .mov (.t 5)⟩, ⟨some 7, some (6, true), .mov (.t 0)⟩, ⟨some 8, some (6, true), .nilCheck (.t 7)⟩, ⟨some 9, some (6, true), .fieldAddr 1 (.t 8)⟩, ⟨some 10, some (6, true), .load1 (.t 9)⟩, ⟨some 11, some (6, true), .bin .num .eql (.t 10) (.c (.int .i64 0))⟩, ⟨some 12, none, .pick (.t 6) (.t 11) (.c (.bool false))⟩, ⟨some 13, none, .mov (.t 12)⟩, ⟨some 14, some (13, true), .mov (.t 1)⟩, ⟨some 15, some (13, true), .bin .num .neq (.t 14) (.c (.int .i64 0))⟩, ⟨some 16, none, .pick (.t 13) (.t 15) (.c (.bool false))⟩]) <|
  .cond (.t 16) (.ops [⟨some 17, none, .mov (.t 0)⟩, ⟨some 18, none, .mov (.t 0)⟩, ⟨some 19, none, .mov (.t 1)⟩, ⟨some 20, none, .nilCheck (.t 17)⟩, ⟨some 21, none, .fieldAddr 0 (.t 20)⟩, ⟨none, none, .store1 (.t 21) (.c (.sl .nil 0 []))⟩, ⟨some 22, none, .nilCheck (.t 18)⟩, ⟨some 23, none, .fieldAddr 1 (.t 22)⟩, ⟨none, none, .store1 (.t 23) (.t 19)⟩]) (.skip)
def v22 : VFunc := ⟨24, [], c22⟩
/-- (*berthing/berthingref12.Scan).Fail -/
def c23 : VCode :=
  .seq (.ops [⟨some 4, none, .mov (.t 0)⟩, ⟨some 5, none, .nilCheck (.t 4)⟩, ⟨some 6, none, .fieldAddr 1 (.t 5)⟩, ⟨some 7, none, .load1 (.t 6)⟩, ⟨some 8, none, .bin .num .eql (.t 7) (.c (.int .i64 0))⟩, ⟨some 9, none, .mov (.t 8)⟩, ⟨some 10, some (9, true), .mov (.t 1)⟩, ⟨some 11, some (9, true), .bin .num .neq (.t 10) (.c (.int .i64 0))⟩, ⟨some 12, none, .pick (.t 9) (.t 11) (.c (.bool false))⟩]) <|
  .cond (.t 12) (.ops [⟨some 13, none, .mov (.t 0)⟩, ⟨some 14, none, .mov (.t 0)⟩, ⟨some 15, none, .mov (.t 1)⟩, ⟨some 16, none, .nilCheck (.t 13)⟩, ⟨some 17, none, .fieldAddr 0 (.t 16)⟩, ⟨none, none, .store1 (.t 17) (.c (.str ⟨#[]⟩))⟩, ⟨some 18, none, .nilCheck (.t 14)⟩, ⟨some 19, none, .fieldAddr 1 (.t 18)⟩, ⟨none, none, .store1 (.t 19) (.t 15)⟩]) (.skip)
def v23 : VFunc := ⟨20, [], c23⟩
/-- (*berthing/tape.Reader).End -/
def c24 : VCode :=
  .seq (.ops [⟨some 2, none, .mov (.c (.int .i64 0))⟩]) <|
  .seq (.seq (.ops [⟨some 3, none, .mov (.t 0)⟩, ⟨some 4, none, .call .shared 26 [(.t 3)]⟩, ⟨some 5, none, .bin .num .gtr (.t 4) (.c (.int .i64 0))⟩]) <|
  .cond (.t 5) (.ops [⟨some 6, none, .mov (.t 0)⟩, ⟨some 7, none, .call .shared 22 [(.t 6), (.c (.int .i64 13))]⟩]) (.skip)) <|
  .seq (.ops [⟨some 8, none, .mov (.t 0)⟩, ⟨some 9, none, .call .shared 25 [(.t 8)]⟩, ⟨some 2, none, .mov (.t 9)⟩]) <|
  .ret
def v24 : VFunc := ⟨10, [.tmp 2], c24⟩
/-- (*berthing/tape.Reader).Err -/
def c25 : VCode :=
  .seq (.ops [⟨some 2, none, .mov (.c (.int .i64 0))⟩]) <|
  .seq (.seq (.ops [⟨some 3, none, .mov (.t 0)⟩, ⟨some 4, none, .bin .ptr .eql (.t 3) (.c .nilp)⟩]) <|
  .cond (.t 4) (.seq (.ops [⟨some 2, none, .mov (.c (.int .i64 1))⟩]) <|
   .ret) (.skip)) <|
  .seq (.ops [⟨some 5, none, .mov (.t 0)⟩, ⟨some 6, none, .nilCheck (.t 5)⟩, ⟨some 7, none, .fieldAddr 1 (.t 6)⟩, ⟨some 8, none, .load1 (.t 7)⟩, ⟨some 2, none, .mov (.t 8)⟩]) <|
  .ret
def v25 : VFunc := ⟨9, [.tmp 2], c25⟩
/-- (*berthing/tape.Reader).Left -/
def c26 : VCode :=
  .seq (.ops [⟨some 2, none, .mov (.c (.int .i64 0))⟩]) <|
  .seq (.seq (.ops [⟨some 3, none, .mov (.t 0)⟩, ⟨some 4, none, .bin .ptr .eql (.t 3) (.c .nilp)⟩]) <|
  .cond (.t 4) (.seq (.ops [⟨some 2, none, .mov (.c (.int .i64 0))⟩]) <|
   .ret) (.skip)) <|
  .seq (.ops [⟨some 5, none, .mov (.t 0)⟩, ⟨some 6, none, .nilCheck (.t 5)⟩, ⟨some 7, none, .fieldAddr 0 (.t 6)⟩, ⟨some 8, none, .load1 (.t 7)⟩, ⟨some 9, none, .lenS (.t 8)⟩, ⟨some 2, none, .mov (.t 9)⟩]) <|
  .ret
def v26 : VFunc := ⟨10, [.tmp 2], c26⟩
/-- (*berthing/tape.Tape).Signed -/
def c27 : VCode :=
  .ops [⟨some 4, none, .mov (.t 0)⟩, ⟨some 5, none, .mov (.t 1)⟩, ⟨some 6, none, .call .pure 35 [(.t 5)]⟩, ⟨some 7, none, .call .shared 8 [(.t 4), (.t 6)]⟩]
def v27 : VFunc := ⟨8, [], c27⟩
/-- (*berthing/tape.Tape).Flag -/
def c28 : VCode :=
  .seq (.seq (.ops [⟨some 4, none, .mov (.t 1)⟩]) <|
  .cond (.t 4) (.seq (.ops [⟨some 5, none, .mov (.t 0)⟩, ⟨some 6, none, .call .shared 8 [(.t 5), (.c (.int .u64 1))]⟩]) <|
   .ret) (.skip)) <|
  .ops [⟨some 7, none, .mov (.t 0)⟩, ⟨some 8, none, .call .shared 8 [(.t 7), (.c (.int .u64 0))]⟩]
def v28 : VFunc := ⟨9, [], c28⟩
/-- berthing/berthingref12.Signed -/
def c29 : VCode :=
  .seq (.ops [⟨some 2, none, .mov (.c (.str ⟨#[]⟩))⟩]) <|
  .seq (.seq (.ops [⟨some 3, none, .mov (.t 0)⟩, ⟨some 4, none, .bin .num .lss (.t 3) (.c (.int .i64 0))⟩]) <|
  .cond (.t 4) (.seq (.ops [⟨some 5, none, .mov (.t 0)⟩, ⟨some 6, none, .bin .num .add (.t 5) (.c (.int .i64 1))⟩, ⟨some 7, none, .un .neg (.t 6)⟩, ⟨some 8, none, .conv .u64 (.t 7)⟩, ⟨some 9, none, .bin .num .mul (.t 8) (.c (.int .u64 2))⟩, ⟨some 10, none, .bin .num .add (.t 9) (.c (.int .u64 1))⟩, ⟨some 11, none, .call .pure 12 [(.t 10)]⟩, ⟨some 2, none, .mov (.t 11)⟩]) <|
   .ret) (.skip)) <|
  .seq (.ops [⟨some 12, none, .mov (.t 0)⟩, ⟨some 13, none, .conv .u64 (.t 12)⟩, ⟨some 14, none, .bin .num .mul (.t 13) (.c (.int .u64 2))⟩, ⟨some 15, none, .call .pure 12 [(.t 14)]⟩, ⟨some 2, none, .mov (.t 15)⟩]) <|
  .ret
def v29 : VFunc := ⟨16, [.tmp 2], c29⟩
/-- berthing/berthingref12.Text -/
def c30 : VCode :=
  .seq (.ops [⟨some 2, none, .mov (.c (.str ⟨#[]⟩))⟩]) <|
  .seq (.ops [⟨some 3, none, .mov (.t 0)⟩, ⟨some 4, none, .lenStr (.t 3)⟩, ⟨some 5, none, .conv .u64 (.t 4)⟩, ⟨some 6, none, .call .pure 12 [(.t 5)]⟩, ⟨some 7, none, .mov (.t 0)⟩, ⟨some 8, none, .bin .num .add (.t 6) (.t 7)⟩, ⟨some 2, none, .mov (.t 8)⟩]) <|
  .ret
def v30 : VFunc := ⟨9, [.tmp 2], c30⟩
/-- berthing/berthingref12.Flag -/
def c31 : VCode :=
  .seq (.ops [⟨some 2, none, .mov (.c (.str ⟨#[]⟩))⟩]) <|
  .seq (.seq (.ops [⟨some 3, none, .mov (.t 0)⟩]) <|
  .cond (.t 3) (.seq (.ops [⟨some 2, none, .mov (.c (.str ⟨#[1]⟩))⟩]) <|
   .ret) (.skip)) <|
  .seq (.ops [⟨some 2, none, .mov (.c (.str ⟨#[0]⟩))⟩]) <|
  .ret
def v31 : VFunc := ⟨4, [.tmp 2], c31⟩
/-- slices.Clone[[]byte,byte] -/
def c32 : VCode :=
  .seq (.ops [⟨some 2, none, .mov (.c (.sl .nil 0 []))⟩]) <|
  .seq (.seq (.ops [⟨some 3, none, .mov (.t 0)⟩, ⟨some 4, none, .bin .sl .eql (.t 3) (.c (.sl .nil 0 []))⟩]) <|
  .cond (.t 4) (.seq (.ops [⟨some 2, none, .mov (.c (.sl .nil 0 []))⟩]) <|
   .ret) (.skip)) <|
  .seq (.ops [⟨some 5, none, .buildSlice false 1 0 [] []⟩, ⟨some 6, none, .mov (.t 0)⟩, ⟨some 7, none, .append false false 1 1 (.t 5) (.t 6)⟩, ⟨some 2, none, .mov (.t 7)⟩]) <|
  .ret
def v32 : VFunc := ⟨8, [.tmp 2], c32⟩
/-- (*berthing/tape.Reader).number -/
def c33 : VCode :=
  .seq (.ops [⟨some 2, none, .mov (.c (.int .u64 0))⟩, ⟨some 3, none, .mov (.c (.int .i64 0))⟩]) <|
  .seq (.ops [⟨some 4, none, .mov (.c (.int .u64 0))⟩]) <|
  .seq (.seq (.ops [⟨some 7, none, .mov (.t 0)⟩, ⟨some 8, none, .nilCheck (.t 7)⟩, ⟨some 9, none, .fieldAddr 0 (.t 8)⟩, ⟨some 10, none, .load1 (.t 9)⟩, ⟨some 11, none, .lenS (.t 10)⟩, ⟨some 12, none, .mov (.c (.int .i64 0))⟩]) <|
  .block 0 (.loop (.seq (.ops [⟨some 13, none, .bin .num .lss (.t 12) (.t 11)⟩]) <|
    .seq (.cond (.t 13) (.skip) (.exit 0)) <|
    .seq (.block 1 (.seq (.ops [⟨some 14, none, .mov (.t 12)⟩, ⟨some 15, none, .idxAddrS 1 (.t 10) (.t 12)⟩, ⟨some 16, none, .load1 (.t 15)⟩, ⟨some 5, none, .mov (.t 14)⟩, ⟨some 6, none, .mov (.t 16)⟩]) <|
     .seq (.ops [⟨some 17, none, .mov (.t 4)⟩, ⟨some 18, none, .mov (.t 6)⟩, ⟨some 19, none, .bin .num .andNot (.t 18) (.c (.int .u8 128))⟩, ⟨some 20, none, .conv .u64 (.t 19)⟩, ⟨some 21, none, .mov (.t 5)⟩, ⟨some 22, none, .bin .num .mul (.c (.int .i64 7)) (.t 21)⟩, ⟨some 23, none, .bin .num .shl (.t 20) (.t 22)⟩, ⟨some 24, none, .bin .num .or (.t 17) (.t 23)⟩, ⟨some 4, none, .mov (.t 24)⟩]) <|
     .block 2 (.seq (.ops [⟨some 26, none, .mov (.t 5)⟩, ⟨some 27, none, .bin .num .eql (.t 26) (.c (.int .i64 9))⟩, ⟨some 28, none, .mov (.t 27)⟩, ⟨some 29, some (28, true), .mov (.t 6)⟩, ⟨some 30, some (28, true), .bin .num .gtr (.t 29) (.c (.int .u8 1))⟩, ⟨some 31, none, .pick (.t 28) (.t 30) (.c (.bool false))⟩, ⟨some 25, none, .mov (.t 31)⟩]) <|
      .cond (.t 25) (.seq (.ops [⟨some 2, none, .mov (.c (.int .u64 0))⟩, ⟨some 3, none, .mov (.c (.int .i64 11))⟩]) <|
       .ret) (.seq (.ops [⟨some 33, none, .mov (.t 6)⟩, ⟨some 34, none, .bin .num .lss (.t 33) (.c (.int .u8 128))⟩, ⟨some 35, none, .mov (.t 34)⟩, ⟨some 36, some (35, true), .mov (.t 6)⟩, ⟨some 37, some (35, true), .bin .num .eql (.t 36) (.c (.int .u8 0))⟩, ⟨some 38, none, .pick (.t 35) (.t 37) (.c (.bool false))⟩, ⟨some 39, none, .mov (.t 38)⟩, ⟨some 40, some (39, true), .mov (.t 5)⟩, ⟨some 41, some (39, true), .bin .num .gtr (.t 40) (.c (.int .i64 0))⟩, ⟨some 42, none, .pick (.t 39) (.t 41) (.c (.bool false))⟩, ⟨some 32, none, .mov (.t 42)⟩]) <|
       .cond (.t 32) (.seq (.ops [⟨some 2, none, .mov (.c (.int .u64 0))⟩, ⟨some 3, none, .mov (.c (.int .i64 11))⟩]) <|
        .ret) (.seq (.ops [⟨some 44, none, .mov (.t 6)⟩, ⟨some 45, none, .bin .num .lss (.t 44) (.c (.int .u8 128))⟩, ⟨some 43, none, .mov (.t 45)⟩]) <|
        .cond (.t 43) (.seq (.ops [⟨some 46, none, .mov (.t 0)⟩, ⟨some 47, none, .mov (.t 0)⟩, ⟨some 48, none, .nilCheck (.t 47)⟩, ⟨some 49, none, .fieldAddr 0 (.t 48)⟩, ⟨some 50, none, .load1 (.t 49)⟩, ⟨some 51, none, .mov (.t 5)⟩, ⟨some 52, none, .bin .num .add (.t 51) (.c (.int .i64 1))⟩, ⟨some 53, none, .sliceS 1 (.t 50) (some (.t 52)) none none⟩, ⟨some 54, none, .nilCheck (.t 46)⟩, ⟨some 55, none, .fieldAddr 0 (.t 54)⟩, ⟨none, none, .store1 (.t 55) (.t 53)⟩]) <|
         .seq (.ops [⟨some 56, none, .mov (.t 4)⟩, ⟨some 2, none, .mov (.t 56)⟩, ⟨some 3, none, .mov (.c (.int .i64 0))⟩]) <|
         .ret) (.skip)))))) <|
    .ops [⟨some 57, none, .bin .num .add (.t 12) (.c (.int .i64 1))⟩, ⟨some 12, none, .mov (.t 57)⟩]))) <|
  .seq (.ops [⟨some 2, none, .mov (.c (.int .u64 0))⟩, ⟨some 3, none, .mov (.c (.int .i64 10))⟩]) <|
  .ret
def v33 : VFunc := ⟨58, [.tmp 2, .tmp 3], c33⟩
/-- berthing/checked.Zag -/
def c34 : VCode :=
  .seq (.ops [⟨some 2, none, .mov (.c (.int .i64 0))⟩]) <|
  .seq (.ops [⟨some 3, none, .mov (.t 0)⟩, ⟨some 4, none, .bin .num .shr (.t 3) (.c (.int .u64 1))⟩, ⟨some 5, none, .conv .i64 (.t 4)⟩, ⟨some 6, none, .mov (.t 0)⟩, ⟨some 7, none, .bin .num .and (.t 6) (.c (.int .u64 1))⟩, ⟨some 8, none, .conv .i64 (.t 7)⟩, ⟨some 9, none, .un .neg (.t 8)⟩, ⟨some 10, none, .bin .num .xor (.t 5) (.t 9)⟩, ⟨some 2, none, .mov (.t 10)⟩]) <|
  .ret
def v34 : VFunc := ⟨11, [.tmp 2], c34⟩
/-- berthing/checked.Zig -/
def c35 : VCode :=
  .seq (.ops [⟨some 2, none, .mov (.c (.int .u64 0))⟩]) <|
  .seq (.ops [⟨some 3, none, .mov (.t 0)⟩, ⟨some 4, none, .conv .u64 (.t 3)⟩, ⟨some 5, none, .bin .num .shl (.t 4) (.c (.int .u64 1))⟩, ⟨some 6, none, .mov (.t 0)⟩, ⟨some 7, none, .bin .num .shr (.t 6) (.c (.int .u64 63))⟩, ⟨some 8, none, .conv .u64 (.t 7)⟩, ⟨some 9, none, .bin .num .xor (.t 5) (.t 8)⟩, ⟨some 2, none, .mov (.t 9)⟩]) <|
  .ret
def v35 : VFunc := ⟨10, [.tmp 2], c35⟩
def ft : FuncId → Option VFunc := fun f => bif Nat.beq f 3 then some v3 else bif Nat.beq f 4 then some v4 else bif Nat.beq f 5 then some v5 else bif Nat.beq f 6 then some v6 else bif Nat.beq f 7 then some v7 else bif Nat.beq f 8 then some v8 else bif Nat.beq f 9 then some v9 else bif Nat.beq f 10 then some v10 else bif Nat.beq f 11 then some v11 else bif Nat.beq f 12 then some v12 else bif Nat.beq f 13 then some v13 else bif Nat.beq f 14 then some v14 else bif Nat.beq f 15 then some v15 else bif Nat.beq f 16 then some v16 else bif Nat.beq f 17 then some v17 else bif Nat.beq f 18 then some v18 else bif Nat.beq f 19 then some v19 else bif Nat.beq f 20 then some v20 else bif Nat.beq f 21 then some v21 else bif Nat.beq f 22 then some v22 else bif Nat.beq f 23 then some v23 else bif Nat.beq f 24 then some v24 else bif Nat.beq f 25 then some v25 else bif Nat.beq f 26 then some v26 else bif Nat.beq f 27 then some v27 else bif Nat.beq f 28 then some v28 else bif Nat.beq f 29 then some v29 else bif Nat.beq f 30 then some v30 else bif Nat.beq f 31 then some v31 else bif Nat.beq f 32 then some v32 else bif Nat.beq f 33 then some v33 else bif Nat.beq f 34 then some v34 else bif Nat.beq f 35 then some v35 else none
def env : Env := ⟨ft, md⟩
theorem is3 : FnComp ⟨Try.prog, md⟩ 3 v3 := ⟨Try.f3, _, fun t => ⟨false, md⟩, Try.func3, rfl, by kernel_rfl, by kernel_rfl, by kernel_rfl⟩
theorem is4 : FnComp ⟨Try.prog, md⟩ 4 v4 := ⟨Try.f4, _, fun t => ⟨false, md⟩, Try.func4, rfl, by kernel_rfl, by kernel_rfl, by kernel_rfl⟩
theorem is5 : FnComp ⟨Try.prog, md⟩ 5 v5 := ⟨Try.f5, _, fun t => ⟨false, md⟩, Try.func5, rfl, by kernel_rfl, by kernel_rfl, by kernel_rfl⟩
theorem is6 : FnComp ⟨Try.prog, md⟩ 6 v6 := ⟨Try.f6, _, fun t => ⟨false, md⟩, Try.func6, rfl, by kernel_rfl, by kernel_rfl, by kernel_rfl⟩
theorem is7 : FnComp ⟨Try.prog, md⟩ 7 v7 := ⟨Try.f7, _, fun t => ⟨false, md⟩, Try.func7, rfl, by kernel_rfl, by kernel_rfl, by kernel_rfl⟩
theorem is8 : FnComp ⟨Try.prog, md⟩ 8 v8 := ⟨Try.f8, _, fun t => ⟨false, md⟩, Try.func8, rfl, by kernel_rfl, by kernel_rfl, by kernel_rfl⟩
theorem is9 : FnComp ⟨Try.prog, md⟩ 9 v9 := ⟨Try.f9, _, fun t => ⟨false, md⟩, Try.func9, rfl, by kernel_rfl, by kernel_rfl, by kernel_rfl⟩
theorem is10 : FnComp ⟨Try.prog, md⟩ 10 v10 := ⟨Try.f10, _, fun t => ⟨false, md⟩, Try.func10, rfl, by kernel_rfl, by kernel_rfl, by kernel_rfl⟩
theorem is11 : FnComp ⟨Try.prog, md⟩ 11 v11 := ⟨Try.f11, _, fun t => ⟨false, md⟩, Try.func11, rfl, by kernel_rfl, by kernel_rfl, by kernel_rfl⟩
theorem is12 : FnComp ⟨Try.prog, md⟩ 12 v12 := ⟨Try.f12, _, fun t => ⟨false, md⟩, Try.func12, rfl, by kernel_rfl, by kernel_rfl, by kernel_rfl⟩
theorem is13 : FnComp ⟨Try.prog, md⟩ 13 v13 := ⟨Try.f13, _, fun t => ⟨false, md⟩, Try.func13, rfl, by kernel_rfl, by kernel_rfl, by kernel_rfl⟩
theorem is14 : FnComp ⟨Try.prog, md⟩ 14 v14 := ⟨Try.f14, _, fun t => ⟨false, md⟩, Try.func14, rfl, by kernel_rfl, by kernel_rfl, by kernel_rfl⟩
theorem is15 : FnComp ⟨Try.prog, md⟩ 15 v15 := ⟨Try.f15, _, fun t => ⟨false, md⟩, Try.func15, rfl, by kernel_rfl, by kernel_rfl, by kernel_rfl⟩
theorem is16 : FnComp ⟨Try.prog, md⟩ 16 v16 := ⟨Try.f16, _, fun t => ⟨false, md⟩, Try.func16, rfl, by kernel_rfl, by kernel_rfl, by kernel_rfl⟩
theorem is17 : FnComp ⟨Try.prog, md⟩ 17 v17 := ⟨Try.f17, _, fun t => ⟨false, md⟩, Try.func17, rfl, by kernel_rfl, by kernel_rfl, by kernel_rfl⟩
theorem is18 : FnComp ⟨Try.prog, md⟩ 18 v18 := ⟨Try.f18, _, fun t => ⟨false, md⟩, Try.func18, rfl, by kernel_rfl, by kernel_rfl, by kernel_rfl⟩
theorem is19 : FnComp ⟨Try.prog, md⟩ 19 v19 := ⟨Try.f19, _, fun t => ⟨false, md⟩, Try.func19, rfl, by kernel_rfl, by kernel_rfl, by kernel_rfl⟩
theorem is20 : FnComp ⟨Try.prog, md⟩ 20 v20 := ⟨Try.f20, _, fun t => ⟨false, md⟩, Try.func20, rfl, by kernel_rfl, by kernel_rfl, by kernel_rfl⟩
theorem is21 : FnComp ⟨Try.prog, md⟩ 21 v21 := ⟨Try.f21, _, fun t => ⟨false, md⟩, Try.func21, rfl, by kernel_rfl, by kernel_rfl, by kernel_rfl⟩
theorem is22 : FnComp ⟨Try.prog, md⟩ 22 v22 := ⟨Try.f22, _, fun t => ⟨false, md⟩, Try.func22, rfl, by kernel_rfl, by kernel_rfl, by kernel_rfl⟩
theorem is23 : FnComp ⟨Try.prog, md⟩ 23 v23 := ⟨Try.f23, _, fun t => ⟨false, md⟩, Try.func23, rfl, by kernel_rfl, by kernel_rfl, by kernel_rfl⟩
theorem is24 : FnComp ⟨Try.prog, md⟩ 24 v24 := ⟨Try.f24, _, fun t => ⟨false, md⟩, Try.func24, rfl, by kernel_rfl, by kernel_rfl, by kernel_rfl⟩
theorem is25 : FnComp ⟨Try.prog, md⟩ 25 v25 := ⟨Try.f25, _, fun t => ⟨false, md⟩, Try.func25, rfl, by kernel_rfl, by kernel_rfl, by kernel_rfl⟩
theorem is26 : FnComp ⟨Try.prog, md⟩ 26 v26 := ⟨Try.f26, _, fun t => ⟨false, md⟩, Try.func26, rfl, by kernel_rfl, by kernel_rfl, by kernel_rfl⟩
theorem is27 : FnComp ⟨Try.prog, md⟩ 27 v27 := ⟨Try.f27, _, fun t => ⟨false, md⟩, Try.func27, rfl, by kernel_rfl, by kernel_rfl, by kernel_rfl⟩
theorem is28 : FnComp ⟨Try.prog, md⟩ 28 v28 := ⟨Try.f28, _, fun t => ⟨false, md⟩, Try.func28, rfl, by kernel_rfl, by kernel_rfl, by kernel_rfl⟩
theorem is29 : FnComp ⟨Try.prog, md⟩ 29 v29 := ⟨Try.f29, _, fun t => ⟨false, md⟩, Try.func29, rfl, by kernel_rfl, by kernel_rfl, by kernel_rfl⟩
theorem is30 : FnComp ⟨Try.prog, md⟩ 30 v30 := ⟨Try.f30, _, fun t => ⟨false, md⟩, Try.func30, rfl, by kernel_rfl, by kernel_rfl, by kernel_rfl⟩
theorem is31 : FnComp ⟨Try.prog, md⟩ 31 v31 := ⟨Try.f31, _, fun t => ⟨false, md⟩, Try.func31, rfl, by kernel_rfl, by kernel_rfl, by kernel_rfl⟩
theorem is32 : FnComp ⟨Try.prog, md⟩ 32 v32 := ⟨Try.f32, _, fun t => ⟨false, md⟩, Try.func32, rfl, by kernel_rfl, by kernel_rfl, by kernel_rfl⟩
theorem is33 : FnComp ⟨Try.prog, md⟩ 33 v33 := ⟨Try.f33, _, fun t => ⟨false, md⟩, Try.func33, rfl, by kernel_rfl, by kernel_rfl, by kernel_rfl⟩
theorem is34 : FnComp ⟨Try.prog, md⟩ 34 v34 := ⟨Try.f34, _, fun t => ⟨false, md⟩, Try.func34, rfl, by kernel_rfl, by kernel_rfl, by kernel_rfl⟩
theorem is35 : FnComp ⟨Try.prog, md⟩ 35 v35 := ⟨Try.f35, _, fun t => ⟨false, md⟩, Try.func35, rfl, by kernel_rfl, by kernel_rfl, by kernel_rfl⟩

theorem envOK : EnvOK ⟨Try.prog, md⟩ env := ⟨rfl, by kernel_rfl, fun f vf h => by
  change ft f = some vf at h
  unfold ft at h
  rcases ft_cons h with ⟨h1, h2⟩ | h
  · rw [h1, h2]; exact is3
  rcases ft_cons h with ⟨h1, h2⟩ | h
  · rw [h1, h2]; exact is4
  rcases ft_cons h with ⟨h1, h2⟩ | h
  · rw [h1, h2]; exact is5
  rcases ft_cons h with ⟨h1, h2⟩ | h
  · rw [h1, h2]; exact is6
  rcases ft_cons h with ⟨h1, h2⟩ | h
  · rw [h1, h2]; exact is7
  rcases ft_cons h with ⟨h1, h2⟩ | h
  · rw [h1, h2]; exact is8
  rcases ft_cons h with ⟨h1, h2⟩ | h
  · rw [h1, h2]; exact is9
  rcases ft_cons h with ⟨h1, h2⟩ | h
  · rw [h1, h2]; exact is10
  rcases ft_cons h with ⟨h1, h2⟩ | h
  · rw [h1, h2]; exact is11
  rcases ft_cons h with ⟨h1, h2⟩ | h
  · rw [h1, h2]; exact is12
  rcases ft_cons h with ⟨h1, h2⟩ | h
  · rw [h1, h2]; exact is13
  rcases ft_cons h with ⟨h1, h2⟩ | h
  · rw [h1, h2]; exact is14
  rcases ft_cons h with ⟨h1, h2⟩ | h
  · rw [h1, h2]; exact is15
  rcases ft_cons h with ⟨h1, h2⟩ | h
  · rw [h1, h2]; exact is16
  rcases ft_cons h with ⟨h1, h2⟩ | h
  · rw [h1, h2]; exact is17
  rcases ft_cons h with ⟨h1, h2⟩ | h
  · rw [h1, h2]; exact is18
  rcases ft_cons h with ⟨h1, h2⟩ | h
  · rw [h1, h2]; exact is19
  rcases ft_cons h with ⟨h1, h2⟩ | h
  · rw [h1, h2]; exact is20
  rcases ft_cons h with ⟨h1, h2⟩ | h
  · rw [h1, h2]; exact is21
  rcases ft_cons h with ⟨h1, h2⟩ | h
  · rw [h1, h2]; exact is22
  rcases ft_cons h with ⟨h1, h2⟩ | h
  · rw [h1, h2]; exact is23
  rcases ft_cons h with ⟨h1, h2⟩ | h
  · rw [h1, h2]; exact is24
  rcases ft_cons h with ⟨h1, h2⟩ | h
  · rw [h1, h2]; exact is25
  rcases ft_cons h with ⟨h1, h2⟩ | h
  · rw [h1, h2]; exact is26
  rcases ft_cons h with ⟨h1, h2⟩ | h
  · rw [h1, h2]; exact is27
  rcases ft_cons h with ⟨h1, h2⟩ | h
  · rw [h1, h2]; exact is28
  rcases ft_cons h with ⟨h1, h2⟩ | h
  · rw [h1, h2]; exact is29
  rcases ft_cons h with ⟨h1, h2⟩ | h
  · rw [h1, h2]; exact is30
  rcases ft_cons h with ⟨h1, h2⟩ | h
  · rw [h1, h2]; exact is31
  rcases ft_cons h with ⟨h1, h2⟩ | h
  · rw [h1, h2]; exact is32
  rcases ft_cons h with ⟨h1, h2⟩ | h
  · rw [h1, h2]; exact is33
  rcases ft_cons h with ⟨h1, h2⟩ | h
  · rw [h1, h2]; exact is34
  rcases ft_cons h with ⟨h1, h2⟩ | h
  · rw [h1, h2]; exact is35
  cases h⟩
end Go.Proofs.Ytpebkojodmjleaa
