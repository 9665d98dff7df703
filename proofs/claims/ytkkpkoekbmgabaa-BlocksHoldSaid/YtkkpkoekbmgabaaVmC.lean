/-
  The functions of this seat as code of the abstract machine, and that they are so. Printed by a program.
-/
import Derived.Test.YtkkpkoekbmgabaaV12
import Derived.Test.YtkkpkoekbmgabaaBsP
import Derived.Test.YtkkpkoekbmgabaaChecked
import Derived.KernelRfl
set_option linter.all false
set_option linter.unusedVariables false
set_option linter.unusedSimpArgs false
set_option linter.unusedSectionVars false
namespace Go.Proofs.Ytkkpkoekbmgabaa
open Go Go.VM

def md : FuncId → VM.Mode := fun f => bif Nat.beq f 8 then .shared else bif Nat.beq f 9 then .shared else bif Nat.beq f 10 then .shared else bif Nat.beq f 11 then .shared else bif Nat.beq f 12 then .shared else bif Nat.beq f 13 then .shared else bif Nat.beq f 14 then .shared else bif Nat.beq f 15 then .shared else bif Nat.beq f 16 then .shared else bif Nat.beq f 18 then .shared else bif Nat.beq f 19 then .shared else bif Nat.beq f 20 then .shared else bif Nat.beq f 29 then .shared else bif Nat.beq f 30 then .shared else bif Nat.beq f 33 then .shared else bif Nat.beq f 34 then .shared else bif Nat.beq f 36 then .shared else bif Nat.beq f 40 then .shared else bif Nat.beq f 41 then .shared else bif Nat.beq f 42 then .shared else bif Nat.beq f 45 then .shared else bif Nat.beq f 46 then .shared else bif Nat.beq f 47 then .shared else bif Nat.beq f 51 then .shared else .pure
/-- berthing/berthinglaw08.BlocksHold -/
def c3 : VCode :=
  .seq (.ops [⟨some 4, none, .mov (.c (.bool false))⟩]) <|
  .seq (.seq (.ops [⟨some 16, none, .call .pure 6 []⟩, ⟨some 17, none, .un .not (.t 16)⟩]) <|
  .cond (.t 17) (.seq (.ops [⟨some 4, none, .mov (.c (.bool false))⟩]) <|
   .ret) (.skip)) <|
  .seq (.seq (.ops [⟨some 18, none, .mov (.t 1)⟩, ⟨some 19, none, .call .pure 7 [(.t 18)]⟩, ⟨some 20, none, .mov (.t 19)⟩, ⟨some 21, some (20, false), .mov (.t 0)⟩, ⟨some 22, some (20, false), .lenS (.t 21)⟩, ⟨some 23, some (20, false), .bin .num .gtr (.t 22) (.c (.int .i64 20))⟩, ⟨some 24, none, .pick (.t 20) (.c (.bool true)) (.t 23)⟩]) <|
  .cond (.t 24) (.seq (.ops [⟨some 4, none, .mov (.c (.bool true))⟩]) <|
   .ret) (.skip)) <|
  .seq (.ops [⟨some 26, none, .mov (.t 0)⟩, ⟨some 27, none, .call .shared 8 [(.t 26)]⟩, ⟨some 25, none, .mov (.t 27)⟩, ⟨some 28, none, .extract 0 (.t 25)⟩, ⟨some 29, none, .extract 1 (.t 25)⟩, ⟨some 5, none, .mov (.t 28)⟩, ⟨some 6, none, .mov (.t 29)⟩]) <|
  .seq (.seq (.ops [⟨some 30, none, .mov (.t 6)⟩, ⟨some 31, none, .bin .num .neq (.t 30) (.c (.int .i64 0))⟩]) <|
  .cond (.t 31) (.seq (.ops [⟨some 32, none, .mov (.t 5)⟩, ⟨some 33, none, .bin .ptr .eql (.t 32) (.c .nilp)⟩, ⟨some 4, none, .mov (.t 33)⟩]) <|
   .ret) (.skip)) <|
  .seq (.seq (.ops [⟨some 34, none, .mov (.t 1)⟩, ⟨some 35, none, .lenS (.t 34)⟩, ⟨some 36, none, .mov (.c (.int .i64 0))⟩]) <|
  .block 0 (.loop (.seq (.ops [⟨some 37, none, .bin .num .lss (.t 36) (.t 35)⟩]) <|
    .seq (.cond (.t 37) (.skip) (.exit 0)) <|
    .seq (.block 1 (.seq (.ops [⟨some 38, none, .idxAddrS 13 (.t 34) (.t 36)⟩, ⟨some 39, none, .loadN 13 (.t 38)⟩, ⟨some 8, none, .alloc [(.int .i64 0), (.int .i64 0), (.str ⟨#[]⟩), (.str ⟨#[]⟩), (.int .i64 0), (.int .i64 0), (.int .i64 0), (.int .i64 0), (.int .i64 0), (.int .i64 0), (.int .i64 0), (.int .i64 0), (.int .i64 0)]⟩, ⟨none, none, .storeN 13 (.t 8) (.t 39)⟩]) <|
     .seq (.ops [⟨some 40, none, .fieldAddr 0 (.t 8)⟩, ⟨some 41, none, .load1 (.t 40)⟩, ⟨some 42, none, .conv .u64 (.t 41)⟩, ⟨some 43, none, .bin .num .rem (.t 42) (.c (.int .u64 7))⟩, ⟨some 44, none, .bin .num .eql (.t 43) (.c (.int .u64 5))⟩]) <|
     .cond (.t 44) (.ops [⟨some 45, none, .mov (.t 5)⟩, ⟨some 46, none, .fieldAddr 2 (.t 8)⟩, ⟨some 47, none, .fieldAddr 0 (.t 46)⟩, ⟨some 48, none, .load1 (.t 47)⟩, ⟨some 49, none, .call .shared 9 [(.t 45), (.t 48)]⟩]) (.ops [⟨some 50, none, .mov (.t 5)⟩, ⟨some 51, none, .fieldAddr 2 (.t 8)⟩, ⟨some 52, none, .loadN 3 (.t 51)⟩, ⟨some 53, none, .fieldAddr 5 (.t 8)⟩, ⟨some 54, none, .loadN 8 (.t 53)⟩, ⟨some 55, none, .call .shared 10 [(.t 50), (.t 52), (.t 54)]⟩]))) <|
    .ops [⟨some 56, none, .bin .num .add (.t 36) (.c (.int .i64 1))⟩, ⟨some 36, none, .mov (.t 56)⟩]))) <|
  .seq (.ops [⟨some 9, none, .alloc [(.int .i64 0), (.int .i64 0), (.int .i64 0), (.int .i64 0), (.int .i64 0), (.int .i64 0), (.int .i64 0), (.int .i64 0), (.int .i64 0), (.int .i64 0), (.int .i64 0), (.int .i64 0), (.int .i64 0), (.int .i64 0), (.int .i64 0), (.int .i64 0)]⟩]) <|
  .seq (.seq (.ops [⟨some 57, none, .mov (.t 5)⟩, ⟨some 58, none, .call .shared 11 [(.t 57), (.c (.int .i64 500))]⟩, ⟨some 59, none, .lenS (.t 58)⟩, ⟨some 60, none, .mov (.c (.int .i64 0))⟩]) <|
  .block 2 (.loop (.seq (.ops [⟨some 61, none, .bin .num .lss (.t 60) (.t 59)⟩]) <|
    .seq (.cond (.t 61) (.skip) (.exit 2)) <|
    .seq (.block 3 (.seq (.ops [⟨some 62, none, .idxAddrS 11 (.t 58) (.t 60)⟩, ⟨some 63, none, .loadN 11 (.t 62)⟩, ⟨some 11, none, .alloc [(.str ⟨#[]⟩), (.str ⟨#[]⟩), (.int .i64 0), (.int .i64 0), (.int .i64 0), (.int .i64 0), (.int .i64 0), (.int .i64 0), (.int .i64 0), (.int .i64 0), (.int .i64 0)]⟩, ⟨none, none, .storeN 11 (.t 11) (.t 63)⟩]) <|
     .seq (.seq (.ops [⟨some 64, none, .fieldAddr 0 (.t 11)⟩, ⟨some 65, none, .fieldAddr 2 (.t 64)⟩, ⟨some 66, none, .load1 (.t 65)⟩, ⟨some 67, none, .bin .num .lss (.t 66) (.c (.int .i64 0))⟩, ⟨some 68, none, .mov (.t 67)⟩, ⟨some 69, some (68, false), .fieldAddr 0 (.t 11)⟩, ⟨some 70, some (68, false), .fieldAddr 2 (.t 69)⟩, ⟨some 71, some (68, false), .load1 (.t 70)⟩, ⟨some 72, some (68, false), .bin .num .gtr (.t 71) (.c (.int .i64 1))⟩, ⟨some 73, none, .pick (.t 68) (.c (.bool true)) (.t 72)⟩]) <|
     .cond (.t 73) (.seq (.ops [⟨some 4, none, .mov (.c (.bool false))⟩]) <|
      .ret) (.skip)) <|
     .seq (.ops [⟨some 74, none, .fieldAddr 3 (.t 11)⟩, ⟨some 75, none, .loadN 8 (.t 74)⟩, ⟨some 76, none, .mov (.c (.int .i64 0))⟩]) <|
     .block 4 (.loop (.seq (.ops [⟨some 77, none, .bin .num .lss (.t 76) (.c (.int .i64 8))⟩]) <|
       .seq (.cond (.t 77) (.skip) (.exit 4)) <|
       .seq (.block 5 (.seq (.ops [⟨some 78, none, .mov (.t 76)⟩, ⟨some 79, none, .idxA1 8 (.t 75) (.t 76)⟩, ⟨some 12, none, .mov (.t 78)⟩, ⟨some 13, none, .mov (.t 79)⟩]) <|
        .ops [⟨some 80, none, .fieldAddr 0 (.t 11)⟩, ⟨some 81, none, .fieldAddr 2 (.t 80)⟩, ⟨some 82, none, .load1 (.t 81)⟩, ⟨some 83, none, .mov (.t 12)⟩, ⟨some 84, none, .idxAddrA 2 8 (.t 9) (.t 82)⟩, ⟨some 85, none, .idxAddrA 8 1 (.t 84) (.t 83)⟩, ⟨some 86, none, .load1 (.t 85)⟩, ⟨some 87, none, .mov (.t 13)⟩, ⟨some 88, none, .bin .num .add (.t 86) (.t 87)⟩, ⟨some 89, none, .idxAddrA 2 8 (.t 9) (.t 82)⟩, ⟨some 90, none, .idxAddrA 8 1 (.t 89) (.t 83)⟩, ⟨none, none, .store1 (.t 90) (.t 88)⟩])) <|
       .ops [⟨some 91, none, .bin .num .add (.t 76) (.c (.int .i64 1))⟩, ⟨some 76, none, .mov (.t 91)⟩])))) <|
    .ops [⟨some 92, none, .bin .num .add (.t 60) (.c (.int .i64 1))⟩, ⟨some 60, none, .mov (.t 92)⟩]))) <|
  .seq (.seq (.ops [⟨some 93, none, .mov (.t 0)⟩, ⟨some 94, none, .lenS (.t 93)⟩, ⟨some 95, none, .mov (.c (.int .i64 0))⟩]) <|
  .block 6 (.loop (.seq (.ops [⟨some 96, none, .bin .num .lss (.t 95) (.t 94)⟩]) <|
    .seq (.cond (.t 96) (.skip) (.exit 6)) <|
    .seq (.block 7 (.seq (.ops [⟨some 97, none, .mov (.t 95)⟩, ⟨some 14, none, .mov (.t 97)⟩]) <|
     .seq (.ops [⟨some 98, none, .mov (.c (.int .i64 0))⟩]) <|
     .block 8 (.loop (.seq (.ops [⟨some 99, none, .bin .num .lss (.t 98) (.c (.int .i64 2))⟩]) <|
       .seq (.cond (.t 99) (.skip) (.exit 8)) <|
       .seq (.block 9 (.seq (.ops [⟨some 100, none, .mov (.t 98)⟩, ⟨some 15, none, .mov (.t 100)⟩]) <|
        .seq (.draw [] [⟨some 101, none, .mov (.t 15)⟩, ⟨some 102, none, .mov (.t 14)⟩, ⟨some 103, none, .idxAddrA 2 8 (.t 9) (.t 101)⟩, ⟨some 104, none, .idxAddrA 8 1 (.t 103) (.t 102)⟩, ⟨some 105, none, .load1 (.t 104)⟩, ⟨some 106, none, .bin .num .lss (.t 105) (.c (.int .i64 0))⟩, ⟨some 107, none, .mov (.t 106)⟩, ⟨some 108, some (107, false), .mov (.t 15)⟩, ⟨some 109, some (107, false), .mov (.t 14)⟩, ⟨some 110, some (107, false), .idxAddrA 2 8 (.t 9) (.t 108)⟩, ⟨some 111, some (107, false), .idxAddrA 8 1 (.t 110) (.t 109)⟩, ⟨some 112, some (107, false), .load1 (.t 111)⟩, ⟨some 113, some (107, false), .mov (.t 5)⟩, ⟨some 114, some (107, false), .mov (.t 14)⟩, ⟨some 115, some (107, false), .mov (.t 15)⟩, ⟨some 116, some (107, false), .call .shared 12 [(.t 113), (.t 114), (.t 115)]⟩, ⟨some 117, some (107, false), .bin .num .gtr (.t 112) (.t 116)⟩, ⟨some 118, none, .pick (.t 107) (.c (.bool true)) (.t 117)⟩, ⟨some 119, none, .mov (.t 118)⟩, ⟨some 120, some (119, false), .mov (.t 15)⟩, ⟨some 121, some (119, false), .mov (.t 14)⟩, ⟨some 122, some (119, false), .idxAddrA 2 8 (.t 9) (.t 120)⟩, ⟨some 123, some (119, false), .idxAddrA 8 1 (.t 122) (.t 121)⟩, ⟨some 124, some (119, false), .load1 (.t 123)⟩, ⟨some 125, some (119, false), .mov (.t 5)⟩, ⟨some 126, some (119, false), .mov (.t 14)⟩, ⟨some 127, some (119, false), .mov (.t 15)⟩, ⟨some 128, some (119, false), .call .shared 13 [(.t 125), (.t 126), (.t 127)]⟩, ⟨some 129, some (119, false), .bin .num .add (.t 124) (.t 128)⟩, ⟨some 130, some (119, false), .mov (.t 5)⟩, ⟨some 131, some (119, false), .mov (.t 14)⟩, ⟨some 132, some (119, false), .mov (.t 15)⟩, ⟨some 133, some (119, false), .call .shared 12 [(.t 130), (.t 131), (.t 132)]⟩, ⟨some 134, some (119, false), .bin .num .neq (.t 129) (.t 133)⟩, ⟨some 135, none, .pick (.t 119) (.c (.bool true)) (.t 134)⟩] [(11, 15), (23, 27), (23, 32)]) <|
        .cond (.t 135) (.seq (.ops [⟨some 4, none, .mov (.c (.bool false))⟩]) <|
         .ret) (.skip))) <|
       .ops [⟨some 136, none, .bin .num .add (.t 98) (.c (.int .i64 1))⟩, ⟨some 98, none, .mov (.t 136)⟩])))) <|
    .ops [⟨some 137, none, .bin .num .add (.t 95) (.c (.int .i64 1))⟩, ⟨some 95, none, .mov (.t 137)⟩]))) <|
  .seq (.ops [⟨some 4, none, .mov (.c (.bool true))⟩]) <|
  .ret
def v3 : VFunc := ⟨138, [.tmp 4], c3⟩
/-- berthing/berthinglaw08.BlocksBack -/
def c4 : VCode :=
  .seq (.ops [⟨some 5, none, .box (.t 2)⟩, ⟨some 6, none, .mov (.c (.bool false))⟩]) <|
  .seq (.seq (.ops [⟨some 13, none, .call .pure 6 []⟩, ⟨some 14, none, .un .not (.t 13)⟩]) <|
  .cond (.t 14) (.seq (.ops [⟨some 6, none, .mov (.c (.bool false))⟩]) <|
   .ret) (.skip)) <|
  .seq (.seq (.ops [⟨some 15, none, .mov (.t 1)⟩, ⟨some 16, none, .call .pure 7 [(.t 15)]⟩, ⟨some 17, none, .mov (.t 16)⟩, ⟨some 18, some (17, false), .loadN 13 (.t 5)⟩, ⟨some 19, some (17, false), .buildSlice false 13 1 [(.int .i64 0), (.int .i64 0), (.str ⟨#[]⟩), (.str ⟨#[]⟩), (.int .i64 0), (.int .i64 0), (.int .i64 0), (.int .i64 0), (.int .i64 0), (.int .i64 0), (.int .i64 0), (.int .i64 0), (.int .i64 0)] [(0, 13, (.t 18))]⟩, ⟨some 20, some (17, false), .call .pure 7 [(.t 19)]⟩, ⟨some 21, none, .pick (.t 17) (.c (.bool true)) (.t 20)⟩, ⟨some 22, none, .mov (.t 21)⟩, ⟨some 23, some (22, false), .mov (.t 0)⟩, ⟨some 24, some (22, false), .lenS (.t 23)⟩, ⟨some 25, some (22, false), .bin .num .gtr (.t 24) (.c (.int .i64 20))⟩, ⟨some 26, none, .pick (.t 22) (.c (.bool true)) (.t 25)⟩]) <|
  .cond (.t 26) (.seq (.ops [⟨some 6, none, .mov (.c (.bool true))⟩]) <|
   .ret) (.skip)) <|
  .seq (.ops [⟨some 28, none, .mov (.t 0)⟩, ⟨some 29, none, .call .shared 8 [(.t 28)]⟩, ⟨some 27, none, .mov (.t 29)⟩, ⟨some 30, none, .extract 0 (.t 27)⟩, ⟨some 31, none, .extract 1 (.t 27)⟩, ⟨some 7, none, .mov (.t 30)⟩, ⟨some 8, none, .mov (.t 31)⟩]) <|
  .seq (.seq (.ops [⟨some 32, none, .mov (.t 8)⟩, ⟨some 33, none, .bin .num .neq (.t 32) (.c (.int .i64 0))⟩]) <|
  .cond (.t 33) (.seq (.ops [⟨some 34, none, .mov (.t 7)⟩, ⟨some 35, none, .bin .ptr .eql (.t 34) (.c .nilp)⟩, ⟨some 6, none, .mov (.t 35)⟩]) <|
   .ret) (.skip)) <|
  .seq (.seq (.ops [⟨some 36, none, .mov (.t 1)⟩, ⟨some 37, none, .lenS (.t 36)⟩, ⟨some 38, none, .mov (.c (.int .i64 0))⟩]) <|
  .block 0 (.loop (.seq (.ops [⟨some 39, none, .bin .num .lss (.t 38) (.t 37)⟩]) <|
    .seq (.cond (.t 39) (.skip) (.exit 0)) <|
    .seq (.block 1 (.seq (.ops [⟨some 40, none, .idxAddrS 13 (.t 36) (.t 38)⟩, ⟨some 41, none, .loadN 13 (.t 40)⟩, ⟨some 10, none, .alloc [(.int .i64 0), (.int .i64 0), (.str ⟨#[]⟩), (.str ⟨#[]⟩), (.int .i64 0), (.int .i64 0), (.int .i64 0), (.int .i64 0), (.int .i64 0), (.int .i64 0), (.int .i64 0), (.int .i64 0), (.int .i64 0)]⟩, ⟨none, none, .storeN 13 (.t 10) (.t 41)⟩]) <|
     .seq (.ops [⟨some 42, none, .fieldAddr 0 (.t 10)⟩, ⟨some 43, none, .load1 (.t 42)⟩, ⟨some 44, none, .bin .num .and (.t 43) (.c (.int .i64 3))⟩, ⟨some 45, none, .bin .num .eql (.t 44) (.c (.int .i64 3))⟩]) <|
     .cond (.t 45) (.ops [⟨some 46, none, .mov (.t 7)⟩, ⟨some 47, none, .fieldAddr 2 (.t 10)⟩, ⟨some 48, none, .fieldAddr 0 (.t 47)⟩, ⟨some 49, none, .load1 (.t 48)⟩, ⟨some 50, none, .call .shared 9 [(.t 46), (.t 49)]⟩]) (.ops [⟨some 51, none, .mov (.t 7)⟩, ⟨some 52, none, .fieldAddr 2 (.t 10)⟩, ⟨some 53, none, .loadN 3 (.t 52)⟩, ⟨some 54, none, .fieldAddr 5 (.t 10)⟩, ⟨some 55, none, .loadN 8 (.t 54)⟩, ⟨some 56, none, .call .shared 10 [(.t 51), (.t 53), (.t 55)]⟩]))) <|
    .ops [⟨some 57, none, .bin .num .add (.t 38) (.c (.int .i64 1))⟩, ⟨some 38, none, .mov (.t 57)⟩]))) <|
  .seq (.draw [(12, .z [(.int .i64 0), (.int .i64 0), (.int .i64 0), (.int .i64 0), (.int .i64 0), (.int .i64 0), (.int .i64 0), (.int .i64 0)])] [⟨some 58, none, .mov (.t 7)⟩, ⟨some 59, none, .call .shared 14 [(.t 58)]⟩, ⟨some 60, none, .mov (.t 7)⟩, ⟨some 61, none, .fieldAddr 2 (.t 5)⟩, ⟨some 62, none, .loadN 3 (.t 61)⟩, ⟨some 63, none, .call .shared 15 [(.t 60), (.t 62)]⟩, ⟨none, none, .idle⟩, ⟨some 11, none, .mov (.t 59)⟩, ⟨none, none, .storeN 8 (.t 12) (.t 63)⟩] [(4, 1)]) <|
  .seq (.seq (.ops [⟨some 64, none, .mov (.t 7)⟩, ⟨some 65, none, .fieldAddr 2 (.t 5)⟩, ⟨some 66, none, .loadN 3 (.t 65)⟩, ⟨some 67, none, .fieldAddr 5 (.t 5)⟩, ⟨some 68, none, .loadN 8 (.t 67)⟩, ⟨some 69, none, .call .shared 10 [(.t 64), (.t 66), (.t 68)]⟩, ⟨some 70, none, .bin .num .eql (.t 69) (.c (.int .i64 0))⟩]) <|
  .cond (.t 70) (.seq (.draw [] [⟨some 71, none, .mov (.t 7)⟩, ⟨some 72, none, .fieldAddr 2 (.t 5)⟩, ⟨some 73, none, .loadN 3 (.t 72)⟩, ⟨some 74, none, .call .shared 15 [(.t 71), (.t 73)]⟩, ⟨some 75, none, .fieldAddr 5 (.t 5)⟩, ⟨some 76, none, .loadN 8 (.t 75)⟩, ⟨some 77, none, .bin (.agg [.i, .i, .i, .i, .i, .i, .i, .i]) .neq (.t 74) (.t 76)⟩, ⟨some 78, none, .mov (.t 77)⟩, ⟨some 79, some (78, false), .mov (.t 7)⟩, ⟨some 80, some (78, false), .fieldAddr 2 (.t 5)⟩, ⟨some 81, some (78, false), .loadN 3 (.t 80)⟩, ⟨some 82, some (78, false), .loadN 8 (.t 12)⟩, ⟨some 83, some (78, false), .call .shared 10 [(.t 79), (.t 81), (.t 82)]⟩, ⟨some 84, some (78, false), .bin .num .neq (.t 83) (.c (.int .i64 0))⟩, ⟨some 85, none, .pick (.t 78) (.c (.bool true)) (.t 84)⟩] [(5, 3)]) <|
   .cond (.t 85) (.seq (.ops [⟨some 6, none, .mov (.c (.bool false))⟩]) <|
    .ret) (.skip)) (.skip)) <|
  .seq (.ops [⟨some 86, none, .mov (.t 7)⟩, ⟨some 87, none, .mov (.t 11)⟩, ⟨some 88, none, .call .shared 16 [(.t 86), (.t 87)]⟩, ⟨some 6, none, .mov (.t 88)⟩]) <|
  .ret
def v4 : VFunc := ⟨89, [.tmp 6], c4⟩
/-- berthing/berthinglaw08.BlocksPlay -/
def c5 : VCode :=
  .seq (.ops [⟨some 1, none, .box (.t 0)⟩, ⟨some 2, none, .mov (.c (.bool false))⟩]) <|
  .seq (.seq (.ops [⟨some 29, none, .call .pure 6 []⟩, ⟨some 30, none, .un .not (.t 29)⟩]) <|
  .cond (.t 30) (.seq (.ops [⟨some 2, none, .mov (.c (.bool false))⟩]) <|
   .ret) (.skip)) <|
  .seq (.ops [⟨some 31, none, .fieldAddr 0 (.t 1)⟩, ⟨some 32, none, .load1 (.t 31)⟩, ⟨some 33, none, .fieldAddr 1 (.t 1)⟩, ⟨some 34, none, .load1 (.t 33)⟩, ⟨some 35, none, .fieldAddr 2 (.t 1)⟩, ⟨some 36, none, .load1 (.t 35)⟩, ⟨some 37, none, .fieldAddr 3 (.t 1)⟩, ⟨some 38, none, .load1 (.t 37)⟩, ⟨some 3, none, .mov (.t 32)⟩, ⟨some 4, none, .mov (.t 34)⟩, ⟨some 5, none, .mov (.t 36)⟩, ⟨some 6, none, .mov (.t 38)⟩]) <|
  .seq (.seq (.ops [⟨some 39, none, .mov (.t 4)⟩, ⟨some 40, none, .call .pure 7 [(.t 39)]⟩, ⟨some 41, none, .mov (.t 40)⟩, ⟨some 42, some (41, false), .mov (.t 3)⟩, ⟨some 43, some (41, false), .lenS (.t 42)⟩, ⟨some 44, some (41, false), .bin .num .gtr (.t 43) (.c (.int .i64 20))⟩, ⟨some 45, none, .pick (.t 41) (.c (.bool true)) (.t 44)⟩]) <|
  .cond (.t 45) (.seq (.ops [⟨some 2, none, .mov (.c (.bool true))⟩]) <|
   .ret) (.skip)) <|
  .seq (.ops [⟨some 47, none, .mov (.t 3)⟩, ⟨some 48, none, .call .shared 8 [(.t 47)]⟩, ⟨some 46, none, .mov (.t 48)⟩, ⟨some 49, none, .extract 0 (.t 46)⟩, ⟨some 50, none, .extract 1 (.t 46)⟩, ⟨some 7, none, .mov (.t 49)⟩, ⟨some 8, none, .mov (.t 50)⟩]) <|
  .seq (.seq (.ops [⟨some 51, none, .mov (.t 3)⟩, ⟨some 52, none, .call .pure 17 [(.t 51)]⟩, ⟨some 53, none, .un .not (.t 52)⟩]) <|
  .cond (.t 53) (.seq (.ops [⟨some 55, none, .mov (.t 7)⟩, ⟨some 56, none, .call .shared 18 [(.t 55), (.c (.int .i64 0))]⟩, ⟨some 54, none, .mov (.t 56)⟩, ⟨some 57, none, .extract 0 (.t 54)⟩, ⟨some 58, none, .extract 1 (.t 54)⟩, ⟨some 9, none, .alloc [(.int .i64 0), (.int .i64 0), (.int .i64 0), (.int .i64 0)]⟩, ⟨none, none, .storeN 4 (.t 9) (.t 57)⟩, ⟨some 10, none, .mov (.t 58)⟩]) <|
   .seq (.ops [⟨some 59, none, .mov (.t 8)⟩, ⟨some 60, none, .bin .num .eql (.t 59) (.c (.int .i64 2))⟩, ⟨some 61, none, .mov (.t 60)⟩, ⟨some 62, some (61, true), .mov (.t 7)⟩, ⟨some 63, some (61, true), .bin .ptr .eql (.t 62) (.c .nilp)⟩, ⟨some 64, none, .pick (.t 61) (.t 63) (.c (.bool false))⟩, ⟨some 65, none, .mov (.t 64)⟩, ⟨some 66, some (65, true), .mov (.t 10)⟩, ⟨some 67, some (65, true), .un .not (.t 66)⟩, ⟨some 68, none, .pick (.t 65) (.t 67) (.c (.bool false))⟩, ⟨some 69, none, .mov (.t 68)⟩, ⟨some 70, some (69, true), .mov (.t 7)⟩, ⟨some 71, some (69, true), .call .shared 19 [(.t 70)]⟩, ⟨some 72, some (69, true), .mov (.t 7)⟩, ⟨some 73, some (69, true), .call .shared 12 [(.t 72), (.c (.int .i64 0)), (.c (.int .i64 0))]⟩, ⟨some 74, some (69, true), .bin .num .add (.t 71) (.t 73)⟩, ⟨some 75, some (69, true), .mov (.t 7)⟩, ⟨some 76, some (69, true), .call .shared 13 [(.t 75), (.c (.int .i64 0)), (.c (.int .i64 0))]⟩, ⟨some 77, some (69, true), .bin .num .add (.t 74) (.t 76)⟩, ⟨some 78, some (69, true), .mov (.t 7)⟩, ⟨some 79, some (69, true), .call .shared 9 [(.t 78), (.c (.str ⟨#[97]⟩))]⟩, ⟨some 80, some (69, true), .bin .num .add (.t 77) (.t 79)⟩, ⟨some 81, some (69, true), .mov (.t 7)⟩, ⟨some 82, some (69, true), .call .shared 11 [(.t 81), (.c (.int .i64 9))]⟩, ⟨some 83, some (69, true), .lenS (.t 82)⟩, ⟨some 84, some (69, true), .bin .num .add (.t 80) (.t 83)⟩, ⟨some 85, some (69, true), .bin .num .eql (.t 84) (.c (.int .i64 0))⟩, ⟨some 86, none, .pick (.t 69) (.t 85) (.c (.bool false))⟩, ⟨some 87, none, .mov (.t 86)⟩, ⟨some 88, some (87, true), .mov (.t 7)⟩, ⟨some 89, some (87, true), .build [(.str ⟨#[]⟩), (.str ⟨#[]⟩), (.int .i64 0)] [(0, 1, (.c (.str ⟨#[97]⟩))), (1, 1, (.c (.str ⟨#[97]⟩)))]⟩, ⟨some 90, some (87, true), .build [(.int .i64 0), (.int .i64 0), (.int .i64 0), (.int .i64 0), (.int .i64 0), (.int .i64 0), (.int .i64 0), (.int .i64 0)] []⟩, ⟨some 91, some (87, true), .call .shared 10 [(.t 88), (.t 89), (.t 90)]⟩, ⟨some 92, some (87, true), .bin .num .eql (.t 91) (.c (.int .i64 1))⟩, ⟨some 93, none, .pick (.t 87) (.t 92) (.c (.bool false))⟩, ⟨some 94, none, .mov (.t 93)⟩, ⟨some 95, some (94, true), .mov (.t 7)⟩, ⟨some 96, some (94, true), .build [(.str ⟨#[]⟩), (.str ⟨#[]⟩), (.int .i64 0)] []⟩, ⟨some 97, some (94, true), .call .shared 15 [(.t 95), (.t 96)]⟩, ⟨some 98, some (94, true), .build [(.int .i64 0), (.int .i64 0), (.int .i64 0), (.int .i64 0), (.int .i64 0), (.int .i64 0), (.int .i64 0), (.int .i64 0)] []⟩, ⟨some 99, some (94, true), .bin (.agg [.i, .i, .i, .i, .i, .i, .i, .i]) .eql (.t 97) (.t 98)⟩, ⟨some 100, none, .pick (.t 94) (.t 99) (.c (.bool false))⟩, ⟨some 101, none, .mov (.t 100)⟩, ⟨some 102, some (101, true), .mov (.t 7)⟩, ⟨some 103, some (101, true), .call .shared 20 [(.t 102), (.c (.int .i64 0))]⟩, ⟨some 104, some (101, true), .build [(.int .i64 0), (.int .i64 0), (.int .i64 0), (.int .i64 0), (.int .i64 0), (.int .i64 0), (.int .i64 0), (.int .i64 0)] []⟩, ⟨some 105, some (101, true), .bin (.agg [.i, .i, .i, .i, .i, .i, .i, .i]) .eql (.t 103) (.t 104)⟩, ⟨some 106, none, .pick (.t 101) (.t 105) (.c (.bool false))⟩, ⟨some 107, none, .mov (.t 106)⟩, ⟨some 108, some (107, true), .mov (.t 7)⟩, ⟨some 109, some (107, true), .call .shared 14 [(.t 108)]⟩, ⟨some 110, some (107, true), .bin .ptr .eql (.t 109) (.c .nilp)⟩, ⟨some 111, none, .pick (.t 107) (.t 110) (.c (.bool false))⟩, ⟨some 112, none, .mov (.t 111)⟩, ⟨some 113, some (112, true), .mov (.t 7)⟩, ⟨some 114, some (112, true), .call .shared 16 [(.t 113), (.c .nilp)]⟩, ⟨some 115, none, .pick (.t 112) (.t 114) (.c (.bool false))⟩, ⟨some 2, none, .mov (.t 115)⟩]) <|
   .ret) (.skip)) <|
  .seq (.ops [⟨some 116, none, .mov (.t 7)⟩, ⟨some 117, none, .buildSlice false 1 1 [.nilp] [(0, 1, (.t 116))]⟩, ⟨some 118, none, .mov (.t 3)⟩, ⟨some 119, none, .build [(.sl .nil 0 []), (.sl .nil 0 [])] [(0, 1, (.t 118))]⟩, ⟨some 120, none, .buildSlice false 2 1 [(.sl .nil 0 []), (.sl .nil 0 [])] [(0, 2, (.t 119))]⟩, ⟨some 11, none, .mov (.t 117)⟩, ⟨some 12, none, .mov (.t 120)⟩]) <|
  .seq (.seq (.ops [⟨some 121, none, .mov (.t 4)⟩, ⟨some 122, none, .lenS (.t 121)⟩, ⟨some 123, none, .mov (.c (.int .i64 0))⟩]) <|
  .block 0 (.loop (.seq (.ops [⟨some 124, none, .bin .num .lss (.t 123) (.t 122)⟩]) <|
    .seq (.cond (.t 124) (.skip) (.exit 0)) <|
    .seq (.block 1 (.seq (.ops [⟨some 125, none, .idxAddrS 13 (.t 121) (.t 123)⟩, ⟨some 126, none, .loadN 13 (.t 125)⟩, ⟨some 14, none, .alloc [(.int .i64 0), (.int .i64 0), (.str ⟨#[]⟩), (.str ⟨#[]⟩), (.int .i64 0), (.int .i64 0), (.int .i64 0), (.int .i64 0), (.int .i64 0), (.int .i64 0), (.int .i64 0), (.int .i64 0), (.int .i64 0)]⟩, ⟨none, none, .storeN 13 (.t 14) (.t 126)⟩]) <|
     .seq (.ops [⟨some 127, none, .fieldAddr 1 (.t 14)⟩, ⟨some 128, none, .load1 (.t 127)⟩, ⟨some 129, none, .conv .u64 (.t 128)⟩, ⟨some 130, none, .mov (.t 11)⟩, ⟨some 131, none, .lenS (.t 130)⟩, ⟨some 132, none, .conv .u64 (.t 131)⟩, ⟨some 133, none, .bin .num .rem (.t 129) (.t 132)⟩, ⟨some 134, none, .conv .i64 (.t 133)⟩, ⟨some 15, none, .mov (.t 134)⟩]) <|
     .seq (.ops [⟨some 135, none, .fieldAddr 0 (.t 14)⟩, ⟨some 136, none, .load1 (.t 135)⟩, ⟨some 137, none, .conv .u64 (.t 136)⟩, ⟨some 138, none, .bin .num .rem (.t 137) (.c (.int .u64 7))⟩, ⟨some 16, none, .mov (.t 138)⟩]) <|
     .block 2 (.seq (.ops [⟨some 182, none, .mov (.t 16)⟩, ⟨some 183, none, .bin .num .eql (.t 182) (.c (.int .u64 5))⟩, ⟨some 181, none, .mov (.t 183)⟩]) <|
      .cond (.t 181) (.seq (.draw [(17, .z [(.sl .nil 0 []), (.sl .nil 0 [])])] [⟨some 184, none, .mov (.t 12)⟩, ⟨some 185, none, .mov (.t 15)⟩, ⟨some 186, none, .idxAddrS 2 (.t 184) (.t 185)⟩, ⟨some 187, none, .loadN 2 (.t 186)⟩, ⟨some 188, none, .fieldAddr 2 (.t 14)⟩, ⟨some 189, none, .fieldAddr 0 (.t 188)⟩, ⟨some 190, none, .load1 (.t 189)⟩, ⟨some 191, none, .call .pure 21 [(.t 187), (.t 190)]⟩, ⟨none, none, .idle⟩, ⟨none, none, .storeN 2 (.t 17) (.t 191)⟩] []) <|
       .seq (.seq (.draw [] [⟨some 192, none, .mov (.t 11)⟩, ⟨some 193, none, .mov (.t 15)⟩, ⟨some 194, none, .idxAddrS 1 (.t 192) (.t 193)⟩, ⟨some 195, none, .load1 (.t 194)⟩, ⟨some 196, none, .fieldAddr 2 (.t 14)⟩, ⟨some 197, none, .fieldAddr 0 (.t 196)⟩, ⟨some 198, none, .load1 (.t 197)⟩, ⟨some 199, none, .call .shared 9 [(.t 195), (.t 198)]⟩, ⟨some 200, none, .mov (.t 12)⟩, ⟨some 201, none, .mov (.t 15)⟩, ⟨some 202, none, .idxAddrS 2 (.t 200) (.t 201)⟩, ⟨some 203, none, .fieldAddr 1 (.t 202)⟩, ⟨some 204, none, .load1 (.t 203)⟩, ⟨some 205, none, .lenS (.t 204)⟩, ⟨some 206, none, .fieldAddr 1 (.t 17)⟩, ⟨some 207, none, .load1 (.t 206)⟩, ⟨some 208, none, .lenS (.t 207)⟩, ⟨some 209, none, .bin .num .sub (.t 205) (.t 208)⟩, ⟨some 210, none, .bin .num .neq (.t 199) (.t 209)⟩] [(12, 7), (15, 7)]) <|
       .cond (.t 210) (.seq (.ops [⟨some 2, none, .mov (.c (.bool false))⟩]) <|
        .ret) (.skip)) <|
       .ops [⟨some 211, none, .mov (.t 12)⟩, ⟨some 212, none, .mov (.t 15)⟩, ⟨some 213, none, .loadN 2 (.t 17)⟩, ⟨some 214, none, .idxAddrS 2 (.t 211) (.t 212)⟩, ⟨none, none, .storeN 2 (.t 214) (.t 213)⟩]) (.seq (.ops [⟨some 216, none, .mov (.t 16)⟩, ⟨some 217, none, .bin .num .eql (.t 216) (.c (.int .u64 6))⟩, ⟨some 215, none, .mov (.t 217)⟩]) <|
       .cond (.t 215) (.seq (.ops [⟨some 218, none, .mov (.t 11)⟩, ⟨some 219, none, .lenS (.t 218)⟩, ⟨some 220, none, .bin .num .lss (.t 219) (.c (.int .i64 4))⟩]) <|
        .cond (.t 220) (.draw [] [⟨some 221, none, .mov (.t 11)⟩, ⟨some 222, none, .mov (.t 11)⟩, ⟨some 223, none, .mov (.t 15)⟩, ⟨some 224, none, .idxAddrS 1 (.t 222) (.t 223)⟩, ⟨some 225, none, .load1 (.t 224)⟩, ⟨some 226, none, .call .shared 14 [(.t 225)]⟩, ⟨some 227, none, .buildSlice false 1 1 [.nilp] [(0, 1, (.t 226))]⟩, ⟨some 228, none, .append false false 1 8 (.t 221) (.t 227)⟩, ⟨some 229, none, .mov (.t 12)⟩, ⟨some 230, none, .mov (.t 12)⟩, ⟨some 231, none, .mov (.t 15)⟩, ⟨some 232, none, .idxAddrS 2 (.t 230) (.t 231)⟩, ⟨some 233, none, .loadN 2 (.t 232)⟩, ⟨some 234, none, .buildSlice false 2 1 [(.sl .nil 0 []), (.sl .nil 0 [])] [(0, 2, (.t 233))]⟩, ⟨some 235, none, .append false false 2 48 (.t 229) (.t 234)⟩, ⟨some 11, none, .mov (.t 228)⟩, ⟨some 12, none, .mov (.t 235)⟩] [(12, 5), (12, 7)]) (.skip)) (.seq (.draw [(18, .z [(.sl .nil 0 []), (.sl .nil 0 [])])] [⟨some 140, none, .mov (.t 12)⟩, ⟨some 141, none, .mov (.t 15)⟩, ⟨some 142, none, .idxAddrS 2 (.t 140) (.t 141)⟩, ⟨some 143, none, .loadN 2 (.t 142)⟩, ⟨some 144, none, .fieldAddr 2 (.t 14)⟩, ⟨some 145, none, .loadN 3 (.t 144)⟩, ⟨some 146, none, .fieldAddr 5 (.t 14)⟩, ⟨some 147, none, .loadN 8 (.t 146)⟩, ⟨some 148, none, .call .pure 22 [(.t 143), (.t 145), (.t 147)]⟩, ⟨some 139, none, .mov (.t 148)⟩, ⟨some 149, none, .extract 0 (.t 139)⟩, ⟨some 150, none, .extract 1 (.t 139)⟩, ⟨none, none, .idle⟩, ⟨none, none, .storeN 2 (.t 18) (.t 149)⟩, ⟨some 19, none, .mov (.t 150)⟩] []) <|
        .seq (.seq (.ops [⟨some 151, none, .mov (.t 11)⟩, ⟨some 152, none, .mov (.t 15)⟩, ⟨some 153, none, .idxAddrS 1 (.t 151) (.t 152)⟩, ⟨some 154, none, .load1 (.t 153)⟩, ⟨some 155, none, .fieldAddr 2 (.t 14)⟩, ⟨some 156, none, .loadN 3 (.t 155)⟩, ⟨some 157, none, .fieldAddr 5 (.t 14)⟩, ⟨some 158, none, .loadN 8 (.t 157)⟩, ⟨some 159, none, .call .shared 10 [(.t 154), (.t 156), (.t 158)]⟩, ⟨some 20, none, .mov (.t 159)⟩]) <|
        .seq (.draw [] [⟨some 160, none, .mov (.t 20)⟩, ⟨some 161, none, .mov (.t 19)⟩, ⟨some 162, none, .bin .num .neq (.t 160) (.t 161)⟩, ⟨some 163, none, .mov (.t 162)⟩, ⟨some 164, some (163, false), .mov (.t 11)⟩, ⟨some 165, some (163, false), .mov (.t 15)⟩, ⟨some 166, some (163, false), .idxAddrS 1 (.t 164) (.t 165)⟩, ⟨some 167, some (163, false), .load1 (.t 166)⟩, ⟨some 168, some (163, false), .fieldAddr 2 (.t 14)⟩, ⟨some 169, some (163, false), .loadN 3 (.t 168)⟩, ⟨some 170, some (163, false), .call .shared 15 [(.t 167), (.t 169)]⟩, ⟨some 171, some (163, false), .loadN 2 (.t 18)⟩, ⟨some 172, some (163, false), .fieldAddr 2 (.t 14)⟩, ⟨some 173, some (163, false), .loadN 3 (.t 172)⟩, ⟨some 174, some (163, false), .call .pure 23 [(.t 171), (.t 173)]⟩, ⟨some 175, some (163, false), .bin (.agg [.i, .i, .i, .i, .i, .i, .i, .i]) .neq (.t 170) (.t 174)⟩, ⟨some 176, none, .pick (.t 163) (.c (.bool true)) (.t 175)⟩] [(11, 10), (13, 10)]) <|
        .cond (.t 176) (.seq (.ops [⟨some 2, none, .mov (.c (.bool false))⟩]) <|
         .ret) (.skip)) <|
        .ops [⟨some 177, none, .mov (.t 12)⟩, ⟨some 178, none, .mov (.t 15)⟩, ⟨some 179, none, .loadN 2 (.t 18)⟩, ⟨some 180, none, .idxAddrS 2 (.t 177) (.t 178)⟩, ⟨none, none, .storeN 2 (.t 180) (.t 179)⟩]))))) <|
    .ops [⟨some 236, none, .bin .num .add (.t 123) (.c (.int .i64 1))⟩, ⟨some 123, none, .mov (.t 236)⟩]))) <|
  .seq (.seq (.ops [⟨some 237, none, .mov (.t 11)⟩, ⟨some 238, none, .lenS (.t 237)⟩, ⟨some 239, none, .mov (.c (.int .i64 0))⟩]) <|
  .block 3 (.loop (.seq (.ops [⟨some 240, none, .bin .num .lss (.t 239) (.t 238)⟩]) <|
    .seq (.cond (.t 240) (.skip) (.exit 3)) <|
    .seq (.block 4 (.seq (.ops [⟨some 241, none, .mov (.t 239)⟩, ⟨some 242, none, .idxAddrS 1 (.t 237) (.t 239)⟩, ⟨some 243, none, .load1 (.t 242)⟩, ⟨some 21, none, .mov (.t 241)⟩, ⟨some 22, none, .mov (.t 243)⟩]) <|
     .seq (.ops [⟨some 245, none, .mov (.t 22)⟩, ⟨some 246, none, .mov (.t 5)⟩, ⟨some 247, none, .call .shared 18 [(.t 245), (.t 246)]⟩, ⟨some 244, none, .mov (.t 247)⟩, ⟨some 248, none, .extract 0 (.t 244)⟩, ⟨some 249, none, .extract 1 (.t 244)⟩, ⟨some 23, none, .alloc [(.int .i64 0), (.int .i64 0), (.int .i64 0), (.int .i64 0)]⟩, ⟨none, none, .storeN 4 (.t 23) (.t 248)⟩, ⟨some 24, none, .mov (.t 249)⟩]) <|
     .seq (.ops [⟨some 250, none, .mov (.t 5)⟩, ⟨some 251, none, .bin .num .geq (.t 250) (.c (.int .i64 0))⟩, ⟨some 252, none, .mov (.t 251)⟩, ⟨some 253, some (252, true), .mov (.t 5)⟩, ⟨some 254, some (252, true), .mov (.t 3)⟩, ⟨some 255, some (252, true), .lenS (.t 254)⟩, ⟨some 256, some (252, true), .bin .num .lss (.t 253) (.t 255)⟩, ⟨some 257, none, .pick (.t 252) (.t 256) (.c (.bool false))⟩, ⟨some 25, none, .mov (.t 257)⟩]) <|
     .seq (.seq (.draw [] [⟨some 258, none, .mov (.t 22)⟩, ⟨some 259, none, .call .shared 19 [(.t 258)]⟩, ⟨some 260, none, .mov (.t 3)⟩, ⟨some 261, none, .lenS (.t 260)⟩, ⟨some 262, none, .bin .num .neq (.t 259) (.t 261)⟩, ⟨some 263, none, .mov (.t 262)⟩, ⟨some 264, some (263, false), .mov (.t 24)⟩, ⟨some 265, some (263, false), .mov (.t 25)⟩, ⟨some 266, some (263, false), .bin .bool .neq (.t 264) (.t 265)⟩, ⟨some 267, none, .pick (.t 263) (.c (.bool true)) (.t 266)⟩, ⟨some 268, none, .mov (.t 267)⟩, ⟨some 269, some (268, false), .mov (.t 25)⟩, ⟨some 270, some (268, false), .mov (.t 269)⟩, ⟨some 271, some (270, true), .loadN 4 (.t 23)⟩, ⟨some 272, some (270, true), .mov (.t 3)⟩, ⟨some 273, some (270, true), .mov (.t 5)⟩, ⟨some 274, some (270, true), .idxAddrS 4 (.t 272) (.t 273)⟩, ⟨some 275, some (270, true), .loadN 4 (.t 274)⟩, ⟨some 276, some (270, true), .bin (.agg [.i, .i, .i, .i]) .neq (.t 271) (.t 275)⟩, ⟨some 277, some (268, false), .pick (.t 270) (.t 276) (.c (.bool false))⟩, ⟨some 278, none, .pick (.t 268) (.c (.bool true)) (.t 277)⟩, ⟨some 279, none, .mov (.t 278)⟩, ⟨some 280, some (279, false), .mov (.t 22)⟩, ⟨some 281, some (279, false), .mov (.t 5)⟩, ⟨some 282, some (279, false), .mov (.t 6)⟩, ⟨some 283, some (279, false), .call .shared 12 [(.t 280), (.t 281), (.t 282)]⟩, ⟨some 284, some (279, false), .mov (.t 12)⟩, ⟨some 285, some (279, false), .mov (.t 21)⟩, ⟨some 286, some (279, false), .idxAddrS 2 (.t 284) (.t 285)⟩, ⟨some 287, some (279, false), .loadN 2 (.t 286)⟩, ⟨some 288, some (279, false), .mov (.t 5)⟩, ⟨some 289, some (279, false), .mov (.t 6)⟩, ⟨some 290, some (279, false), .call .pure 24 [(.t 287), (.t 288), (.t 289)]⟩, ⟨some 291, some (279, false), .bin .num .neq (.t 283) (.t 290)⟩, ⟨some 292, none, .pick (.t 279) (.c (.bool true)) (.t 291)⟩, ⟨some 293, none, .mov (.t 292)⟩, ⟨some 294, some (293, false), .mov (.t 22)⟩, ⟨some 295, some (293, false), .mov (.t 5)⟩, ⟨some 296, some (293, false), .mov (.t 6)⟩, ⟨some 297, some (293, false), .call .shared 13 [(.t 294), (.t 295), (.t 296)]⟩, ⟨some 298, some (293, false), .mov (.t 12)⟩, ⟨some 299, some (293, false), .mov (.t 21)⟩, ⟨some 300, some (293, false), .idxAddrS 2 (.t 298) (.t 299)⟩, ⟨some 301, some (293, false), .loadN 2 (.t 300)⟩, ⟨some 302, some (293, false), .mov (.t 5)⟩, ⟨some 303, some (293, false), .mov (.t 6)⟩, ⟨some 304, some (293, false), .call .pure 25 [(.t 301), (.t 302), (.t 303)]⟩, ⟨some 305, some (293, false), .bin .num .neq (.t 297) (.t 304)⟩, ⟨some 306, none, .pick (.t 293) (.c (.bool true)) (.t 305)⟩, ⟨some 307, none, .mov (.t 306)⟩, ⟨some 308, some (307, false), .mov (.t 22)⟩, ⟨some 309, some (307, false), .call .shared 11 [(.t 308), (.c (.int .i64 500))]⟩, ⟨some 310, some (307, false), .mov (.t 12)⟩, ⟨some 311, some (307, false), .mov (.t 21)⟩, ⟨some 312, some (307, false), .idxAddrS 2 (.t 310) (.t 311)⟩, ⟨some 313, some (307, false), .fieldAddr 1 (.t 312)⟩, ⟨some 314, some (307, false), .load1 (.t 313)⟩, ⟨some 315, some (307, false), .call .pure 26 [(.t 309), (.t 314)]⟩, ⟨some 316, some (307, false), .un .not (.t 315)⟩, ⟨some 317, none, .pick (.t 307) (.c (.bool true)) (.t 316)⟩, ⟨some 318, none, .mov (.t 317)⟩, ⟨some 319, some (318, false), .mov (.t 22)⟩, ⟨some 320, some (318, false), .mov (.t 11)⟩, ⟨some 321, some (318, false), .idxAddrS 1 (.t 320) (.c (.int .i64 0))⟩, ⟨some 322, some (318, false), .load1 (.t 321)⟩, ⟨some 323, some (318, false), .call .shared 16 [(.t 319), (.t 322)]⟩, ⟨some 324, some (318, false), .mov (.t 12)⟩, ⟨some 325, some (318, false), .mov (.t 21)⟩, ⟨some 326, some (318, false), .idxAddrS 2 (.t 324) (.t 325)⟩, ⟨some 327, some (318, false), .fieldAddr 1 (.t 326)⟩, ⟨some 328, some (318, false), .load1 (.t 327)⟩, ⟨some 329, some (318, false), .mov (.t 12)⟩, ⟨some 330, some (318, false), .idxAddrS 2 (.t 329) (.c (.int .i64 0))⟩, ⟨some 331, some (318, false), .fieldAddr 1 (.t 330)⟩, ⟨some 332, some (318, false), .load1 (.t 331)⟩, ⟨some 333, some (318, false), .call .pure 26 [(.t 328), (.t 332)]⟩, ⟨some 334, some (318, false), .bin .bool .neq (.t 323) (.t 333)⟩, ⟨some 335, none, .pick (.t 318) (.c (.bool true)) (.t 334)⟩] [(29, 25), (43, 39), (56, 51), (70, 65), (74, 65)]) <|
     .cond (.t 335) (.seq (.ops [⟨some 2, none, .mov (.c (.bool false))⟩]) <|
      .ret) (.skip)) <|
     .seq (.ops [⟨some 336, none, .mov (.t 6)⟩, ⟨some 337, none, .minmax false [(.t 336), (.c (.int .i64 1))]⟩, ⟨some 338, none, .minmax true [(.c (.int .i64 0)), (.t 337)]⟩, ⟨some 26, none, .mov (.t 338)⟩]) <|
     .seq (.ops [⟨some 339, none, .mov (.t 22)⟩, ⟨some 340, none, .mov (.t 26)⟩, ⟨some 341, none, .call .shared 20 [(.t 339), (.t 340)]⟩, ⟨some 27, none, .alloc [(.int .i64 0), (.int .i64 0), (.int .i64 0), (.int .i64 0), (.int .i64 0), (.int .i64 0), (.int .i64 0), (.int .i64 0)]⟩, ⟨none, none, .storeN 8 (.t 27) (.t 341)⟩]) <|
     .seq (.ops [⟨some 342, none, .mov (.c (.int .i64 0))⟩]) <|
     .block 5 (.loop (.seq (.ops [⟨some 343, none, .bin .num .lss (.t 342) (.c (.int .i64 8))⟩]) <|
       .seq (.cond (.t 343) (.skip) (.exit 5)) <|
       .seq (.block 6 (.seq (.ops [⟨some 344, none, .mov (.t 342)⟩, ⟨some 28, none, .mov (.t 344)⟩]) <|
        .seq (.ops [⟨some 345, none, .mov (.t 28)⟩, ⟨some 346, none, .idxAddrA 8 1 (.t 27) (.t 345)⟩, ⟨some 347, none, .load1 (.t 346)⟩, ⟨some 348, none, .mov (.t 12)⟩, ⟨some 349, none, .mov (.t 21)⟩, ⟨some 350, none, .idxAddrS 2 (.t 348) (.t 349)⟩, ⟨some 351, none, .loadN 2 (.t 350)⟩, ⟨some 352, none, .mov (.t 28)⟩, ⟨some 353, none, .mov (.t 26)⟩, ⟨some 354, none, .call .pure 25 [(.t 351), (.t 352), (.t 353)]⟩, ⟨some 355, none, .bin .num .neq (.t 347) (.t 354)⟩]) <|
        .cond (.t 355) (.seq (.ops [⟨some 2, none, .mov (.c (.bool false))⟩]) <|
         .ret) (.skip))) <|
       .ops [⟨some 356, none, .bin .num .add (.t 342) (.c (.int .i64 1))⟩, ⟨some 342, none, .mov (.t 356)⟩])))) <|
    .ops [⟨some 357, none, .bin .num .add (.t 239) (.c (.int .i64 1))⟩, ⟨some 239, none, .mov (.t 357)⟩]))) <|
  .seq (.ops [⟨some 358, none, .mov (.t 8)⟩, ⟨some 359, none, .bin .num .eql (.t 358) (.c (.int .i64 0))⟩, ⟨some 2, none, .mov (.t 359)⟩]) <|
  .ret
def v5 : VFunc := ⟨360, [.tmp 2], c5⟩
/-- berthing/berthinglaw08.first -/
def c6 : VCode :=
  .seq (.ops [⟨some 0, none, .mov (.c (.bool false))⟩]) <|
  .seq (.ops [⟨some 14, none, .build [(.int .i64 0), (.int .i64 0)] [(0, 1, (.c (.int .i64 10))), (1, 1, (.c (.int .i64 4)))]⟩, ⟨some 15, none, .build [(.int .i64 0), (.int .i64 0)] [(0, 1, (.c (.int .i64 2))), (1, 1, (.c (.int .i64 0)))]⟩, ⟨some 16, none, .build [(.int .i64 0), (.int .i64 0), (.int .i64 0), (.int .i64 0)] [(0, 2, (.t 14)), (2, 2, (.t 15))]⟩, ⟨some 17, none, .build [(.int .i64 0), (.int .i64 0)] [(0, 1, (.c (.int .i64 5))), (1, 1, (.c (.int .i64 0)))]⟩, ⟨some 18, none, .build [(.int .i64 0), (.int .i64 0), (.int .i64 0), (.int .i64 0)] [(0, 2, (.t 17))]⟩, ⟨some 19, none, .buildSlice false 4 2 [(.int .i64 0), (.int .i64 0), (.int .i64 0), (.int .i64 0), (.int .i64 0), (.int .i64 0), (.int .i64 0), (.int .i64 0)] [(0, 4, (.t 16)), (4, 4, (.t 18))]⟩, ⟨some 20, none, .call .shared 8 [(.t 19)]⟩, ⟨some 13, none, .mov (.t 20)⟩, ⟨some 21, none, .extract 0 (.t 13)⟩, ⟨some 22, none, .extract 1 (.t 13)⟩, ⟨some 1, none, .mov (.t 21)⟩, ⟨some 2, none, .mov (.t 22)⟩]) <|
  .seq (.ops [⟨some 24, none, .call .shared 8 [(.c (.sl .nil 0 []))]⟩, ⟨some 23, none, .mov (.t 24)⟩, ⟨some 25, none, .extract 0 (.t 23)⟩, ⟨some 26, none, .extract 1 (.t 23)⟩, ⟨some 3, none, .mov (.t 25)⟩, ⟨some 4, none, .mov (.t 26)⟩]) <|
  .seq (.ops [⟨some 27, none, .build [(.str ⟨#[]⟩), (.str ⟨#[]⟩), (.int .i64 0)] [(0, 1, (.c (.str ⟨#[112]⟩))), (1, 1, (.c (.str ⟨#[97]⟩)))]⟩, ⟨some 28, none, .build [(.str ⟨#[]⟩), (.str ⟨#[]⟩), (.int .i64 0)] [(0, 1, (.c (.str ⟨#[112]⟩))), (1, 1, (.c (.str ⟨#[98]⟩)))]⟩, ⟨some 5, none, .alloc [(.str ⟨#[]⟩), (.str ⟨#[]⟩), (.int .i64 0)]⟩, ⟨some 6, none, .alloc [(.str ⟨#[]⟩), (.str ⟨#[]⟩), (.int .i64 0)]⟩, ⟨none, none, .storeN 3 (.t 5) (.t 27)⟩, ⟨none, none, .storeN 3 (.t 6) (.t 28)⟩]) <|
  .seq (.ops [⟨some 29, none, .mov (.t 1)⟩, ⟨some 30, none, .loadN 3 (.t 5)⟩, ⟨some 31, none, .build [(.int .i64 0), (.int .i64 0), (.int .i64 0), (.int .i64 0), (.int .i64 0), (.int .i64 0), (.int .i64 0), (.int .i64 0)] [(0, 1, (.c (.int .i64 6))), (1, 1, (.c (.int .i64 5)))]⟩, ⟨some 32, none, .call .shared 10 [(.t 29), (.t 30), (.t 31)]⟩, ⟨some 7, none, .mov (.t 32)⟩]) <|
  .seq (.ops [⟨some 33, none, .mov (.t 1)⟩, ⟨some 34, none, .loadN 3 (.t 6)⟩, ⟨some 35, none, .build [(.int .i64 0), (.int .i64 0), (.int .i64 0), (.int .i64 0), (.int .i64 0), (.int .i64 0), (.int .i64 0), (.int .i64 0)] [(0, 1, (.c (.int .i64 3)))]⟩, ⟨some 36, none, .call .shared 10 [(.t 33), (.t 34), (.t 35)]⟩, ⟨some 8, none, .mov (.t 36)⟩]) <|
  .seq (.ops [⟨some 37, none, .mov (.t 1)⟩, ⟨some 38, none, .loadN 3 (.t 6)⟩, ⟨some 39, none, .build [(.int .i64 0), (.int .i64 0), (.int .i64 0), (.int .i64 0), (.int .i64 0), (.int .i64 0), (.int .i64 0), (.int .i64 0)] [(0, 1, (.c (.int .i64 2)))]⟩, ⟨some 40, none, .call .shared 10 [(.t 37), (.t 38), (.t 39)]⟩, ⟨some 9, none, .mov (.t 40)⟩]) <|
  .seq (.ops [⟨some 41, none, .mov (.t 1)⟩, ⟨some 42, none, .call .shared 11 [(.t 41), (.c (.int .i64 9))]⟩, ⟨some 10, none, .mov (.t 42)⟩]) <|
  .seq (.ops [⟨some 43, none, .mov (.t 1)⟩, ⟨some 44, none, .call .shared 14 [(.t 43)]⟩, ⟨some 11, none, .mov (.t 44)⟩]) <|
  .seq (.ops [⟨some 45, none, .mov (.t 1)⟩, ⟨some 46, none, .call .shared 9 [(.t 45), (.c (.str ⟨#[112]⟩))]⟩, ⟨some 12, none, .mov (.t 46)⟩]) <|
  .seq (.ops [⟨some 47, none, .mov (.t 2)⟩, ⟨some 48, none, .bin .num .eql (.t 47) (.c (.int .i64 0))⟩, ⟨some 49, none, .mov (.t 48)⟩, ⟨some 50, some (49, true), .mov (.t 4)⟩, ⟨some 51, some (49, true), .bin .num .eql (.t 50) (.c (.int .i64 2))⟩, ⟨some 52, none, .pick (.t 49) (.t 51) (.c (.bool false))⟩, ⟨some 53, none, .mov (.t 52)⟩, ⟨some 54, some (53, true), .mov (.t 7)⟩, ⟨some 55, some (53, true), .bin .num .eql (.t 54) (.c (.int .i64 0))⟩, ⟨some 56, none, .pick (.t 53) (.t 55) (.c (.bool false))⟩, ⟨some 57, none, .mov (.t 56)⟩, ⟨some 58, some (57, true), .mov (.t 8)⟩, ⟨some 59, some (57, true), .bin .num .eql (.t 58) (.c (.int .i64 20))⟩, ⟨some 60, none, .pick (.t 57) (.t 59) (.c (.bool false))⟩, ⟨some 61, none, .mov (.t 60)⟩, ⟨some 62, some (61, true), .mov (.t 9)⟩, ⟨some 63, some (61, true), .bin .num .eql (.t 62) (.c (.int .i64 0))⟩, ⟨some 64, none, .pick (.t 61) (.t 63) (.c (.bool false))⟩, ⟨some 65, none, .mov (.t 64)⟩, ⟨some 66, some (65, true), .mov (.t 10)⟩, ⟨some 67, some (65, true), .lenS (.t 66)⟩, ⟨some 68, some (65, true), .bin .num .eql (.t 67) (.c (.int .i64 2))⟩, ⟨some 69, none, .pick (.t 65) (.t 68) (.c (.bool false))⟩, ⟨some 70, none, .mov (.t 69)⟩, ⟨some 71, some (70, true), .mov (.t 10)⟩, ⟨some 72, some (70, true), .idxAddrS 11 (.t 71) (.c (.int .i64 0))⟩, ⟨some 73, some (70, true), .fieldAddr 0 (.t 72)⟩, ⟨some 74, some (70, true), .loadN 3 (.t 73)⟩, ⟨some 75, some (70, true), .loadN 3 (.t 5)⟩, ⟨some 76, some (70, true), .bin (.agg [.s, .s, .i]) .eql (.t 74) (.t 75)⟩, ⟨some 77, none, .pick (.t 70) (.t 76) (.c (.bool false))⟩, ⟨some 78, none, .mov (.t 77)⟩, ⟨some 79, some (78, true), .mov (.t 12)⟩, ⟨some 80, some (78, true), .bin .num .eql (.t 79) (.c (.int .i64 2))⟩, ⟨some 81, none, .pick (.t 78) (.t 80) (.c (.bool false))⟩, ⟨some 82, none, .mov (.t 81)⟩, ⟨some 83, some (82, true), .mov (.t 1)⟩, ⟨some 84, some (82, true), .call .shared 13 [(.t 83), (.c (.int .i64 0)), (.c (.int .i64 0))]⟩, ⟨some 85, some (82, true), .bin .num .eql (.t 84) (.c (.int .i64 8))⟩, ⟨some 86, none, .pick (.t 82) (.t 85) (.c (.bool false))⟩, ⟨some 87, none, .mov (.t 86)⟩, ⟨some 88, some (87, true), .mov (.t 11)⟩, ⟨some 89, some (87, true), .call .shared 13 [(.t 88), (.c (.int .i64 0)), (.c (.int .i64 0))]⟩, ⟨some 90, some (87, true), .bin .num .eql (.t 89) (.c (.int .i64 0))⟩, ⟨some 91, none, .pick (.t 87) (.t 90) (.c (.bool false))⟩, ⟨some 92, none, .mov (.t 91)⟩, ⟨some 93, some (92, true), .mov (.t 1)⟩, ⟨some 94, some (92, true), .mov (.t 11)⟩, ⟨some 95, some (92, true), .call .shared 16 [(.t 93), (.t 94)]⟩, ⟨some 96, some (92, true), .un .not (.t 95)⟩, ⟨some 97, none, .pick (.t 92) (.t 96) (.c (.bool false))⟩, ⟨some 98, none, .mov (.t 97)⟩, ⟨some 99, some (98, true), .mov (.t 11)⟩, ⟨some 100, some (98, true), .loadN 3 (.t 5)⟩, ⟨some 101, some (98, true), .call .shared 15 [(.t 99), (.t 100)]⟩, ⟨some 102, some (98, true), .call .pure 27 [(.t 101)]⟩, ⟨some 103, some (98, true), .bin .num .eql (.t 102) (.c (.int .i64 11))⟩, ⟨some 104, none, .pick (.t 98) (.t 103) (.c (.bool false))⟩, ⟨some 105, none, .mov (.t 104)⟩, ⟨some 106, some (105, true), .mov (.t 11)⟩, ⟨some 107, some (105, true), .call .shared 12 [(.t 106), (.c (.int .i64 0)), (.c (.int .i64 1))]⟩, ⟨some 108, some (105, true), .bin .num .eql (.t 107) (.c (.int .i64 4))⟩, ⟨some 109, none, .pick (.t 105) (.t 108) (.c (.bool false))⟩, ⟨some 0, none, .mov (.t 109)⟩]) <|
  .ret
def v6 : VFunc := ⟨110, [.tmp 0], c6⟩
/-- berthing/berthinglaw08.great -/
def c7 : VCode :=
  .seq (.ops [⟨some 2, none, .mov (.c (.bool false))⟩]) <|
  .seq (.seq (.ops [⟨some 5, none, .mov (.t 0)⟩, ⟨some 6, none, .lenS (.t 5)⟩, ⟨some 7, none, .mov (.c (.int .i64 0))⟩]) <|
  .block 0 (.loop (.seq (.ops [⟨some 8, none, .bin .num .lss (.t 7) (.t 6)⟩]) <|
    .seq (.cond (.t 8) (.skip) (.exit 0)) <|
    .seq (.block 1 (.seq (.ops [⟨some 9, none, .idxAddrS 13 (.t 5) (.t 7)⟩, ⟨some 10, none, .loadN 13 (.t 9)⟩, ⟨some 4, none, .alloc [(.int .i64 0), (.int .i64 0), (.str ⟨#[]⟩), (.str ⟨#[]⟩), (.int .i64 0), (.int .i64 0), (.int .i64 0), (.int .i64 0), (.int .i64 0), (.int .i64 0), (.int .i64 0), (.int .i64 0), (.int .i64 0)]⟩, ⟨none, none, .storeN 13 (.t 4) (.t 10)⟩]) <|
     .seq (.ops [⟨some 11, none, .fieldAddr 2 (.t 4)⟩, ⟨some 12, none, .fieldAddr 0 (.t 11)⟩, ⟨some 13, none, .load1 (.t 12)⟩, ⟨some 14, none, .lenStr (.t 13)⟩, ⟨some 15, none, .bin .num .gtr (.t 14) (.c (.int .i64 100))⟩, ⟨some 16, none, .mov (.t 15)⟩, ⟨some 17, some (16, false), .fieldAddr 2 (.t 4)⟩, ⟨some 18, some (16, false), .fieldAddr 1 (.t 17)⟩, ⟨some 19, some (16, false), .load1 (.t 18)⟩, ⟨some 20, some (16, false), .lenStr (.t 19)⟩, ⟨some 21, some (16, false), .bin .num .gtr (.t 20) (.c (.int .i64 100))⟩, ⟨some 22, none, .pick (.t 16) (.c (.bool true)) (.t 21)⟩]) <|
     .cond (.t 22) (.seq (.ops [⟨some 2, none, .mov (.c (.bool true))⟩]) <|
      .ret) (.skip))) <|
    .ops [⟨some 23, none, .bin .num .add (.t 7) (.c (.int .i64 1))⟩, ⟨some 7, none, .mov (.t 23)⟩]))) <|
  .seq (.ops [⟨some 24, none, .mov (.t 0)⟩, ⟨some 25, none, .lenS (.t 24)⟩, ⟨some 26, none, .bin .num .gtr (.t 25) (.c (.int .i64 60))⟩, ⟨some 2, none, .mov (.t 26)⟩]) <|
  .ret
def v7 : VFunc := ⟨27, [.tmp 2], c7⟩
/-- berthing/blocks.New -/
def c8 : VCode :=
  .seq (.ops [⟨some 2, none, .mov (.c .nilp)⟩, ⟨some 3, none, .mov (.c (.int .i64 0))⟩]) <|
  .seq (.seq (.ops [⟨some 8, none, .mov (.t 0)⟩, ⟨some 9, none, .lenS (.t 8)⟩, ⟨some 10, none, .bin .num .lss (.t 9) (.c (.int .i64 1))⟩, ⟨some 11, none, .mov (.t 10)⟩, ⟨some 12, some (11, false), .mov (.t 0)⟩, ⟨some 13, some (11, false), .lenS (.t 12)⟩, ⟨some 14, some (11, false), .bin .num .gtr (.t 13) (.c (.int .i64 8))⟩, ⟨some 15, none, .pick (.t 11) (.c (.bool true)) (.t 14)⟩]) <|
  .cond (.t 15) (.seq (.ops [⟨some 2, none, .mov (.c .nilp)⟩, ⟨some 3, none, .mov (.c (.int .i64 2))⟩]) <|
   .ret) (.skip)) <|
  .seq (.seq (.ops [⟨some 16, none, .mov (.t 0)⟩, ⟨some 17, none, .lenS (.t 16)⟩, ⟨some 18, none, .mov (.c (.int .i64 0))⟩]) <|
  .block 0 (.loop (.seq (.ops [⟨some 19, none, .bin .num .lss (.t 18) (.t 17)⟩]) <|
    .seq (.cond (.t 19) (.skip) (.exit 0)) <|
    .seq (.block 1 (.seq (.ops [⟨some 20, none, .idxAddrS 4 (.t 16) (.t 18)⟩, ⟨some 21, none, .loadN 4 (.t 20)⟩, ⟨some 5, none, .alloc [(.int .i64 0), (.int .i64 0), (.int .i64 0), (.int .i64 0)]⟩, ⟨none, none, .storeN 4 (.t 5) (.t 21)⟩]) <|
     .seq (.ops [⟨some 22, none, .fieldAddr 0 (.t 5)⟩, ⟨some 23, none, .loadN 2 (.t 22)⟩, ⟨some 24, none, .mov (.c (.int .i64 0))⟩]) <|
     .block 2 (.loop (.seq (.ops [⟨some 25, none, .bin .num .lss (.t 24) (.c (.int .i64 2))⟩]) <|
       .seq (.cond (.t 25) (.skip) (.exit 2)) <|
       .seq (.block 3 (.seq (.ops [⟨some 26, none, .mov (.t 24)⟩, ⟨some 27, none, .idxA1 2 (.t 23) (.t 24)⟩, ⟨some 6, none, .mov (.t 26)⟩, ⟨some 7, none, .mov (.t 27)⟩]) <|
        .seq (.ops [⟨some 28, none, .mov (.t 7)⟩, ⟨some 29, none, .bin .num .lss (.t 28) (.c (.int .i64 0))⟩, ⟨some 30, none, .mov (.t 29)⟩, ⟨some 31, some (30, false), .mov (.t 7)⟩, ⟨some 32, some (30, false), .bin .num .gtr (.t 31) (.c (.int .i64 1073741824))⟩, ⟨some 33, none, .pick (.t 30) (.c (.bool true)) (.t 32)⟩, ⟨some 34, none, .mov (.t 33)⟩, ⟨some 35, some (34, false), .mov (.t 6)⟩, ⟨some 36, some (34, false), .fieldAddr 2 (.t 5)⟩, ⟨some 37, some (34, false), .idxAddrA 2 1 (.t 36) (.t 35)⟩, ⟨some 38, some (34, false), .load1 (.t 37)⟩, ⟨some 39, some (34, false), .bin .num .lss (.t 38) (.c (.int .i64 0))⟩, ⟨some 40, none, .pick (.t 34) (.c (.bool true)) (.t 39)⟩, ⟨some 41, none, .mov (.t 40)⟩, ⟨some 42, some (41, false), .mov (.t 6)⟩, ⟨some 43, some (41, false), .fieldAddr 2 (.t 5)⟩, ⟨some 44, some (41, false), .idxAddrA 2 1 (.t 43) (.t 42)⟩, ⟨some 45, some (41, false), .load1 (.t 44)⟩, ⟨some 46, some (41, false), .mov (.t 7)⟩, ⟨some 47, some (41, false), .bin .num .gtr (.t 45) (.t 46)⟩, ⟨some 48, none, .pick (.t 41) (.c (.bool true)) (.t 47)⟩]) <|
        .cond (.t 48) (.seq (.ops [⟨some 2, none, .mov (.c .nilp)⟩, ⟨some 3, none, .mov (.c (.int .i64 2))⟩]) <|
         .ret) (.skip))) <|
       .ops [⟨some 49, none, .bin .num .add (.t 24) (.c (.int .i64 1))⟩, ⟨some 24, none, .mov (.t 49)⟩])))) <|
    .ops [⟨some 50, none, .bin .num .add (.t 18) (.c (.int .i64 1))⟩, ⟨some 18, none, .mov (.t 50)⟩]))) <|
  .seq (.ops [⟨some 51, none, .mov (.t 0)⟩, ⟨some 52, none, .call .pure 28 [(.t 51)]⟩, ⟨some 53, none, .mkMap⟩, ⟨some 54, none, .build [(.sl .nil 0 []), .nilm] [(0, 1, (.t 52)), (1, 1, (.t 53))]⟩, ⟨some 55, none, .box (.t 54)⟩, ⟨some 2, none, .mov (.t 55)⟩, ⟨some 3, none, .mov (.c (.int .i64 0))⟩]) <|
  .ret
def v8 : VFunc := ⟨56, [.tmp 2, .tmp 3], c8⟩
/-- (*berthing/blocks.Table).Release -/
def c9 : VCode :=
  .seq (.ops [⟨some 3, none, .box (.t 1)⟩, ⟨some 4, none, .mov (.c (.int .i64 0))⟩]) <|
  .seq (.seq (.ops [⟨some 6, none, .mov (.t 0)⟩, ⟨some 7, none, .bin .ptr .eql (.t 6) (.c .nilp)⟩]) <|
  .cond (.t 7) (.seq (.ops [⟨some 4, none, .mov (.c (.int .i64 0))⟩]) <|
   .ret) (.skip)) <|
  .seq (.ops [⟨some 8, none, .mov (.t 0)⟩, ⟨some 9, none, .nilCheck (.t 8)⟩, ⟨some 10, none, .fieldAddr 1 (.t 9)⟩, ⟨some 11, none, .load1 (.t 10)⟩, ⟨some 12, none, .lenM (.t 11)⟩, ⟨some 5, none, .mov (.t 12)⟩]) <|
  .seq (.ops [⟨some 13, none, .mov (.t 0)⟩, ⟨some 14, none, .nilCheck (.t 13)⟩, ⟨some 15, none, .fieldAddr 1 (.t 14)⟩, ⟨some 16, none, .load1 (.t 15)⟩, ⟨some 17, none, .mkFn 30 [] [(.t 3)]⟩, ⟨some 18, none, .call .shared 29 [(.t 16), (.t 17)]⟩]) <|
  .seq (.ops [⟨some 19, none, .mov (.t 5)⟩, ⟨some 20, none, .mov (.t 0)⟩, ⟨some 21, none, .nilCheck (.t 20)⟩, ⟨some 22, none, .fieldAddr 1 (.t 21)⟩, ⟨some 23, none, .load1 (.t 22)⟩, ⟨some 24, none, .lenM (.t 23)⟩, ⟨some 25, none, .bin .num .sub (.t 19) (.t 24)⟩, ⟨some 4, none, .mov (.t 25)⟩]) <|
  .ret
def v9 : VFunc := ⟨26, [.tmp 4], c9⟩
/-- (*berthing/blocks.Table).Put -/
def c10 : VCode :=
  .seq (.ops [⟨some 4, none, .box (.t 1)⟩, ⟨some 5, none, .box (.t 2)⟩, ⟨some 6, none, .mov (.c (.int .i64 0))⟩]) <|
  .seq (.block 0 (.seq (.ops [⟨some 13, none, .mov (.t 0)⟩, ⟨some 14, none, .bin .ptr .eql (.t 13) (.c .nilp)⟩, ⟨some 12, none, .mov (.t 14)⟩]) <|
   .cond (.t 12) (.seq (.ops [⟨some 6, none, .mov (.c (.int .i64 1))⟩]) <|
    .ret) (.seq (.ops [⟨some 16, none, .fieldAddr 0 (.t 4)⟩, ⟨some 17, none, .load1 (.t 16)⟩, ⟨some 18, none, .call .pure 31 [(.t 17)]⟩, ⟨some 19, none, .un .not (.t 18)⟩, ⟨some 20, none, .mov (.t 19)⟩, ⟨some 21, some (20, false), .fieldAddr 1 (.t 4)⟩, ⟨some 22, some (20, false), .load1 (.t 21)⟩, ⟨some 23, some (20, false), .call .pure 31 [(.t 22)]⟩, ⟨some 24, some (20, false), .un .not (.t 23)⟩, ⟨some 25, none, .pick (.t 20) (.c (.bool true)) (.t 24)⟩, ⟨some 26, none, .mov (.t 25)⟩, ⟨some 27, some (26, false), .fieldAddr 2 (.t 4)⟩, ⟨some 28, some (26, false), .load1 (.t 27)⟩, ⟨some 29, some (26, false), .call .pure 32 [(.t 28)]⟩, ⟨some 30, some (26, false), .un .not (.t 29)⟩, ⟨some 31, none, .pick (.t 26) (.c (.bool true)) (.t 30)⟩, ⟨some 15, none, .mov (.t 31)⟩]) <|
    .cond (.t 15) (.seq (.ops [⟨some 6, none, .mov (.c (.int .i64 2))⟩]) <|
     .ret) (.skip)))) <|
  .seq (.seq (.ops [⟨some 32, none, .loadN 8 (.t 5)⟩, ⟨some 33, none, .mov (.c (.int .i64 0))⟩]) <|
  .block 1 (.loop (.seq (.ops [⟨some 34, none, .bin .num .lss (.t 33) (.c (.int .i64 8))⟩]) <|
    .seq (.cond (.t 34) (.skip) (.exit 1)) <|
    .seq (.block 2 (.seq (.ops [⟨some 35, none, .mov (.t 33)⟩, ⟨some 36, none, .idxA1 8 (.t 32) (.t 33)⟩, ⟨some 7, none, .mov (.t 35)⟩, ⟨some 8, none, .mov (.t 36)⟩]) <|
     .seq (.ops [⟨some 37, none, .mov (.t 8)⟩, ⟨some 38, none, .bin .num .lss (.t 37) (.c (.int .i64 0))⟩, ⟨some 39, none, .mov (.t 38)⟩, ⟨some 40, some (39, false), .mov (.t 8)⟩, ⟨some 41, some (39, false), .bin .num .gtr (.t 40) (.c (.int .i64 1073741824))⟩, ⟨some 42, none, .pick (.t 39) (.c (.bool true)) (.t 41)⟩, ⟨some 43, none, .mov (.t 42)⟩, ⟨some 44, some (43, false), .mov (.t 8)⟩, ⟨some 45, some (43, false), .bin .num .gtr (.t 44) (.c (.int .i64 0))⟩, ⟨some 46, some (43, false), .mov (.t 45)⟩, ⟨some 47, some (46, true), .mov (.t 7)⟩, ⟨some 48, some (46, true), .mov (.t 0)⟩, ⟨some 49, some (46, true), .nilCheck (.t 48)⟩, ⟨some 50, some (46, true), .fieldAddr 0 (.t 49)⟩, ⟨some 51, some (46, true), .load1 (.t 50)⟩, ⟨some 52, some (46, true), .lenS (.t 51)⟩, ⟨some 53, some (46, true), .bin .num .geq (.t 47) (.t 52)⟩, ⟨some 54, some (43, false), .pick (.t 46) (.t 53) (.c (.bool false))⟩, ⟨some 55, none, .pick (.t 43) (.c (.bool true)) (.t 54)⟩]) <|
     .cond (.t 55) (.seq (.ops [⟨some 6, none, .mov (.c (.int .i64 2))⟩]) <|
      .ret) (.skip))) <|
    .ops [⟨some 56, none, .bin .num .add (.t 33) (.c (.int .i64 1))⟩, ⟨some 33, none, .mov (.t 56)⟩]))) <|
  .seq (.draw [(9, .z [(.int .i64 0), (.int .i64 0), (.int .i64 0), (.int .i64 0), (.int .i64 0), (.int .i64 0), (.int .i64 0), (.int .i64 0)])] [⟨some 57, none, .mov (.t 0)⟩, ⟨some 58, none, .nilCheck (.t 57)⟩, ⟨some 59, none, .fieldAddr 1 (.t 58)⟩, ⟨some 60, none, .load1 (.t 59)⟩, ⟨some 61, none, .loadN 3 (.t 4)⟩, ⟨some 62, none, .lookM false (.agg [.s, .s, .i]) (.agg [(.int .i64 0), (.int .i64 0), (.int .i64 0), (.int .i64 0), (.int .i64 0), (.int .i64 0), (.int .i64 0), (.int .i64 0)]) (.t 60) (.t 61)⟩, ⟨none, none, .idle⟩, ⟨none, none, .storeN 8 (.t 9) (.t 62)⟩] []) <|
  .seq (.seq (.ops [⟨some 63, none, .loadN 8 (.t 5)⟩, ⟨some 64, none, .mov (.c (.int .i64 0))⟩]) <|
  .block 3 (.loop (.seq (.ops [⟨some 65, none, .bin .num .lss (.t 64) (.c (.int .i64 8))⟩]) <|
    .seq (.cond (.t 65) (.skip) (.exit 3)) <|
    .seq (.block 4 (.seq (.ops [⟨some 66, none, .mov (.t 64)⟩, ⟨some 67, none, .idxA1 8 (.t 63) (.t 64)⟩, ⟨some 10, none, .mov (.t 66)⟩, ⟨some 11, none, .mov (.t 67)⟩]) <|
     .seq (.draw [] [⟨some 68, none, .mov (.t 11)⟩, ⟨some 69, none, .mov (.t 10)⟩, ⟨some 70, none, .idxAddrA 8 1 (.t 9) (.t 69)⟩, ⟨some 71, none, .load1 (.t 70)⟩, ⟨some 72, none, .bin .num .gtr (.t 68) (.t 71)⟩, ⟨some 73, none, .mov (.t 72)⟩, ⟨some 74, some (73, true), .mov (.t 11)⟩, ⟨some 75, some (73, true), .mov (.t 10)⟩, ⟨some 76, some (73, true), .idxAddrA 8 1 (.t 9) (.t 75)⟩, ⟨some 77, some (73, true), .load1 (.t 76)⟩, ⟨some 78, some (73, true), .bin .num .sub (.t 74) (.t 77)⟩, ⟨some 79, some (73, true), .mov (.t 0)⟩, ⟨some 80, some (73, true), .mov (.t 10)⟩, ⟨some 81, some (73, true), .fieldAddr 2 (.t 4)⟩, ⟨some 82, some (73, true), .load1 (.t 81)⟩, ⟨some 83, some (73, true), .call .shared 13 [(.t 79), (.t 80), (.t 82)]⟩, ⟨some 84, some (73, true), .bin .num .gtr (.t 78) (.t 83)⟩, ⟨some 85, none, .pick (.t 73) (.t 84) (.c (.bool false))⟩] [(9, 15)]) <|
     .cond (.t 85) (.seq (.ops [⟨some 6, none, .mov (.c (.int .i64 20))⟩]) <|
      .ret) (.skip))) <|
    .ops [⟨some 86, none, .bin .num .add (.t 64) (.c (.int .i64 1))⟩, ⟨some 64, none, .mov (.t 86)⟩]))) <|
  .seq (.seq (.ops [⟨some 87, none, .loadN 8 (.t 5)⟩, ⟨some 88, none, .build [(.int .i64 0), (.int .i64 0), (.int .i64 0), (.int .i64 0), (.int .i64 0), (.int .i64 0), (.int .i64 0), (.int .i64 0)] []⟩, ⟨some 89, none, .bin (.agg [.i, .i, .i, .i, .i, .i, .i, .i]) .eql (.t 87) (.t 88)⟩]) <|
  .cond (.t 89) (.ops [⟨some 90, none, .mov (.t 0)⟩, ⟨some 91, none, .nilCheck (.t 90)⟩, ⟨some 92, none, .fieldAddr 1 (.t 91)⟩, ⟨some 93, none, .load1 (.t 92)⟩, ⟨some 94, none, .loadN 3 (.t 4)⟩, ⟨none, none, .delM (.agg [.s, .s, .i]) (.t 93) (.t 94)⟩]) (.ops [⟨some 95, none, .mov (.t 0)⟩, ⟨some 96, none, .nilCheck (.t 95)⟩, ⟨some 97, none, .fieldAddr 1 (.t 96)⟩, ⟨some 98, none, .load1 (.t 97)⟩, ⟨some 99, none, .loadN 3 (.t 4)⟩, ⟨some 100, none, .loadN 8 (.t 5)⟩, ⟨none, none, .updM (.agg [.s, .s, .i]) (.t 98) (.t 99) (.t 100)⟩])) <|
  .seq (.ops [⟨some 6, none, .mov (.c (.int .i64 0))⟩]) <|
  .ret
def v10 : VFunc := ⟨101, [.tmp 6], c10⟩
/-- berthing/berthinglaw08.Rows -/
def c11 : VCode :=
  .seq (.ops [⟨some 3, none, .box (.t 1)⟩, ⟨some 4, none, .mov (.c (.sl .nil 0 []))⟩]) <|
  .seq (.ops [⟨some 5, none, .alloc [(.sl .nil 0 [])]⟩]) <|
  .seq (.ops [⟨some 9, none, .mov (.t 0)⟩, ⟨some 10, none, .call .shared 33 [(.t 9)]⟩, ⟨some 6, none, .mov (.t 10)⟩]) <|
  .seq (.seq (.ops [⟨some 11, none, .mov (.t 6)⟩, ⟨some 12, none, .bin .fn .eql (.t 11) (.c .nilf)⟩]) <|
  .cond (.t 12) (.seq (.ops [⟨some 4, none, .mov (.c (.sl .nil 0 []))⟩]) <|
   .ret) (.skip)) <|
  .seq (.seq (.ops [⟨some 13, none, .mov (.t 6)⟩]) <|
  .block 0 (.rangeFunc (.t 13) [14, 15] (.seq (.ops [⟨some 7, none, .alloc [(.str ⟨#[]⟩), (.str ⟨#[]⟩), (.int .i64 0)]⟩, ⟨none, none, .storeN 3 (.t 7) (.t 14)⟩]) <|
   .ops [⟨some 8, none, .alloc [(.int .i64 0), (.int .i64 0), (.int .i64 0), (.int .i64 0), (.int .i64 0), (.int .i64 0), (.int .i64 0), (.int .i64 0)]⟩, ⟨none, none, .storeN 8 (.t 8) (.t 15)⟩]) (.block 1 (.seq (.seq (.ops [⟨some 16, none, .load1 (.t 5)⟩, ⟨some 17, none, .lenS (.t 16)⟩, ⟨some 18, none, .load1 (.t 3)⟩, ⟨some 19, none, .bin .num .geq (.t 17) (.t 18)⟩]) <|
     .cond (.t 19) (.exit 0) (.skip)) <|
     .ops [⟨some 20, none, .load1 (.t 5)⟩, ⟨some 21, none, .loadN 3 (.t 7)⟩, ⟨some 22, none, .loadN 8 (.t 8)⟩, ⟨some 23, none, .build [(.str ⟨#[]⟩), (.str ⟨#[]⟩), (.int .i64 0), (.int .i64 0), (.int .i64 0), (.int .i64 0), (.int .i64 0), (.int .i64 0), (.int .i64 0), (.int .i64 0), (.int .i64 0)] [(0, 3, (.t 21)), (3, 8, (.t 22))]⟩, ⟨some 24, none, .buildSlice false 11 1 [(.str ⟨#[]⟩), (.str ⟨#[]⟩), (.int .i64 0), (.int .i64 0), (.int .i64 0), (.int .i64 0), (.int .i64 0), (.int .i64 0), (.int .i64 0), (.int .i64 0), (.int .i64 0)] [(0, 11, (.t 23))]⟩, ⟨some 25, none, .append false false 11 104 (.t 20) (.t 24)⟩, ⟨none, none, .store1 (.t 5) (.t 25)⟩])))) <|
  .seq (.ops [⟨some 26, none, .load1 (.t 5)⟩, ⟨some 4, none, .mov (.t 26)⟩]) <|
  .ret
def v11 : VFunc := ⟨27, [.tmp 4], c11⟩
/-- (*berthing/blocks.Table).Room -/
def c12 : VCode :=
  .seq (.ops [⟨some 6, none, .mov (.c (.int .i64 0))⟩]) <|
  .seq (.ops [⟨some 10, none, .mov (.t 0)⟩, ⟨some 11, none, .mov (.t 1)⟩, ⟨some 12, none, .call .shared 18 [(.t 10), (.t 11)]⟩, ⟨some 9, none, .mov (.t 12)⟩, ⟨some 13, none, .extract 0 (.t 9)⟩, ⟨some 14, none, .extract 1 (.t 9)⟩, ⟨some 7, none, .alloc [(.int .i64 0), (.int .i64 0), (.int .i64 0), (.int .i64 0)]⟩, ⟨none, none, .storeN 4 (.t 7) (.t 13)⟩, ⟨some 8, none, .mov (.t 14)⟩]) <|
  .seq (.seq (.ops [⟨some 15, none, .mov (.t 8)⟩, ⟨some 16, none, .un .not (.t 15)⟩, ⟨some 17, none, .mov (.t 16)⟩, ⟨some 18, some (17, false), .mov (.t 2)⟩, ⟨some 19, some (17, false), .call .pure 32 [(.t 18)]⟩, ⟨some 20, some (17, false), .un .not (.t 19)⟩, ⟨some 21, none, .pick (.t 17) (.c (.bool true)) (.t 20)⟩]) <|
  .cond (.t 21) (.seq (.ops [⟨some 6, none, .mov (.c (.int .i64 0))⟩]) <|
   .ret) (.skip)) <|
  .seq (.ops [⟨some 22, none, .mov (.t 2)⟩, ⟨some 23, none, .fieldAddr 0 (.t 7)⟩, ⟨some 24, none, .idxAddrA 2 1 (.t 23) (.t 22)⟩, ⟨some 25, none, .load1 (.t 24)⟩, ⟨some 26, none, .mov (.t 2)⟩, ⟨some 27, none, .fieldAddr 2 (.t 7)⟩, ⟨some 28, none, .idxAddrA 2 1 (.t 27) (.t 26)⟩, ⟨some 29, none, .load1 (.t 28)⟩, ⟨some 30, none, .bin .num .sub (.t 25) (.t 29)⟩, ⟨some 6, none, .mov (.t 30)⟩]) <|
  .ret
def v12 : VFunc := ⟨31, [.tmp 6], c12⟩
/-- (*berthing/blocks.Table).Free -/
def c13 : VCode :=
  .seq (.ops [⟨some 6, none, .mov (.c (.int .i64 0))⟩]) <|
  .seq (.ops [⟨some 10, none, .mov (.t 0)⟩, ⟨some 11, none, .mov (.t 1)⟩, ⟨some 12, none, .mov (.t 2)⟩, ⟨some 13, none, .call .shared 12 [(.t 10), (.t 11), (.t 12)]⟩, ⟨some 7, none, .mov (.t 13)⟩]) <|
  .seq (.seq (.ops [⟨some 14, none, .mov (.t 7)⟩, ⟨some 15, none, .bin .num .eql (.t 14) (.c (.int .i64 0))⟩]) <|
  .cond (.t 15) (.seq (.ops [⟨some 6, none, .mov (.c (.int .i64 0))⟩]) <|
   .ret) (.skip)) <|
  .seq (.seq (.ops [⟨some 16, none, .mov (.t 0)⟩, ⟨some 17, none, .nilCheck (.t 16)⟩, ⟨some 18, none, .fieldAddr 1 (.t 17)⟩, ⟨some 19, none, .load1 (.t 18)⟩, ⟨some 20, none, .rangeM (.t 19)⟩]) <|
  .block 0 (.loopM 20 21 (.seq (.ops [⟨some 22, none, .extract 0 (.t 21)⟩]) <|
    .seq (.cond (.t 22) (.skip) (.exit 0)) <|
    .block 1 (.seq (.ops [⟨some 23, none, .entryM (.t 20)⟩, ⟨some 24, none, .extract 0 (.t 23)⟩, ⟨some 25, none, .extract 1 (.t 23)⟩, ⟨some 8, none, .alloc [(.str ⟨#[]⟩), (.str ⟨#[]⟩), (.int .i64 0)]⟩, ⟨some 9, none, .alloc [(.int .i64 0), (.int .i64 0), (.int .i64 0), (.int .i64 0), (.int .i64 0), (.int .i64 0), (.int .i64 0), (.int .i64 0)]⟩, ⟨none, none, .storeN 3 (.t 8) (.t 24)⟩, ⟨none, none, .storeN 8 (.t 9) (.t 25)⟩]) <|
     .seq (.ops [⟨some 26, none, .fieldAddr 2 (.t 8)⟩, ⟨some 27, none, .load1 (.t 26)⟩, ⟨some 28, none, .mov (.t 2)⟩, ⟨some 29, none, .bin .num .eql (.t 27) (.t 28)⟩]) <|
     .cond (.t 29) (.ops [⟨some 30, none, .mov (.t 7)⟩, ⟨some 31, none, .mov (.t 1)⟩, ⟨some 32, none, .idxAddrA 8 1 (.t 9) (.t 31)⟩, ⟨some 33, none, .load1 (.t 32)⟩, ⟨some 34, none, .bin .num .sub (.t 30) (.t 33)⟩, ⟨some 7, none, .mov (.t 34)⟩]) (.skip))))) <|
  .seq (.ops [⟨some 35, none, .mov (.t 7)⟩, ⟨some 6, none, .mov (.t 35)⟩]) <|
  .ret
def v13 : VFunc := ⟨36, [.tmp 6], c13⟩
/-- (*berthing/blocks.Table).Clone -/
def c14 : VCode :=
  .seq (.ops [⟨some 2, none, .mov (.c .nilp)⟩]) <|
  .seq (.seq (.ops [⟨some 3, none, .mov (.t 0)⟩, ⟨some 4, none, .bin .ptr .eql (.t 3) (.c .nilp)⟩]) <|
  .cond (.t 4) (.seq (.ops [⟨some 2, none, .mov (.c .nilp)⟩]) <|
   .ret) (.skip)) <|
  .seq (.ops [⟨some 5, none, .mov (.t 0)⟩, ⟨some 6, none, .nilCheck (.t 5)⟩, ⟨some 7, none, .fieldAddr 0 (.t 6)⟩, ⟨some 8, none, .load1 (.t 7)⟩, ⟨some 9, none, .call .pure 28 [(.t 8)]⟩, ⟨some 10, none, .mov (.t 0)⟩, ⟨some 11, none, .nilCheck (.t 10)⟩, ⟨some 12, none, .fieldAddr 1 (.t 11)⟩, ⟨some 13, none, .load1 (.t 12)⟩, ⟨some 14, none, .call .shared 34 [(.t 13)]⟩, ⟨some 15, none, .build [(.sl .nil 0 []), .nilm] [(0, 1, (.t 9)), (1, 1, (.t 14))]⟩, ⟨some 16, none, .box (.t 15)⟩, ⟨some 2, none, .mov (.t 16)⟩]) <|
  .ret
def v14 : VFunc := ⟨17, [.tmp 2], c14⟩
/-- (*berthing/blocks.Table).Held -/
def c15 : VCode :=
  .seq (.ops [⟨some 3, none, .box (.t 1)⟩, ⟨some 4, none, .alloc [(.int .i64 0), (.int .i64 0), (.int .i64 0), (.int .i64 0), (.int .i64 0), (.int .i64 0), (.int .i64 0), (.int .i64 0)]⟩]) <|
  .seq (.seq (.ops [⟨some 5, none, .mov (.t 0)⟩, ⟨some 6, none, .bin .ptr .eql (.t 5) (.c .nilp)⟩]) <|
  .cond (.t 6) (.seq (.ops [⟨some 7, none, .build [(.int .i64 0), (.int .i64 0), (.int .i64 0), (.int .i64 0), (.int .i64 0), (.int .i64 0), (.int .i64 0), (.int .i64 0)] []⟩, ⟨none, none, .storeN 8 (.t 4) (.t 7)⟩]) <|
   .ret) (.skip)) <|
  .seq (.ops [⟨some 8, none, .mov (.t 0)⟩, ⟨some 9, none, .nilCheck (.t 8)⟩, ⟨some 10, none, .fieldAddr 1 (.t 9)⟩, ⟨some 11, none, .load1 (.t 10)⟩, ⟨some 12, none, .loadN 3 (.t 3)⟩, ⟨some 13, none, .lookM false (.agg [.s, .s, .i]) (.agg [(.int .i64 0), (.int .i64 0), (.int .i64 0), (.int .i64 0), (.int .i64 0), (.int .i64 0), (.int .i64 0), (.int .i64 0)]) (.t 11) (.t 12)⟩, ⟨none, none, .storeN 8 (.t 4) (.t 13)⟩]) <|
  .ret
def v15 : VFunc := ⟨14, [.cellN 8 4], c15⟩
/-- berthing/blocks.Same -/
def c16 : VCode :=
  .seq (.ops [⟨some 4, none, .mov (.c (.bool false))⟩]) <|
  .seq (.seq (.ops [⟨some 5, none, .mov (.t 0)⟩, ⟨some 6, none, .bin .ptr .eql (.t 5) (.c .nilp)⟩, ⟨some 7, none, .mov (.t 6)⟩, ⟨some 8, some (7, false), .mov (.t 1)⟩, ⟨some 9, some (7, false), .bin .ptr .eql (.t 8) (.c .nilp)⟩, ⟨some 10, none, .pick (.t 7) (.c (.bool true)) (.t 9)⟩]) <|
  .cond (.t 10) (.seq (.ops [⟨some 11, none, .mov (.t 0)⟩, ⟨some 12, none, .bin .ptr .eql (.t 11) (.c .nilp)⟩, ⟨some 13, none, .mov (.t 12)⟩, ⟨some 14, some (13, true), .mov (.t 1)⟩, ⟨some 15, some (13, true), .bin .ptr .eql (.t 14) (.c .nilp)⟩, ⟨some 16, none, .pick (.t 13) (.t 15) (.c (.bool false))⟩, ⟨some 4, none, .mov (.t 16)⟩]) <|
   .ret) (.skip)) <|
  .seq (.ops [⟨some 17, none, .mov (.t 0)⟩, ⟨some 18, none, .nilCheck (.t 17)⟩, ⟨some 19, none, .fieldAddr 0 (.t 18)⟩, ⟨some 20, none, .load1 (.t 19)⟩, ⟨some 21, none, .mov (.t 1)⟩, ⟨some 22, none, .nilCheck (.t 21)⟩, ⟨some 23, none, .fieldAddr 0 (.t 22)⟩, ⟨some 24, none, .load1 (.t 23)⟩, ⟨some 25, none, .call .pure 35 [(.t 20), (.t 24)]⟩, ⟨some 26, none, .mov (.t 25)⟩, ⟨some 27, some (26, true), .mov (.t 0)⟩, ⟨some 28, some (26, true), .nilCheck (.t 27)⟩, ⟨some 29, some (26, true), .fieldAddr 1 (.t 28)⟩, ⟨some 30, some (26, true), .load1 (.t 29)⟩, ⟨some 31, some (26, true), .mov (.t 1)⟩, ⟨some 32, some (26, true), .nilCheck (.t 31)⟩, ⟨some 33, some (26, true), .fieldAddr 1 (.t 32)⟩, ⟨some 34, some (26, true), .load1 (.t 33)⟩, ⟨some 35, some (26, true), .call .shared 36 [(.t 30), (.t 34)]⟩, ⟨some 36, none, .pick (.t 26) (.t 35) (.c (.bool false))⟩, ⟨some 4, none, .mov (.t 36)⟩]) <|
  .ret
def v16 : VFunc := ⟨37, [.tmp 4], c16⟩
/-- berthing/berthingref08.Fits -/
def c17 : VCode :=
  .seq (.ops [⟨some 2, none, .mov (.c (.bool false))⟩]) <|
  .seq (.seq (.ops [⟨some 6, none, .mov (.t 0)⟩, ⟨some 7, none, .lenS (.t 6)⟩, ⟨some 8, none, .mov (.c (.int .i64 0))⟩]) <|
  .block 0 (.loop (.seq (.ops [⟨some 9, none, .bin .num .lss (.t 8) (.t 7)⟩]) <|
    .seq (.cond (.t 9) (.skip) (.exit 0)) <|
    .seq (.block 1 (.seq (.ops [⟨some 10, none, .idxAddrS 4 (.t 6) (.t 8)⟩, ⟨some 11, none, .loadN 4 (.t 10)⟩, ⟨some 4, none, .alloc [(.int .i64 0), (.int .i64 0), (.int .i64 0), (.int .i64 0)]⟩, ⟨none, none, .storeN 4 (.t 4) (.t 11)⟩]) <|
     .seq (.ops [⟨some 5, none, .mov (.c (.int .i64 0))⟩]) <|
     .block 2 (.loop (.seq (.seq (.ops [⟨some 12, none, .mov (.t 5)⟩, ⟨some 13, none, .bin .num .lss (.t 12) (.c (.int .i64 2))⟩]) <|
       .cond (.t 13) (.skip) (.exit 2)) <|
       .seq (.block 3 (.seq (.ops [⟨some 16, none, .mov (.t 5)⟩, ⟨some 17, none, .fieldAddr 2 (.t 4)⟩, ⟨some 18, none, .idxAddrA 2 1 (.t 17) (.t 16)⟩, ⟨some 19, none, .load1 (.t 18)⟩, ⟨some 20, none, .bin .num .lss (.t 19) (.c (.int .i64 0))⟩, ⟨some 21, none, .mov (.t 20)⟩, ⟨some 22, some (21, false), .mov (.t 5)⟩, ⟨some 23, some (21, false), .fieldAddr 0 (.t 4)⟩, ⟨some 24, some (21, false), .idxAddrA 2 1 (.t 23) (.t 22)⟩, ⟨some 25, some (21, false), .load1 (.t 24)⟩, ⟨some 26, some (21, false), .mov (.t 5)⟩, ⟨some 27, some (21, false), .fieldAddr 2 (.t 4)⟩, ⟨some 28, some (21, false), .idxAddrA 2 1 (.t 27) (.t 26)⟩, ⟨some 29, some (21, false), .load1 (.t 28)⟩, ⟨some 30, some (21, false), .bin .num .lss (.t 25) (.t 29)⟩, ⟨some 31, none, .pick (.t 21) (.c (.bool true)) (.t 30)⟩, ⟨some 32, none, .mov (.t 31)⟩, ⟨some 33, some (32, false), .mov (.t 5)⟩, ⟨some 34, some (32, false), .fieldAddr 0 (.t 4)⟩, ⟨some 35, some (32, false), .idxAddrA 2 1 (.t 34) (.t 33)⟩, ⟨some 36, some (32, false), .load1 (.t 35)⟩, ⟨some 37, some (32, false), .bin .num .gtr (.t 36) (.c (.int .i64 1073741824))⟩, ⟨some 38, none, .pick (.t 32) (.c (.bool true)) (.t 37)⟩]) <|
        .cond (.t 38) (.seq (.ops [⟨some 2, none, .mov (.c (.bool false))⟩]) <|
         .ret) (.skip))) <|
       .ops [⟨some 14, none, .mov (.t 5)⟩, ⟨some 15, none, .bin .num .add (.t 14) (.c (.int .i64 1))⟩, ⟨some 5, none, .mov (.t 15)⟩])))) <|
    .ops [⟨some 39, none, .bin .num .add (.t 8) (.c (.int .i64 1))⟩, ⟨some 8, none, .mov (.t 39)⟩]))) <|
  .seq (.ops [⟨some 40, none, .mov (.t 0)⟩, ⟨some 41, none, .lenS (.t 40)⟩, ⟨some 42, none, .bin .num .gtr (.t 41) (.c (.int .i64 0))⟩, ⟨some 43, none, .mov (.t 42)⟩, ⟨some 44, some (43, true), .mov (.t 0)⟩, ⟨some 45, some (43, true), .lenS (.t 44)⟩, ⟨some 46, some (43, true), .bin .num .lss (.t 45) (.c (.int .i64 9))⟩, ⟨some 47, none, .pick (.t 43) (.t 46) (.c (.bool false))⟩, ⟨some 2, none, .mov (.t 47)⟩]) <|
  .ret
def v17 : VFunc := ⟨48, [.tmp 2], c17⟩
/-- (*berthing/blocks.Table).Zone -/
def c18 : VCode :=
  .seq (.ops [⟨some 4, none, .alloc [(.int .i64 0), (.int .i64 0), (.int .i64 0), (.int .i64 0)]⟩, ⟨some 5, none, .mov (.c (.bool false))⟩]) <|
  .seq (.seq (.ops [⟨some 6, none, .mov (.t 1)⟩, ⟨some 7, none, .bin .num .lss (.t 6) (.c (.int .i64 0))⟩, ⟨some 8, none, .mov (.t 7)⟩, ⟨some 9, some (8, false), .mov (.t 1)⟩, ⟨some 10, some (8, false), .mov (.t 0)⟩, ⟨some 11, some (8, false), .call .shared 19 [(.t 10)]⟩, ⟨some 12, some (8, false), .bin .num .geq (.t 9) (.t 11)⟩, ⟨some 13, none, .pick (.t 8) (.c (.bool true)) (.t 12)⟩]) <|
  .cond (.t 13) (.seq (.ops [⟨some 14, none, .build [(.int .i64 0), (.int .i64 0), (.int .i64 0), (.int .i64 0)] []⟩, ⟨none, none, .storeN 4 (.t 4) (.t 14)⟩, ⟨some 5, none, .mov (.c (.bool false))⟩]) <|
   .ret) (.skip)) <|
  .seq (.ops [⟨some 15, none, .mov (.t 0)⟩, ⟨some 16, none, .nilCheck (.t 15)⟩, ⟨some 17, none, .fieldAddr 0 (.t 16)⟩, ⟨some 18, none, .load1 (.t 17)⟩, ⟨some 19, none, .mov (.t 1)⟩, ⟨some 20, none, .idxAddrS 4 (.t 18) (.t 19)⟩, ⟨some 21, none, .loadN 4 (.t 20)⟩, ⟨none, none, .storeN 4 (.t 4) (.t 21)⟩, ⟨some 5, none, .mov (.c (.bool true))⟩]) <|
  .ret
def v18 : VFunc := ⟨22, [.cellN 4 4, .tmp 5], c18⟩
/-- (*berthing/blocks.Table).Zones -/
def c19 : VCode :=
  .seq (.ops [⟨some 2, none, .mov (.c (.int .i64 0))⟩]) <|
  .seq (.seq (.ops [⟨some 3, none, .mov (.t 0)⟩, ⟨some 4, none, .bin .ptr .eql (.t 3) (.c .nilp)⟩]) <|
  .cond (.t 4) (.seq (.ops [⟨some 2, none, .mov (.c (.int .i64 0))⟩]) <|
   .ret) (.skip)) <|
  .seq (.ops [⟨some 5, none, .mov (.t 0)⟩, ⟨some 6, none, .nilCheck (.t 5)⟩, ⟨some 7, none, .fieldAddr 0 (.t 6)⟩, ⟨some 8, none, .load1 (.t 7)⟩, ⟨some 9, none, .lenS (.t 8)⟩, ⟨some 2, none, .mov (.t 9)⟩]) <|
  .ret
def v19 : VFunc := ⟨10, [.tmp 2], c19⟩
/-- (*berthing/blocks.Table).Frees -/
def c20 : VCode :=
  .seq (.ops [⟨some 4, none, .alloc [(.int .i64 0), (.int .i64 0), (.int .i64 0), (.int .i64 0), (.int .i64 0), (.int .i64 0), (.int .i64 0), (.int .i64 0)]⟩]) <|
  .seq (.ops [⟨some 5, none, .alloc [(.int .i64 0), (.int .i64 0), (.int .i64 0), (.int .i64 0), (.int .i64 0), (.int .i64 0), (.int .i64 0), (.int .i64 0)]⟩]) <|
  .seq (.seq (.ops [⟨some 7, none, .mov (.t 0)⟩, ⟨some 8, none, .call .shared 19 [(.t 7)]⟩, ⟨some 9, none, .mov (.c (.int .i64 0))⟩]) <|
  .block 0 (.loop (.seq (.ops [⟨some 10, none, .bin .num .lss (.t 9) (.t 8)⟩]) <|
    .seq (.cond (.t 10) (.skip) (.exit 0)) <|
    .seq (.block 1 (.seq (.ops [⟨some 11, none, .mov (.t 9)⟩, ⟨some 6, none, .mov (.t 11)⟩]) <|
     .ops [⟨some 12, none, .mov (.t 6)⟩, ⟨some 13, none, .mov (.t 0)⟩, ⟨some 14, none, .mov (.t 6)⟩, ⟨some 15, none, .mov (.t 1)⟩, ⟨some 16, none, .call .shared 13 [(.t 13), (.t 14), (.t 15)]⟩, ⟨some 17, none, .idxAddrA 8 1 (.t 5) (.t 12)⟩, ⟨none, none, .store1 (.t 17) (.t 16)⟩])) <|
    .ops [⟨some 18, none, .bin .num .add (.t 9) (.c (.int .i64 1))⟩, ⟨some 9, none, .mov (.t 18)⟩]))) <|
  .seq (.ops [⟨some 19, none, .loadN 8 (.t 5)⟩, ⟨none, none, .storeN 8 (.t 4) (.t 19)⟩]) <|
  .ret
def v20 : VFunc := ⟨20, [.cellN 8 4], c20⟩
/-- (berthing/berthingref08.Table).Release -/
def c21 : VCode :=
  .seq (.ops [⟨some 2, none, .box (.t 0)⟩, ⟨some 4, none, .alloc [(.sl .nil 0 []), (.sl .nil 0 [])]⟩]) <|
  .seq (.ops [⟨some 5, none, .mov (.c (.sl .nil 0 []))⟩]) <|
  .seq (.seq (.ops [⟨some 8, none, .fieldAddr 1 (.t 2)⟩, ⟨some 9, none, .load1 (.t 8)⟩, ⟨some 10, none, .lenS (.t 9)⟩, ⟨some 11, none, .mov (.c (.int .i64 0))⟩]) <|
  .block 0 (.loop (.seq (.ops [⟨some 12, none, .bin .num .lss (.t 11) (.t 10)⟩]) <|
    .seq (.cond (.t 12) (.skip) (.exit 0)) <|
    .seq (.block 1 (.seq (.ops [⟨some 13, none, .idxAddrS 11 (.t 9) (.t 11)⟩, ⟨some 14, none, .loadN 11 (.t 13)⟩, ⟨some 7, none, .alloc [(.str ⟨#[]⟩), (.str ⟨#[]⟩), (.int .i64 0), (.int .i64 0), (.int .i64 0), (.int .i64 0), (.int .i64 0), (.int .i64 0), (.int .i64 0), (.int .i64 0), (.int .i64 0)]⟩, ⟨none, none, .storeN 11 (.t 7) (.t 14)⟩]) <|
     .seq (.ops [⟨some 15, none, .fieldAddr 0 (.t 7)⟩, ⟨some 16, none, .fieldAddr 0 (.t 15)⟩, ⟨some 17, none, .load1 (.t 16)⟩, ⟨some 18, none, .mov (.t 1)⟩, ⟨some 19, none, .bin .num .neq (.t 17) (.t 18)⟩]) <|
     .cond (.t 19) (.ops [⟨some 20, none, .mov (.t 5)⟩, ⟨some 21, none, .loadN 11 (.t 7)⟩, ⟨some 22, none, .buildSlice false 11 1 [(.str ⟨#[]⟩), (.str ⟨#[]⟩), (.int .i64 0), (.int .i64 0), (.int .i64 0), (.int .i64 0), (.int .i64 0), (.int .i64 0), (.int .i64 0), (.int .i64 0), (.int .i64 0)] [(0, 11, (.t 21))]⟩, ⟨some 23, none, .append false false 11 104 (.t 20) (.t 22)⟩, ⟨some 5, none, .mov (.t 23)⟩]) (.skip))) <|
    .ops [⟨some 24, none, .bin .num .add (.t 11) (.c (.int .i64 1))⟩, ⟨some 11, none, .mov (.t 24)⟩]))) <|
  .seq (.ops [⟨some 25, none, .fieldAddr 0 (.t 2)⟩, ⟨some 26, none, .load1 (.t 25)⟩, ⟨some 27, none, .mov (.t 5)⟩, ⟨some 28, none, .build [(.sl .nil 0 []), (.sl .nil 0 [])] [(0, 1, (.t 26)), (1, 1, (.t 27))]⟩, ⟨none, none, .storeN 2 (.t 4) (.t 28)⟩]) <|
  .ret
def v21 : VFunc := ⟨29, [.cellN 2 4], c21⟩
/-- (berthing/berthingref08.Table).Put -/
def c22 : VCode :=
  .seq (.ops [⟨some 3, none, .box (.t 0)⟩, ⟨some 4, none, .box (.t 1)⟩, ⟨some 5, none, .box (.t 2)⟩, ⟨some 6, none, .alloc [(.sl .nil 0 []), (.sl .nil 0 [])]⟩, ⟨some 7, none, .mov (.c (.int .i64 0))⟩]) <|
  .seq (.seq (.ops [⟨some 15, none, .fieldAddr 0 (.t 4)⟩, ⟨some 16, none, .load1 (.t 15)⟩, ⟨some 17, none, .call .pure 37 [(.t 16)]⟩, ⟨some 18, none, .un .not (.t 17)⟩, ⟨some 19, none, .mov (.t 18)⟩, ⟨some 20, some (19, false), .fieldAddr 1 (.t 4)⟩, ⟨some 21, some (19, false), .load1 (.t 20)⟩, ⟨some 22, some (19, false), .call .pure 37 [(.t 21)]⟩, ⟨some 23, some (19, false), .un .not (.t 22)⟩, ⟨some 24, none, .pick (.t 19) (.c (.bool true)) (.t 23)⟩, ⟨some 25, none, .mov (.t 24)⟩, ⟨some 26, some (25, false), .fieldAddr 2 (.t 4)⟩, ⟨some 27, some (25, false), .load1 (.t 26)⟩, ⟨some 28, some (25, false), .bin .num .lss (.t 27) (.c (.int .i64 0))⟩, ⟨some 29, none, .pick (.t 25) (.c (.bool true)) (.t 28)⟩, ⟨some 30, none, .mov (.t 29)⟩, ⟨some 31, some (30, false), .fieldAddr 2 (.t 4)⟩, ⟨some 32, some (30, false), .load1 (.t 31)⟩, ⟨some 33, some (30, false), .bin .num .gtr (.t 32) (.c (.int .i64 1))⟩, ⟨some 34, none, .pick (.t 30) (.c (.bool true)) (.t 33)⟩]) <|
  .cond (.t 34) (.seq (.ops [⟨some 35, none, .loadN 2 (.t 3)⟩, ⟨none, none, .storeN 2 (.t 6) (.t 35)⟩, ⟨some 7, none, .mov (.c (.int .i64 2))⟩]) <|
   .ret) (.skip)) <|
  .seq (.seq (.ops [⟨some 8, none, .mov (.c (.int .i64 0))⟩]) <|
  .block 0 (.loop (.seq (.seq (.ops [⟨some 36, none, .mov (.t 8)⟩, ⟨some 37, none, .bin .num .lss (.t 36) (.c (.int .i64 8))⟩]) <|
    .cond (.t 37) (.skip) (.exit 0)) <|
    .seq (.block 1 (.seq (.ops [⟨some 40, none, .mov (.t 8)⟩, ⟨some 41, none, .idxAddrA 8 1 (.t 5) (.t 40)⟩, ⟨some 42, none, .load1 (.t 41)⟩, ⟨some 43, none, .bin .num .lss (.t 42) (.c (.int .i64 0))⟩, ⟨some 44, none, .mov (.t 43)⟩, ⟨some 45, some (44, false), .mov (.t 8)⟩, ⟨some 46, some (44, false), .idxAddrA 8 1 (.t 5) (.t 45)⟩, ⟨some 47, some (44, false), .load1 (.t 46)⟩, ⟨some 48, some (44, false), .bin .num .gtr (.t 47) (.c (.int .i64 1073741824))⟩, ⟨some 49, none, .pick (.t 44) (.c (.bool true)) (.t 48)⟩, ⟨some 50, none, .mov (.t 49)⟩, ⟨some 51, some (50, false), .mov (.t 8)⟩, ⟨some 52, some (50, false), .fieldAddr 0 (.t 3)⟩, ⟨some 53, some (50, false), .load1 (.t 52)⟩, ⟨some 54, some (50, false), .lenS (.t 53)⟩, ⟨some 55, some (50, false), .bin .num .geq (.t 51) (.t 54)⟩, ⟨some 56, some (50, false), .mov (.t 55)⟩, ⟨some 57, some (56, true), .mov (.t 8)⟩, ⟨some 58, some (56, true), .idxAddrA 8 1 (.t 5) (.t 57)⟩, ⟨some 59, some (56, true), .load1 (.t 58)⟩, ⟨some 60, some (56, true), .bin .num .neq (.t 59) (.c (.int .i64 0))⟩, ⟨some 61, some (50, false), .pick (.t 56) (.t 60) (.c (.bool false))⟩, ⟨some 62, none, .pick (.t 50) (.c (.bool true)) (.t 61)⟩]) <|
     .cond (.t 62) (.seq (.ops [⟨some 63, none, .loadN 2 (.t 3)⟩, ⟨none, none, .storeN 2 (.t 6) (.t 63)⟩, ⟨some 7, none, .mov (.c (.int .i64 2))⟩]) <|
      .ret) (.skip))) <|
    .ops [⟨some 38, none, .mov (.t 8)⟩, ⟨some 39, none, .bin .num .add (.t 38) (.c (.int .i64 1))⟩, ⟨some 8, none, .mov (.t 39)⟩]))) <|
  .seq (.ops [⟨some 64, none, .loadN 2 (.t 3)⟩, ⟨some 65, none, .loadN 3 (.t 4)⟩, ⟨some 66, none, .call .pure 38 [(.t 64), (.t 65)]⟩, ⟨some 9, none, .alloc [(.sl .nil 0 []), (.sl .nil 0 [])]⟩, ⟨none, none, .storeN 2 (.t 9) (.t 66)⟩]) <|
  .seq (.seq (.ops [⟨some 10, none, .mov (.c (.int .i64 0))⟩]) <|
  .block 2 (.loop (.seq (.seq (.ops [⟨some 67, none, .mov (.t 10)⟩, ⟨some 68, none, .bin .num .lss (.t 67) (.c (.int .i64 8))⟩]) <|
    .cond (.t 68) (.skip) (.exit 2)) <|
    .seq (.block 3 (.seq (.ops [⟨some 71, none, .mov (.t 10)⟩, ⟨some 72, none, .idxAddrA 8 1 (.t 5) (.t 71)⟩, ⟨some 73, none, .load1 (.t 72)⟩, ⟨some 74, none, .loadN 2 (.t 9)⟩, ⟨some 75, none, .mov (.t 10)⟩, ⟨some 76, none, .fieldAddr 2 (.t 4)⟩, ⟨some 77, none, .load1 (.t 76)⟩, ⟨some 78, none, .call .pure 25 [(.t 74), (.t 75), (.t 77)]⟩, ⟨some 79, none, .bin .num .gtr (.t 73) (.t 78)⟩]) <|
     .cond (.t 79) (.seq (.ops [⟨some 80, none, .loadN 2 (.t 3)⟩, ⟨none, none, .storeN 2 (.t 6) (.t 80)⟩, ⟨some 7, none, .mov (.c (.int .i64 20))⟩]) <|
      .ret) (.skip))) <|
    .ops [⟨some 69, none, .mov (.t 10)⟩, ⟨some 70, none, .bin .num .add (.t 69) (.c (.int .i64 1))⟩, ⟨some 10, none, .mov (.t 70)⟩]))) <|
  .seq (.seq (.ops [⟨some 81, none, .loadN 8 (.t 5)⟩, ⟨some 82, none, .build [(.int .i64 0), (.int .i64 0), (.int .i64 0), (.int .i64 0), (.int .i64 0), (.int .i64 0), (.int .i64 0), (.int .i64 0)] []⟩, ⟨some 83, none, .bin (.agg [.i, .i, .i, .i, .i, .i, .i, .i]) .eql (.t 81) (.t 82)⟩]) <|
  .cond (.t 83) (.seq (.ops [⟨some 84, none, .loadN 2 (.t 9)⟩, ⟨none, none, .storeN 2 (.t 6) (.t 84)⟩, ⟨some 7, none, .mov (.c (.int .i64 0))⟩]) <|
   .ret) (.skip)) <|
  .seq (.ops [⟨some 11, none, .mov (.c (.sl .nil 0 []))⟩]) <|
  .seq (.ops [⟨some 12, none, .mov (.c (.bool false))⟩]) <|
  .seq (.seq (.ops [⟨some 85, none, .fieldAddr 1 (.t 9)⟩, ⟨some 86, none, .load1 (.t 85)⟩, ⟨some 87, none, .lenS (.t 86)⟩, ⟨some 88, none, .mov (.c (.int .i64 0))⟩]) <|
  .block 4 (.loop (.seq (.ops [⟨some 89, none, .bin .num .lss (.t 88) (.t 87)⟩]) <|
    .seq (.cond (.t 89) (.skip) (.exit 4)) <|
    .seq (.block 5 (.seq (.ops [⟨some 90, none, .idxAddrS 11 (.t 86) (.t 88)⟩, ⟨some 91, none, .loadN 11 (.t 90)⟩, ⟨some 14, none, .alloc [(.str ⟨#[]⟩), (.str ⟨#[]⟩), (.int .i64 0), (.int .i64 0), (.int .i64 0), (.int .i64 0), (.int .i64 0), (.int .i64 0), (.int .i64 0), (.int .i64 0), (.int .i64 0)]⟩, ⟨none, none, .storeN 11 (.t 14) (.t 91)⟩]) <|
     .seq (.seq (.ops [⟨some 92, none, .mov (.t 12)⟩, ⟨some 93, none, .un .not (.t 92)⟩, ⟨some 94, none, .mov (.t 93)⟩, ⟨some 95, some (94, true), .loadN 3 (.t 4)⟩, ⟨some 96, some (94, true), .fieldAddr 0 (.t 14)⟩, ⟨some 97, some (94, true), .loadN 3 (.t 96)⟩, ⟨some 98, some (94, true), .call .pure 39 [(.t 95), (.t 97)]⟩, ⟨some 99, none, .pick (.t 94) (.t 98) (.c (.bool false))⟩]) <|
     .cond (.t 99) (.seq (.ops [⟨some 100, none, .mov (.t 11)⟩, ⟨some 101, none, .loadN 3 (.t 4)⟩, ⟨some 102, none, .loadN 8 (.t 5)⟩, ⟨some 103, none, .build [(.str ⟨#[]⟩), (.str ⟨#[]⟩), (.int .i64 0), (.int .i64 0), (.int .i64 0), (.int .i64 0), (.int .i64 0), (.int .i64 0), (.int .i64 0), (.int .i64 0), (.int .i64 0)] [(0, 3, (.t 101)), (3, 8, (.t 102))]⟩, ⟨some 104, none, .buildSlice false 11 1 [(.str ⟨#[]⟩), (.str ⟨#[]⟩), (.int .i64 0), (.int .i64 0), (.int .i64 0), (.int .i64 0), (.int .i64 0), (.int .i64 0), (.int .i64 0), (.int .i64 0), (.int .i64 0)] [(0, 11, (.t 103))]⟩, ⟨some 105, none, .append false false 11 104 (.t 100) (.t 104)⟩, ⟨some 11, none, .mov (.t 105)⟩]) <|
      .ops [⟨some 12, none, .mov (.c (.bool true))⟩]) (.skip)) <|
     .ops [⟨some 106, none, .mov (.t 11)⟩, ⟨some 107, none, .loadN 11 (.t 14)⟩, ⟨some 108, none, .buildSlice false 11 1 [(.str ⟨#[]⟩), (.str ⟨#[]⟩), (.int .i64 0), (.int .i64 0), (.int .i64 0), (.int .i64 0), (.int .i64 0), (.int .i64 0), (.int .i64 0), (.int .i64 0), (.int .i64 0)] [(0, 11, (.t 107))]⟩, ⟨some 109, none, .append false false 11 104 (.t 106) (.t 108)⟩, ⟨some 11, none, .mov (.t 109)⟩])) <|
    .ops [⟨some 110, none, .bin .num .add (.t 88) (.c (.int .i64 1))⟩, ⟨some 88, none, .mov (.t 110)⟩]))) <|
  .seq (.seq (.ops [⟨some 111, none, .mov (.t 12)⟩, ⟨some 112, none, .un .not (.t 111)⟩]) <|
  .cond (.t 112) (.ops [⟨some 113, none, .mov (.t 11)⟩, ⟨some 114, none, .loadN 3 (.t 4)⟩, ⟨some 115, none, .loadN 8 (.t 5)⟩, ⟨some 116, none, .build [(.str ⟨#[]⟩), (.str ⟨#[]⟩), (.int .i64 0), (.int .i64 0), (.int .i64 0), (.int .i64 0), (.int .i64 0), (.int .i64 0), (.int .i64 0), (.int .i64 0), (.int .i64 0)] [(0, 3, (.t 114)), (3, 8, (.t 115))]⟩, ⟨some 117, none, .buildSlice false 11 1 [(.str ⟨#[]⟩), (.str ⟨#[]⟩), (.int .i64 0), (.int .i64 0), (.int .i64 0), (.int .i64 0), (.int .i64 0), (.int .i64 0), (.int .i64 0), (.int .i64 0), (.int .i64 0)] [(0, 11, (.t 116))]⟩, ⟨some 118, none, .append false false 11 104 (.t 113) (.t 117)⟩, ⟨some 11, none, .mov (.t 118)⟩]) (.skip)) <|
  .seq (.ops [⟨some 119, none, .fieldAddr 0 (.t 3)⟩, ⟨some 120, none, .load1 (.t 119)⟩, ⟨some 121, none, .mov (.t 11)⟩, ⟨some 122, none, .build [(.sl .nil 0 []), (.sl .nil 0 [])] [(0, 1, (.t 120)), (1, 1, (.t 121))]⟩, ⟨none, none, .storeN 2 (.t 6) (.t 122)⟩, ⟨some 7, none, .mov (.c (.int .i64 0))⟩]) <|
  .ret
def v22 : VFunc := ⟨123, [.cellN 2 6, .tmp 7], c22⟩
/-- (berthing/berthingref08.Table).Held -/
def c23 : VCode :=
  .seq (.ops [⟨some 2, none, .box (.t 0)⟩, ⟨some 3, none, .box (.t 1)⟩, ⟨some 4, none, .alloc [(.int .i64 0), (.int .i64 0), (.int .i64 0), (.int .i64 0), (.int .i64 0), (.int .i64 0), (.int .i64 0), (.int .i64 0)]⟩]) <|
  .seq (.seq (.ops [⟨some 7, none, .fieldAddr 1 (.t 2)⟩, ⟨some 8, none, .load1 (.t 7)⟩, ⟨some 9, none, .lenS (.t 8)⟩, ⟨some 10, none, .mov (.c (.int .i64 0))⟩]) <|
  .block 0 (.loop (.seq (.ops [⟨some 11, none, .bin .num .lss (.t 10) (.t 9)⟩]) <|
    .seq (.cond (.t 11) (.skip) (.exit 0)) <|
    .seq (.block 1 (.seq (.ops [⟨some 12, none, .idxAddrS 11 (.t 8) (.t 10)⟩, ⟨some 13, none, .loadN 11 (.t 12)⟩, ⟨some 6, none, .alloc [(.str ⟨#[]⟩), (.str ⟨#[]⟩), (.int .i64 0), (.int .i64 0), (.int .i64 0), (.int .i64 0), (.int .i64 0), (.int .i64 0), (.int .i64 0), (.int .i64 0), (.int .i64 0)]⟩, ⟨none, none, .storeN 11 (.t 6) (.t 13)⟩]) <|
     .seq (.ops [⟨some 14, none, .fieldAddr 0 (.t 6)⟩, ⟨some 15, none, .loadN 3 (.t 14)⟩, ⟨some 16, none, .loadN 3 (.t 3)⟩, ⟨some 17, none, .bin (.agg [.s, .s, .i]) .eql (.t 15) (.t 16)⟩]) <|
     .cond (.t 17) (.seq (.ops [⟨some 18, none, .fieldAddr 3 (.t 6)⟩, ⟨some 19, none, .loadN 8 (.t 18)⟩, ⟨none, none, .storeN 8 (.t 4) (.t 19)⟩]) <|
      .ret) (.skip))) <|
    .ops [⟨some 20, none, .bin .num .add (.t 10) (.c (.int .i64 1))⟩, ⟨some 10, none, .mov (.t 20)⟩]))) <|
  .seq (.ops [⟨some 21, none, .build [(.int .i64 0), (.int .i64 0), (.int .i64 0), (.int .i64 0), (.int .i64 0), (.int .i64 0), (.int .i64 0), (.int .i64 0)] []⟩, ⟨none, none, .storeN 8 (.t 4) (.t 21)⟩]) <|
  .ret
def v23 : VFunc := ⟨22, [.cellN 8 4], c23⟩
/-- (berthing/berthingref08.Table).Room -/
def c24 : VCode :=
  .seq (.ops [⟨some 3, none, .box (.t 0)⟩, ⟨some 6, none, .mov (.c (.int .i64 0))⟩]) <|
  .seq (.seq (.ops [⟨some 7, none, .mov (.t 1)⟩, ⟨some 8, none, .bin .num .lss (.t 7) (.c (.int .i64 0))⟩, ⟨some 9, none, .mov (.t 8)⟩, ⟨some 10, some (9, false), .mov (.t 1)⟩, ⟨some 11, some (9, false), .fieldAddr 0 (.t 3)⟩, ⟨some 12, some (9, false), .load1 (.t 11)⟩, ⟨some 13, some (9, false), .lenS (.t 12)⟩, ⟨some 14, some (9, false), .bin .num .geq (.t 10) (.t 13)⟩, ⟨some 15, none, .pick (.t 9) (.c (.bool true)) (.t 14)⟩, ⟨some 16, none, .mov (.t 15)⟩, ⟨some 17, some (16, false), .mov (.t 2)⟩, ⟨some 18, some (16, false), .bin .num .lss (.t 17) (.c (.int .i64 0))⟩, ⟨some 19, none, .pick (.t 16) (.c (.bool true)) (.t 18)⟩, ⟨some 20, none, .mov (.t 19)⟩, ⟨some 21, some (20, false), .mov (.t 2)⟩, ⟨some 22, some (20, false), .bin .num .gtr (.t 21) (.c (.int .i64 1))⟩, ⟨some 23, none, .pick (.t 20) (.c (.bool true)) (.t 22)⟩]) <|
  .cond (.t 23) (.seq (.ops [⟨some 6, none, .mov (.c (.int .i64 0))⟩]) <|
   .ret) (.skip)) <|
  .seq (.ops [⟨some 24, none, .fieldAddr 0 (.t 3)⟩, ⟨some 25, none, .load1 (.t 24)⟩, ⟨some 26, none, .mov (.t 1)⟩, ⟨some 27, none, .mov (.t 2)⟩, ⟨some 28, none, .idxAddrS 4 (.t 25) (.t 26)⟩, ⟨some 29, none, .fieldAddr 0 (.t 28)⟩, ⟨some 30, none, .idxAddrA 2 1 (.t 29) (.t 27)⟩, ⟨some 31, none, .load1 (.t 30)⟩, ⟨some 32, none, .fieldAddr 0 (.t 3)⟩, ⟨some 33, none, .load1 (.t 32)⟩, ⟨some 34, none, .mov (.t 1)⟩, ⟨some 35, none, .mov (.t 2)⟩, ⟨some 36, none, .idxAddrS 4 (.t 33) (.t 34)⟩, ⟨some 37, none, .fieldAddr 2 (.t 36)⟩, ⟨some 38, none, .idxAddrA 2 1 (.t 37) (.t 35)⟩, ⟨some 39, none, .load1 (.t 38)⟩, ⟨some 40, none, .bin .num .sub (.t 31) (.t 39)⟩, ⟨some 6, none, .mov (.t 40)⟩]) <|
  .ret
def v24 : VFunc := ⟨41, [.tmp 6], c24⟩
/-- (berthing/berthingref08.Table).Free -/
def c25 : VCode :=
  .seq (.ops [⟨some 3, none, .box (.t 0)⟩, ⟨some 6, none, .mov (.c (.int .i64 0))⟩]) <|
  .seq (.ops [⟨some 10, none, .loadN 2 (.t 3)⟩, ⟨some 11, none, .mov (.t 1)⟩, ⟨some 12, none, .mov (.t 2)⟩, ⟨some 13, none, .call .pure 24 [(.t 10), (.t 11), (.t 12)]⟩, ⟨some 7, none, .mov (.t 13)⟩]) <|
  .seq (.seq (.ops [⟨some 14, none, .mov (.t 1)⟩, ⟨some 15, none, .bin .num .lss (.t 14) (.c (.int .i64 0))⟩, ⟨some 16, none, .mov (.t 15)⟩, ⟨some 17, some (16, false), .mov (.t 1)⟩, ⟨some 18, some (16, false), .bin .num .gtr (.t 17) (.c (.int .i64 7))⟩, ⟨some 19, none, .pick (.t 16) (.c (.bool true)) (.t 18)⟩, ⟨some 20, none, .mov (.t 19)⟩, ⟨some 21, some (20, false), .mov (.t 2)⟩, ⟨some 22, some (20, false), .bin .num .lss (.t 21) (.c (.int .i64 0))⟩, ⟨some 23, none, .pick (.t 20) (.c (.bool true)) (.t 22)⟩, ⟨some 24, none, .mov (.t 23)⟩, ⟨some 25, some (24, false), .mov (.t 2)⟩, ⟨some 26, some (24, false), .bin .num .gtr (.t 25) (.c (.int .i64 1))⟩, ⟨some 27, none, .pick (.t 24) (.c (.bool true)) (.t 26)⟩]) <|
  .cond (.t 27) (.seq (.ops [⟨some 6, none, .mov (.c (.int .i64 0))⟩]) <|
   .ret) (.skip)) <|
  .seq (.seq (.ops [⟨some 28, none, .fieldAddr 1 (.t 3)⟩, ⟨some 29, none, .load1 (.t 28)⟩, ⟨some 30, none, .lenS (.t 29)⟩, ⟨some 31, none, .mov (.c (.int .i64 0))⟩]) <|
  .block 0 (.loop (.seq (.ops [⟨some 32, none, .bin .num .lss (.t 31) (.t 30)⟩]) <|
    .seq (.cond (.t 32) (.skip) (.exit 0)) <|
    .seq (.block 1 (.seq (.ops [⟨some 33, none, .idxAddrS 11 (.t 29) (.t 31)⟩, ⟨some 34, none, .loadN 11 (.t 33)⟩, ⟨some 9, none, .alloc [(.str ⟨#[]⟩), (.str ⟨#[]⟩), (.int .i64 0), (.int .i64 0), (.int .i64 0), (.int .i64 0), (.int .i64 0), (.int .i64 0), (.int .i64 0), (.int .i64 0), (.int .i64 0)]⟩, ⟨none, none, .storeN 11 (.t 9) (.t 34)⟩]) <|
     .seq (.ops [⟨some 35, none, .fieldAddr 0 (.t 9)⟩, ⟨some 36, none, .fieldAddr 2 (.t 35)⟩, ⟨some 37, none, .load1 (.t 36)⟩, ⟨some 38, none, .mov (.t 2)⟩, ⟨some 39, none, .bin .num .eql (.t 37) (.t 38)⟩]) <|
     .cond (.t 39) (.ops [⟨some 40, none, .mov (.t 7)⟩, ⟨some 41, none, .mov (.t 1)⟩, ⟨some 42, none, .fieldAddr 3 (.t 9)⟩, ⟨some 43, none, .idxAddrA 8 1 (.t 42) (.t 41)⟩, ⟨some 44, none, .load1 (.t 43)⟩, ⟨some 45, none, .bin .num .sub (.t 40) (.t 44)⟩, ⟨some 7, none, .mov (.t 45)⟩]) (.skip))) <|
    .ops [⟨some 46, none, .bin .num .add (.t 31) (.c (.int .i64 1))⟩, ⟨some 31, none, .mov (.t 46)⟩]))) <|
  .seq (.ops [⟨some 47, none, .mov (.t 7)⟩, ⟨some 6, none, .mov (.t 47)⟩]) <|
  .ret
def v25 : VFunc := ⟨48, [.tmp 6], c25⟩
/-- berthing/berthingref08.Same -/
def c26 : VCode :=
  .seq (.ops [⟨some 4, none, .mov (.c (.bool false))⟩]) <|
  .seq (.seq (.ops [⟨some 6, none, .mov (.t 0)⟩, ⟨some 7, none, .lenS (.t 6)⟩, ⟨some 8, none, .mov (.t 1)⟩, ⟨some 9, none, .lenS (.t 8)⟩, ⟨some 10, none, .bin .num .neq (.t 7) (.t 9)⟩]) <|
  .cond (.t 10) (.seq (.ops [⟨some 4, none, .mov (.c (.bool false))⟩]) <|
   .ret) (.skip)) <|
  .seq (.seq (.ops [⟨some 11, none, .mov (.t 0)⟩, ⟨some 12, none, .lenS (.t 11)⟩, ⟨some 13, none, .mov (.c (.int .i64 0))⟩]) <|
  .block 0 (.loop (.seq (.ops [⟨some 14, none, .bin .num .lss (.t 13) (.t 12)⟩]) <|
    .seq (.cond (.t 14) (.skip) (.exit 0)) <|
    .seq (.block 1 (.seq (.ops [⟨some 15, none, .mov (.t 13)⟩, ⟨some 5, none, .mov (.t 15)⟩]) <|
     .seq (.ops [⟨some 16, none, .mov (.t 0)⟩, ⟨some 17, none, .mov (.t 5)⟩, ⟨some 18, none, .idxAddrS 11 (.t 16) (.t 17)⟩, ⟨some 19, none, .loadN 11 (.t 18)⟩, ⟨some 20, none, .mov (.t 1)⟩, ⟨some 21, none, .mov (.t 5)⟩, ⟨some 22, none, .idxAddrS 11 (.t 20) (.t 21)⟩, ⟨some 23, none, .loadN 11 (.t 22)⟩, ⟨some 24, none, .bin (.agg [.s, .s, .i, .i, .i, .i, .i, .i, .i, .i, .i]) .neq (.t 19) (.t 23)⟩]) <|
     .cond (.t 24) (.seq (.ops [⟨some 4, none, .mov (.c (.bool false))⟩]) <|
      .ret) (.skip))) <|
    .ops [⟨some 25, none, .bin .num .add (.t 13) (.c (.int .i64 1))⟩, ⟨some 13, none, .mov (.t 25)⟩]))) <|
  .seq (.ops [⟨some 4, none, .mov (.c (.bool true))⟩]) <|
  .ret
def v26 : VFunc := ⟨26, [.tmp 4], c26⟩
/-- berthing/blocks.Sum -/
def c27 : VCode :=
  .seq (.ops [⟨some 1, none, .box (.t 0)⟩, ⟨some 2, none, .mov (.c (.int .i64 0))⟩]) <|
  .seq (.ops [⟨some 3, none, .mov (.c (.int .i64 0))⟩]) <|
  .seq (.seq (.ops [⟨some 6, none, .loadN 8 (.t 1)⟩, ⟨some 7, none, .mov (.c (.int .i64 0))⟩]) <|
  .block 0 (.loop (.seq (.ops [⟨some 8, none, .bin .num .lss (.t 7) (.c (.int .i64 8))⟩]) <|
    .seq (.cond (.t 8) (.skip) (.exit 0)) <|
    .seq (.block 1 (.seq (.ops [⟨some 9, none, .idxA1 8 (.t 6) (.t 7)⟩, ⟨some 5, none, .mov (.t 9)⟩]) <|
     .ops [⟨some 10, none, .mov (.t 3)⟩, ⟨some 11, none, .mov (.t 5)⟩, ⟨some 12, none, .bin .num .add (.t 10) (.t 11)⟩, ⟨some 3, none, .mov (.t 12)⟩])) <|
    .ops [⟨some 13, none, .bin .num .add (.t 7) (.c (.int .i64 1))⟩, ⟨some 7, none, .mov (.t 13)⟩]))) <|
  .seq (.ops [⟨some 14, none, .mov (.t 3)⟩, ⟨some 2, none, .mov (.t 14)⟩]) <|
  .ret
def v27 : VFunc := ⟨15, [.tmp 2], c27⟩
/-- slices.Clone[[]berthing/api.Zone,berthing/api.Zone] -/
def c28 : VCode :=
  .seq (.ops [⟨some 2, none, .mov (.c (.sl .nil 0 []))⟩]) <|
  .seq (.seq (.ops [⟨some 3, none, .mov (.t 0)⟩, ⟨some 4, none, .bin .sl .eql (.t 3) (.c (.sl .nil 0 []))⟩]) <|
  .cond (.t 4) (.seq (.ops [⟨some 2, none, .mov (.c (.sl .nil 0 []))⟩]) <|
   .ret) (.skip)) <|
  .seq (.ops [⟨some 5, none, .buildSlice false 4 0 [] []⟩, ⟨some 6, none, .mov (.t 0)⟩, ⟨some 7, none, .append false false 4 32 (.t 5) (.t 6)⟩, ⟨some 2, none, .mov (.t 7)⟩]) <|
  .ret
def v28 : VFunc := ⟨8, [.tmp 2], c28⟩
/-- maps.DeleteFunc[map[berthing/api.Owner]berthing/api.Spread,berthing/api.Owner,berthing/api.Spread] -/
def c29 : VCode :=
  .seq (.ops [⟨some 6, none, .mov (.t 0)⟩, ⟨some 7, none, .rangeM (.t 6)⟩]) <|
  .block 0 (.loopM 7 8 (.seq (.ops [⟨some 9, none, .extract 0 (.t 8)⟩]) <|
    .seq (.cond (.t 9) (.skip) (.exit 0)) <|
    .block 1 (.seq (.ops [⟨some 10, none, .entryM (.t 7)⟩, ⟨some 11, none, .extract 0 (.t 10)⟩, ⟨some 12, none, .extract 1 (.t 10)⟩, ⟨some 4, none, .alloc [(.str ⟨#[]⟩), (.str ⟨#[]⟩), (.int .i64 0)]⟩, ⟨some 5, none, .alloc [(.int .i64 0), (.int .i64 0), (.int .i64 0), (.int .i64 0), (.int .i64 0), (.int .i64 0), (.int .i64 0), (.int .i64 0)]⟩, ⟨none, none, .storeN 3 (.t 4) (.t 11)⟩, ⟨none, none, .storeN 8 (.t 5) (.t 12)⟩]) <|
     .seq (.ops [⟨some 13, none, .mov (.t 1)⟩, ⟨some 14, none, .loadN 3 (.t 4)⟩, ⟨some 15, none, .loadN 8 (.t 5)⟩, ⟨some 16, none, .callV (.t 13) [(.t 14), (.t 15)]⟩]) <|
     .cond (.t 16) (.ops [⟨some 17, none, .mov (.t 0)⟩, ⟨some 18, none, .loadN 3 (.t 4)⟩, ⟨none, none, .delM (.agg [.s, .s, .i]) (.t 17) (.t 18)⟩]) (.skip))))
def v29 : VFunc := ⟨19, [], c29⟩
/-- (*berthing/blocks.Table).Release$1 -/
def c30 : VCode :=
  .seq (.ops [⟨some 3, none, .box (.t 0)⟩, ⟨some 4, none, .box (.t 1)⟩, ⟨some 5, none, .mov (.c (.bool false))⟩]) <|
  .seq (.ops [⟨some 6, none, .fieldAddr 0 (.t 3)⟩, ⟨some 7, none, .load1 (.t 6)⟩, ⟨some 8, none, .load1 (.t 2)⟩, ⟨some 9, none, .bin .num .eql (.t 7) (.t 8)⟩, ⟨some 5, none, .mov (.t 9)⟩]) <|
  .ret
def v30 : VFunc := ⟨10, [.tmp 5], c30⟩
/-- berthing/spec.Name -/
def c31 : VCode :=
  .seq (.ops [⟨some 2, none, .mov (.c (.bool false))⟩]) <|
  .seq (.seq (.ops [⟨some 5, none, .mov (.t 0)⟩, ⟨some 6, none, .lenStr (.t 5)⟩, ⟨some 7, none, .bin .num .lss (.t 6) (.c (.int .i64 1))⟩, ⟨some 8, none, .mov (.t 7)⟩, ⟨some 9, some (8, false), .mov (.t 0)⟩, ⟨some 10, some (8, false), .lenStr (.t 9)⟩, ⟨some 11, some (8, false), .bin .num .gtr (.t 10) (.c (.int .i64 16))⟩, ⟨some 12, none, .pick (.t 8) (.c (.bool true)) (.t 11)⟩, ⟨some 13, none, .mov (.t 12)⟩, ⟨some 14, some (13, false), .mov (.t 0)⟩, ⟨some 15, some (13, false), .idxStr (.t 14) (.c (.int .i64 0))⟩, ⟨some 16, some (13, false), .bin .num .eql (.t 15) (.c (.int .u8 45))⟩, ⟨some 17, none, .pick (.t 13) (.c (.bool true)) (.t 16)⟩, ⟨some 18, none, .mov (.t 17)⟩, ⟨some 19, some (18, false), .mov (.t 0)⟩, ⟨some 20, some (18, false), .mov (.t 0)⟩, ⟨some 21, some (18, false), .lenStr (.t 20)⟩, ⟨some 22, some (18, false), .bin .num .sub (.t 21) (.c (.int .i64 1))⟩, ⟨some 23, some (18, false), .idxStr (.t 19) (.t 22)⟩, ⟨some 24, some (18, false), .bin .num .eql (.t 23) (.c (.int .u8 45))⟩, ⟨some 25, none, .pick (.t 18) (.c (.bool true)) (.t 24)⟩]) <|
  .cond (.t 25) (.seq (.ops [⟨some 2, none, .mov (.c (.bool false))⟩]) <|
   .ret) (.skip)) <|
  .seq (.seq (.ops [⟨some 26, none, .mov (.t 0)⟩, ⟨some 27, none, .lenStr (.t 26)⟩, ⟨some 28, none, .mov (.c (.int .i64 0))⟩]) <|
  .block 0 (.loop (.seq (.ops [⟨some 29, none, .bin .num .lss (.t 28) (.t 27)⟩]) <|
    .seq (.cond (.t 29) (.skip) (.exit 0)) <|
    .seq (.block 1 (.seq (.ops [⟨some 30, none, .mov (.t 28)⟩, ⟨some 3, none, .mov (.t 30)⟩]) <|
     .seq (.ops [⟨some 31, none, .mov (.t 0)⟩, ⟨some 32, none, .mov (.t 3)⟩, ⟨some 33, none, .idxStr (.t 31) (.t 32)⟩, ⟨some 4, none, .mov (.t 33)⟩]) <|
     .seq (.ops [⟨some 34, none, .mov (.t 4)⟩, ⟨some 35, none, .bin .num .lss (.t 34) (.c (.int .u8 97))⟩, ⟨some 36, none, .mov (.t 35)⟩, ⟨some 37, some (36, false), .mov (.t 4)⟩, ⟨some 38, some (36, false), .bin .num .gtr (.t 37) (.c (.int .u8 122))⟩, ⟨some 39, none, .pick (.t 36) (.c (.bool true)) (.t 38)⟩, ⟨some 40, none, .mov (.t 39)⟩, ⟨some 41, some (40, true), .mov (.t 4)⟩, ⟨some 42, some (40, true), .bin .num .lss (.t 41) (.c (.int .u8 48))⟩, ⟨some 43, some (40, true), .mov (.t 42)⟩, ⟨some 44, some (43, false), .mov (.t 4)⟩, ⟨some 45, some (43, false), .bin .num .gtr (.t 44) (.c (.int .u8 57))⟩, ⟨some 46, some (40, true), .pick (.t 43) (.c (.bool true)) (.t 45)⟩, ⟨some 47, none, .pick (.t 40) (.t 46) (.c (.bool false))⟩, ⟨some 48, none, .mov (.t 47)⟩, ⟨some 49, some (48, true), .mov (.t 4)⟩, ⟨some 50, some (48, true), .bin .num .neq (.t 49) (.c (.int .u8 45))⟩, ⟨some 51, none, .pick (.t 48) (.t 50) (.c (.bool false))⟩]) <|
     .cond (.t 51) (.seq (.ops [⟨some 2, none, .mov (.c (.bool false))⟩]) <|
      .ret) (.skip))) <|
    .ops [⟨some 52, none, .bin .num .add (.t 28) (.c (.int .i64 1))⟩, ⟨some 28, none, .mov (.t 52)⟩]))) <|
  .seq (.ops [⟨some 2, none, .mov (.c (.bool true))⟩]) <|
  .ret
def v31 : VFunc := ⟨53, [.tmp 2], c31⟩
/-- berthing/blocks.kind -/
def c32 : VCode :=
  .seq (.ops [⟨some 2, none, .mov (.c (.bool false))⟩]) <|
  .seq (.ops [⟨some 3, none, .mov (.t 0)⟩, ⟨some 4, none, .bin .num .eql (.t 3) (.c (.int .i64 0))⟩, ⟨some 5, none, .mov (.t 4)⟩, ⟨some 6, some (5, false), .mov (.t 0)⟩, ⟨some 7, some (5, false), .bin .num .eql (.t 6) (.c (.int .i64 1))⟩, ⟨some 8, none, .pick (.t 5) (.c (.bool true)) (.t 7)⟩, ⟨some 2, none, .mov (.t 8)⟩]) <|
  .ret
def v32 : VFunc := ⟨9, [.tmp 2], c32⟩
/-- (*berthing/blocks.Table).All -/
def c33 : VCode :=
  .seq (.ops [⟨some 2, none, .mov (.c .nilf)⟩]) <|
  .seq (.ops [⟨some 4, none, .mkMap⟩, ⟨some 3, none, .alloc [.nilm]⟩, ⟨none, none, .store1 (.t 3) (.t 4)⟩]) <|
  .seq (.seq (.ops [⟨some 5, none, .mov (.t 0)⟩, ⟨some 6, none, .bin .ptr .neq (.t 5) (.c .nilp)⟩]) <|
  .cond (.t 6) (.ops [⟨some 7, none, .mov (.t 0)⟩, ⟨some 8, none, .nilCheck (.t 7)⟩, ⟨some 9, none, .fieldAddr 1 (.t 8)⟩, ⟨some 10, none, .load1 (.t 9)⟩, ⟨some 11, none, .call .shared 34 [(.t 10)]⟩, ⟨none, none, .store1 (.t 3) (.t 11)⟩]) (.skip)) <|
  .seq (.ops [⟨some 12, none, .mkFn 40 [] [(.t 3)]⟩, ⟨some 2, none, .mov (.t 12)⟩]) <|
  .ret
def v33 : VFunc := ⟨13, [.tmp 2], c33⟩
/-- slices.Equal[[]berthing/api.Zone,berthing/api.Zone] -/
def c35 : VCode :=
  .seq (.ops [⟨some 4, none, .mov (.c (.bool false))⟩]) <|
  .seq (.seq (.ops [⟨some 6, none, .mov (.t 0)⟩, ⟨some 7, none, .lenS (.t 6)⟩, ⟨some 8, none, .mov (.t 1)⟩, ⟨some 9, none, .lenS (.t 8)⟩, ⟨some 10, none, .bin .num .neq (.t 7) (.t 9)⟩]) <|
  .cond (.t 10) (.seq (.ops [⟨some 4, none, .mov (.c (.bool false))⟩]) <|
   .ret) (.skip)) <|
  .seq (.seq (.ops [⟨some 11, none, .mov (.t 0)⟩, ⟨some 12, none, .lenS (.t 11)⟩, ⟨some 13, none, .mov (.c (.int .i64 0))⟩]) <|
  .block 0 (.loop (.seq (.ops [⟨some 14, none, .bin .num .lss (.t 13) (.t 12)⟩]) <|
    .seq (.cond (.t 14) (.skip) (.exit 0)) <|
    .seq (.block 1 (.seq (.ops [⟨some 15, none, .mov (.t 13)⟩, ⟨some 5, none, .mov (.t 15)⟩]) <|
     .seq (.ops [⟨some 16, none, .mov (.t 0)⟩, ⟨some 17, none, .mov (.t 5)⟩, ⟨some 18, none, .idxAddrS 4 (.t 16) (.t 17)⟩, ⟨some 19, none, .loadN 4 (.t 18)⟩, ⟨some 20, none, .mov (.t 1)⟩, ⟨some 21, none, .mov (.t 5)⟩, ⟨some 22, none, .idxAddrS 4 (.t 20) (.t 21)⟩, ⟨some 23, none, .loadN 4 (.t 22)⟩, ⟨some 24, none, .bin (.agg [.i, .i, .i, .i]) .neq (.t 19) (.t 23)⟩]) <|
     .cond (.t 24) (.seq (.ops [⟨some 4, none, .mov (.c (.bool false))⟩]) <|
      .ret) (.skip))) <|
    .ops [⟨some 25, none, .bin .num .add (.t 13) (.c (.int .i64 1))⟩, ⟨some 13, none, .mov (.t 25)⟩]))) <|
  .seq (.ops [⟨some 4, none, .mov (.c (.bool true))⟩]) <|
  .ret
def v35 : VFunc := ⟨26, [.tmp 4], c35⟩
/-- maps.Equal[map[berthing/api.Owner]berthing/api.Spread,map[berthing/api.Owner]berthing/api.Spread,berthing/api.Owner,berthing/api.Spread] -/
def c36 : VCode :=
  .seq (.ops [⟨some 4, none, .mov (.c (.bool false))⟩]) <|
  .seq (.seq (.ops [⟨some 9, none, .mov (.t 0)⟩, ⟨some 10, none, .lenM (.t 9)⟩, ⟨some 11, none, .mov (.t 1)⟩, ⟨some 12, none, .lenM (.t 11)⟩, ⟨some 13, none, .bin .num .neq (.t 10) (.t 12)⟩]) <|
  .cond (.t 13) (.seq (.ops [⟨some 4, none, .mov (.c (.bool false))⟩]) <|
   .ret) (.skip)) <|
  .seq (.seq (.ops [⟨some 14, none, .mov (.t 0)⟩, ⟨some 15, none, .rangeM (.t 14)⟩]) <|
  .block 0 (.loopM 15 16 (.seq (.ops [⟨some 17, none, .extract 0 (.t 16)⟩]) <|
    .seq (.cond (.t 17) (.skip) (.exit 0)) <|
    .block 1 (.seq (.ops [⟨some 18, none, .entryM (.t 15)⟩, ⟨some 19, none, .extract 0 (.t 18)⟩, ⟨some 20, none, .extract 1 (.t 18)⟩, ⟨some 5, none, .alloc [(.str ⟨#[]⟩), (.str ⟨#[]⟩), (.int .i64 0)]⟩, ⟨some 6, none, .alloc [(.int .i64 0), (.int .i64 0), (.int .i64 0), (.int .i64 0), (.int .i64 0), (.int .i64 0), (.int .i64 0), (.int .i64 0)]⟩, ⟨none, none, .storeN 3 (.t 5) (.t 19)⟩, ⟨none, none, .storeN 8 (.t 6) (.t 20)⟩]) <|
     .seq (.ops [⟨some 22, none, .mov (.t 1)⟩, ⟨some 23, none, .loadN 3 (.t 5)⟩, ⟨some 24, none, .lookM true (.agg [.s, .s, .i]) (.agg [(.int .i64 0), (.int .i64 0), (.int .i64 0), (.int .i64 0), (.int .i64 0), (.int .i64 0), (.int .i64 0), (.int .i64 0)]) (.t 22) (.t 23)⟩, ⟨some 21, none, .mov (.t 24)⟩, ⟨some 25, none, .extract 0 (.t 21)⟩, ⟨some 26, none, .extract 1 (.t 21)⟩, ⟨some 7, none, .alloc [(.int .i64 0), (.int .i64 0), (.int .i64 0), (.int .i64 0), (.int .i64 0), (.int .i64 0), (.int .i64 0), (.int .i64 0)]⟩, ⟨none, none, .storeN 8 (.t 7) (.t 25)⟩, ⟨some 8, none, .mov (.t 26)⟩]) <|
     .seq (.ops [⟨some 27, none, .mov (.t 8)⟩, ⟨some 28, none, .un .not (.t 27)⟩, ⟨some 29, none, .mov (.t 28)⟩, ⟨some 30, some (29, false), .loadN 8 (.t 6)⟩, ⟨some 31, some (29, false), .loadN 8 (.t 7)⟩, ⟨some 32, some (29, false), .bin (.agg [.i, .i, .i, .i, .i, .i, .i, .i]) .neq (.t 30) (.t 31)⟩, ⟨some 33, none, .pick (.t 29) (.c (.bool true)) (.t 32)⟩]) <|
     .cond (.t 33) (.seq (.ops [⟨some 4, none, .mov (.c (.bool false))⟩]) <|
      .ret) (.skip))))) <|
  .seq (.ops [⟨some 4, none, .mov (.c (.bool true))⟩]) <|
  .ret
def v36 : VFunc := ⟨34, [.tmp 4], c36⟩
/-- berthing/berthingref05.Name -/
def c37 : VCode :=
  .seq (.ops [⟨some 2, none, .mov (.c (.bool false))⟩]) <|
  .seq (.seq (.ops [⟨some 3, none, .mov (.c (.int .i64 0))⟩]) <|
  .block 0 (.loop (.seq (.seq (.ops [⟨some 6, none, .mov (.t 3)⟩, ⟨some 7, none, .mov (.t 0)⟩, ⟨some 8, none, .lenStr (.t 7)⟩, ⟨some 9, none, .bin .num .lss (.t 6) (.t 8)⟩]) <|
    .cond (.t 9) (.skip) (.exit 0)) <|
    .seq (.block 1 (.seq (.ops [⟨some 12, none, .mov (.t 0)⟩, ⟨some 13, none, .mov (.t 3)⟩, ⟨some 14, none, .idxStr (.t 12) (.t 13)⟩, ⟨some 4, none, .mov (.t 14)⟩]) <|
     .seq (.ops [⟨some 15, none, .mov (.t 4)⟩, ⟨some 16, none, .bin .num .geq (.t 15) (.c (.int .u8 97))⟩, ⟨some 17, none, .mov (.t 16)⟩, ⟨some 18, some (17, true), .mov (.t 4)⟩, ⟨some 19, some (17, true), .bin .num .leq (.t 18) (.c (.int .u8 122))⟩, ⟨some 20, none, .pick (.t 17) (.t 19) (.c (.bool false))⟩, ⟨some 21, none, .mov (.t 20)⟩, ⟨some 22, some (21, false), .mov (.t 4)⟩, ⟨some 23, some (21, false), .bin .num .geq (.t 22) (.c (.int .u8 48))⟩, ⟨some 24, some (21, false), .mov (.t 23)⟩, ⟨some 25, some (24, true), .mov (.t 4)⟩, ⟨some 26, some (24, true), .bin .num .leq (.t 25) (.c (.int .u8 57))⟩, ⟨some 27, some (21, false), .pick (.t 24) (.t 26) (.c (.bool false))⟩, ⟨some 28, none, .pick (.t 21) (.c (.bool true)) (.t 27)⟩, ⟨some 5, none, .mov (.t 28)⟩]) <|
     .seq (.ops [⟨some 29, none, .mov (.t 5)⟩, ⟨some 30, none, .un .not (.t 29)⟩, ⟨some 31, none, .mov (.t 30)⟩, ⟨some 32, some (31, true), .mov (.t 4)⟩, ⟨some 33, some (31, true), .bin .num .neq (.t 32) (.c (.int .u8 45))⟩, ⟨some 34, some (31, true), .mov (.t 33)⟩, ⟨some 35, some (34, false), .mov (.t 3)⟩, ⟨some 36, some (34, false), .bin .num .eql (.t 35) (.c (.int .i64 0))⟩, ⟨some 37, some (31, true), .pick (.t 34) (.c (.bool true)) (.t 36)⟩, ⟨some 38, some (31, true), .mov (.t 37)⟩, ⟨some 39, some (38, false), .mov (.t 3)⟩, ⟨some 40, some (38, false), .mov (.t 0)⟩, ⟨some 41, some (38, false), .lenStr (.t 40)⟩, ⟨some 42, some (38, false), .bin .num .sub (.t 41) (.c (.int .i64 1))⟩, ⟨some 43, some (38, false), .bin .num .eql (.t 39) (.t 42)⟩, ⟨some 44, some (31, true), .pick (.t 38) (.c (.bool true)) (.t 43)⟩, ⟨some 45, none, .pick (.t 31) (.t 44) (.c (.bool false))⟩]) <|
     .cond (.t 45) (.seq (.ops [⟨some 2, none, .mov (.c (.bool false))⟩]) <|
      .ret) (.skip))) <|
    .ops [⟨some 10, none, .mov (.t 3)⟩, ⟨some 11, none, .bin .num .add (.t 10) (.c (.int .i64 1))⟩, ⟨some 3, none, .mov (.t 11)⟩]))) <|
  .seq (.ops [⟨some 46, none, .mov (.t 0)⟩, ⟨some 47, none, .lenStr (.t 46)⟩, ⟨some 48, none, .bin .num .gtr (.t 47) (.c (.int .i64 0))⟩, ⟨some 49, none, .mov (.t 48)⟩, ⟨some 50, some (49, true), .mov (.t 0)⟩, ⟨some 51, some (49, true), .lenStr (.t 50)⟩, ⟨some 52, some (49, true), .bin .num .lss (.t 51) (.c (.int .i64 17))⟩, ⟨some 53, none, .pick (.t 49) (.t 52) (.c (.bool false))⟩, ⟨some 2, none, .mov (.t 53)⟩]) <|
  .ret
def v37 : VFunc := ⟨54, [.tmp 2], c37⟩
/-- (berthing/berthingref08.Table).Without -/
def c38 : VCode :=
  .seq (.ops [⟨some 2, none, .box (.t 0)⟩, ⟨some 3, none, .box (.t 1)⟩, ⟨some 4, none, .alloc [(.sl .nil 0 []), (.sl .nil 0 [])]⟩]) <|
  .seq (.ops [⟨some 5, none, .mov (.c (.sl .nil 0 []))⟩]) <|
  .seq (.seq (.ops [⟨some 8, none, .fieldAddr 1 (.t 2)⟩, ⟨some 9, none, .load1 (.t 8)⟩, ⟨some 10, none, .lenS (.t 9)⟩, ⟨some 11, none, .mov (.c (.int .i64 0))⟩]) <|
  .block 0 (.loop (.seq (.ops [⟨some 12, none, .bin .num .lss (.t 11) (.t 10)⟩]) <|
    .seq (.cond (.t 12) (.skip) (.exit 0)) <|
    .seq (.block 1 (.seq (.ops [⟨some 13, none, .idxAddrS 11 (.t 9) (.t 11)⟩, ⟨some 14, none, .loadN 11 (.t 13)⟩, ⟨some 7, none, .alloc [(.str ⟨#[]⟩), (.str ⟨#[]⟩), (.int .i64 0), (.int .i64 0), (.int .i64 0), (.int .i64 0), (.int .i64 0), (.int .i64 0), (.int .i64 0), (.int .i64 0), (.int .i64 0)]⟩, ⟨none, none, .storeN 11 (.t 7) (.t 14)⟩]) <|
     .seq (.ops [⟨some 15, none, .fieldAddr 0 (.t 7)⟩, ⟨some 16, none, .loadN 3 (.t 15)⟩, ⟨some 17, none, .loadN 3 (.t 3)⟩, ⟨some 18, none, .bin (.agg [.s, .s, .i]) .neq (.t 16) (.t 17)⟩]) <|
     .cond (.t 18) (.ops [⟨some 19, none, .mov (.t 5)⟩, ⟨some 20, none, .loadN 11 (.t 7)⟩, ⟨some 21, none, .buildSlice false 11 1 [(.str ⟨#[]⟩), (.str ⟨#[]⟩), (.int .i64 0), (.int .i64 0), (.int .i64 0), (.int .i64 0), (.int .i64 0), (.int .i64 0), (.int .i64 0), (.int .i64 0), (.int .i64 0)] [(0, 11, (.t 20))]⟩, ⟨some 22, none, .append false false 11 104 (.t 19) (.t 21)⟩, ⟨some 5, none, .mov (.t 22)⟩]) (.skip))) <|
    .ops [⟨some 23, none, .bin .num .add (.t 11) (.c (.int .i64 1))⟩, ⟨some 11, none, .mov (.t 23)⟩]))) <|
  .seq (.ops [⟨some 24, none, .fieldAddr 0 (.t 2)⟩, ⟨some 25, none, .load1 (.t 24)⟩, ⟨some 26, none, .mov (.t 5)⟩, ⟨some 27, none, .build [(.sl .nil 0 []), (.sl .nil 0 [])] [(0, 1, (.t 25)), (1, 1, (.t 26))]⟩, ⟨none, none, .storeN 2 (.t 4) (.t 27)⟩]) <|
  .ret
def v38 : VFunc := ⟨28, [.cellN 2 4], c38⟩
/-- berthing/berthingref08.Before -/
def c39 : VCode :=
  .seq (.ops [⟨some 2, none, .box (.t 0)⟩, ⟨some 3, none, .box (.t 1)⟩, ⟨some 4, none, .mov (.c (.bool false))⟩]) <|
  .seq (.seq (.ops [⟨some 5, none, .fieldAddr 0 (.t 2)⟩, ⟨some 6, none, .load1 (.t 5)⟩, ⟨some 7, none, .fieldAddr 0 (.t 3)⟩, ⟨some 8, none, .load1 (.t 7)⟩, ⟨some 9, none, .bin .num .neq (.t 6) (.t 8)⟩]) <|
  .cond (.t 9) (.seq (.ops [⟨some 10, none, .fieldAddr 0 (.t 2)⟩, ⟨some 11, none, .load1 (.t 10)⟩, ⟨some 12, none, .fieldAddr 0 (.t 3)⟩, ⟨some 13, none, .load1 (.t 12)⟩, ⟨some 14, none, .bin .num .lss (.t 11) (.t 13)⟩, ⟨some 4, none, .mov (.t 14)⟩]) <|
   .ret) (.skip)) <|
  .seq (.seq (.ops [⟨some 15, none, .fieldAddr 1 (.t 2)⟩, ⟨some 16, none, .load1 (.t 15)⟩, ⟨some 17, none, .fieldAddr 1 (.t 3)⟩, ⟨some 18, none, .load1 (.t 17)⟩, ⟨some 19, none, .bin .num .neq (.t 16) (.t 18)⟩]) <|
  .cond (.t 19) (.seq (.ops [⟨some 20, none, .fieldAddr 1 (.t 2)⟩, ⟨some 21, none, .load1 (.t 20)⟩, ⟨some 22, none, .fieldAddr 1 (.t 3)⟩, ⟨some 23, none, .load1 (.t 22)⟩, ⟨some 24, none, .bin .num .lss (.t 21) (.t 23)⟩, ⟨some 4, none, .mov (.t 24)⟩]) <|
   .ret) (.skip)) <|
  .seq (.ops [⟨some 25, none, .fieldAddr 2 (.t 2)⟩, ⟨some 26, none, .load1 (.t 25)⟩, ⟨some 27, none, .fieldAddr 2 (.t 3)⟩, ⟨some 28, none, .load1 (.t 27)⟩, ⟨some 29, none, .bin .num .lss (.t 26) (.t 28)⟩, ⟨some 4, none, .mov (.t 29)⟩]) <|
  .ret
def v39 : VFunc := ⟨30, [.tmp 4], c39⟩
/-- (*berthing/blocks.Table).All$1 -/
def c40 : VCode :=
  .seq (.ops [⟨some 5, none, .load1 (.t 1)⟩, ⟨some 6, none, .call .shared 42 [(.t 5)]⟩, ⟨some 7, none, .call .shared 41 [(.t 6), (.f 43)]⟩, ⟨some 8, none, .lenS (.t 7)⟩, ⟨some 9, none, .mov (.c (.int .i64 0))⟩]) <|
  .block 0 (.loop (.seq (.ops [⟨some 10, none, .bin .num .lss (.t 9) (.t 8)⟩]) <|
    .seq (.cond (.t 10) (.skip) (.exit 0)) <|
    .seq (.block 1 (.seq (.ops [⟨some 11, none, .idxAddrS 3 (.t 7) (.t 9)⟩, ⟨some 12, none, .loadN 3 (.t 11)⟩, ⟨some 4, none, .alloc [(.str ⟨#[]⟩), (.str ⟨#[]⟩), (.int .i64 0)]⟩, ⟨none, none, .storeN 3 (.t 4) (.t 12)⟩]) <|
     .seq (.draw [] [⟨some 13, none, .mov (.t 0)⟩, ⟨some 14, none, .loadN 3 (.t 4)⟩, ⟨some 15, none, .load1 (.t 1)⟩, ⟨some 16, none, .loadN 3 (.t 4)⟩, ⟨some 17, none, .lookM false (.agg [.s, .s, .i]) (.agg [(.int .i64 0), (.int .i64 0), (.int .i64 0), (.int .i64 0), (.int .i64 0), (.int .i64 0), (.int .i64 0), (.int .i64 0)]) (.t 15) (.t 16)⟩, ⟨some 18, none, .callV (.t 13) [(.t 14), (.t 17)]⟩, ⟨some 19, none, .un .not (.t 18)⟩] [(1, 4)]) <|
     .cond (.t 19) (.ret) (.skip))) <|
    .ops [⟨some 20, none, .bin .num .add (.t 9) (.c (.int .i64 1))⟩, ⟨some 9, none, .mov (.t 20)⟩]))
def v40 : VFunc := ⟨21, [], c40⟩
/-- slices.SortedFunc[berthing/api.Owner] -/
def c41 : VCode :=
  .seq (.ops [⟨some 4, none, .mov (.c (.sl .nil 0 []))⟩]) <|
  .seq (.ops [⟨some 6, none, .mov (.t 0)⟩, ⟨some 7, none, .call .shared 45 [(.t 6)]⟩, ⟨some 5, none, .mov (.t 7)⟩]) <|
  .seq (.ops [⟨some 8, none, .mov (.t 5)⟩, ⟨some 9, none, .mov (.t 1)⟩, ⟨some 10, none, .call .shared 46 [(.t 8), (.t 9)]⟩]) <|
  .seq (.ops [⟨some 11, none, .mov (.t 5)⟩, ⟨some 4, none, .mov (.t 11)⟩]) <|
  .ret
def v41 : VFunc := ⟨12, [.tmp 4], c41⟩
/-- maps.Keys[map[berthing/api.Owner]berthing/api.Spread,berthing/api.Owner,berthing/api.Spread] -/
def c42 : VCode :=
  .seq (.ops [⟨some 1, none, .box (.t 0)⟩, ⟨some 2, none, .mov (.c .nilf)⟩]) <|
  .seq (.ops [⟨some 3, none, .mkFn 47 [] [(.t 1)]⟩, ⟨some 2, none, .mov (.t 3)⟩]) <|
  .ret
def v42 : VFunc := ⟨4, [.tmp 2], c42⟩
/-- berthing/blocks.compare -/
def c43 : VCode :=
  .seq (.ops [⟨some 2, none, .box (.t 0)⟩, ⟨some 3, none, .box (.t 1)⟩, ⟨some 4, none, .mov (.c (.int .i64 0))⟩]) <|
  .seq (.ops [⟨some 5, none, .fieldAddr 0 (.t 2)⟩, ⟨some 6, none, .load1 (.t 5)⟩, ⟨some 7, none, .fieldAddr 0 (.t 3)⟩, ⟨some 8, none, .load1 (.t 7)⟩, ⟨some 9, none, .call .pure 49 [(.t 6), (.t 8)]⟩, ⟨some 10, none, .fieldAddr 1 (.t 2)⟩, ⟨some 11, none, .load1 (.t 10)⟩, ⟨some 12, none, .fieldAddr 1 (.t 3)⟩, ⟨some 13, none, .load1 (.t 12)⟩, ⟨some 14, none, .call .pure 49 [(.t 11), (.t 13)]⟩, ⟨some 15, none, .fieldAddr 2 (.t 2)⟩, ⟨some 16, none, .load1 (.t 15)⟩, ⟨some 17, none, .fieldAddr 2 (.t 3)⟩, ⟨some 18, none, .load1 (.t 17)⟩, ⟨some 19, none, .call .pure 50 [(.t 16), (.t 18)]⟩, ⟨some 20, none, .buildSlice false 1 3 [(.int .i64 0), (.int .i64 0), (.int .i64 0)] [(0, 1, (.t 9)), (1, 1, (.t 14)), (2, 1, (.t 19))]⟩, ⟨some 21, none, .call .pure 48 [(.t 20)]⟩, ⟨some 4, none, .mov (.t 21)⟩]) <|
  .ret
def v43 : VFunc := ⟨22, [.tmp 4], c43⟩
/-- slices.Collect[berthing/api.Owner] -/
def c45 : VCode :=
  .seq (.ops [⟨some 2, none, .mov (.c (.sl .nil 0 []))⟩]) <|
  .seq (.ops [⟨some 3, none, .mov (.t 0)⟩, ⟨some 4, none, .call .shared 51 [(.c (.sl .nil 0 [])), (.t 3)]⟩, ⟨some 2, none, .mov (.t 4)⟩]) <|
  .ret
def v45 : VFunc := ⟨5, [.tmp 2], c45⟩
/-- maps.Keys[map[berthing/api.Owner]berthing/api.Spread,berthing/api.Owner,berthing/api.Spread]$1 -/
def c47 : VCode :=
  .seq (.ops [⟨some 4, none, .load1 (.t 1)⟩, ⟨some 5, none, .rangeM (.t 4)⟩]) <|
  .block 0 (.loopM 5 6 (.seq (.ops [⟨some 7, none, .extract 0 (.t 6)⟩]) <|
    .seq (.cond (.t 7) (.skip) (.exit 0)) <|
    .block 1 (.seq (.ops [⟨some 8, none, .entryM (.t 5)⟩, ⟨some 9, none, .extract 0 (.t 8)⟩, ⟨some 3, none, .alloc [(.str ⟨#[]⟩), (.str ⟨#[]⟩), (.int .i64 0)]⟩, ⟨none, none, .storeN 3 (.t 3) (.t 9)⟩]) <|
     .seq (.ops [⟨some 10, none, .mov (.t 0)⟩, ⟨some 11, none, .loadN 3 (.t 3)⟩, ⟨some 12, none, .callV (.t 10) [(.t 11)]⟩, ⟨some 13, none, .un .not (.t 12)⟩]) <|
     .cond (.t 13) (.ret) (.skip))))
def v47 : VFunc := ⟨14, [], c47⟩
/-- cmp.Or[int] -/
def c48 : VCode :=
  .seq (.ops [⟨some 2, none, .mov (.c (.int .i64 0))⟩]) <|
  .seq (.ops [⟨some 3, none, .mov (.c (.int .i64 0))⟩]) <|
  .seq (.seq (.ops [⟨some 6, none, .mov (.t 0)⟩, ⟨some 7, none, .lenS (.t 6)⟩, ⟨some 8, none, .mov (.c (.int .i64 0))⟩]) <|
  .block 0 (.loop (.seq (.ops [⟨some 9, none, .bin .num .lss (.t 8) (.t 7)⟩]) <|
    .seq (.cond (.t 9) (.skip) (.exit 0)) <|
    .seq (.block 1 (.seq (.ops [⟨some 10, none, .idxAddrS 1 (.t 6) (.t 8)⟩, ⟨some 11, none, .load1 (.t 10)⟩, ⟨some 5, none, .mov (.t 11)⟩]) <|
     .seq (.ops [⟨some 12, none, .mov (.t 5)⟩, ⟨some 13, none, .mov (.t 3)⟩, ⟨some 14, none, .bin .num .neq (.t 12) (.t 13)⟩]) <|
     .cond (.t 14) (.seq (.ops [⟨some 15, none, .mov (.t 5)⟩, ⟨some 2, none, .mov (.t 15)⟩]) <|
      .ret) (.skip))) <|
    .ops [⟨some 16, none, .bin .num .add (.t 8) (.c (.int .i64 1))⟩, ⟨some 8, none, .mov (.t 16)⟩]))) <|
  .seq (.ops [⟨some 17, none, .mov (.t 3)⟩, ⟨some 2, none, .mov (.t 17)⟩]) <|
  .ret
def v48 : VFunc := ⟨18, [.tmp 2], c48⟩
/-- cmp.Compare[string] -/
def c49 : VCode :=
  .seq (.ops [⟨some 4, none, .mov (.c (.int .i64 0))⟩]) <|
  .seq (.ops [⟨some 7, none, .mov (.t 0)⟩, ⟨some 8, none, .call .pure 54 [(.t 7)]⟩, ⟨some 5, none, .mov (.t 8)⟩]) <|
  .seq (.ops [⟨some 9, none, .mov (.t 1)⟩, ⟨some 10, none, .call .pure 54 [(.t 9)]⟩, ⟨some 6, none, .mov (.t 10)⟩]) <|
  .seq (.seq (.ops [⟨some 11, none, .mov (.t 5)⟩]) <|
  .cond (.t 11) (.seq (.seq (.ops [⟨some 12, none, .mov (.t 6)⟩]) <|
   .cond (.t 12) (.seq (.ops [⟨some 4, none, .mov (.c (.int .i64 0))⟩]) <|
    .ret) (.skip)) <|
   .seq (.ops [⟨some 4, none, .mov (.c (.int .i64 (-1)))⟩]) <|
   .ret) (.skip)) <|
  .seq (.seq (.ops [⟨some 13, none, .mov (.t 6)⟩]) <|
  .cond (.t 13) (.seq (.ops [⟨some 4, none, .mov (.c (.int .i64 1))⟩]) <|
   .ret) (.skip)) <|
  .seq (.seq (.ops [⟨some 14, none, .mov (.t 0)⟩, ⟨some 15, none, .mov (.t 1)⟩, ⟨some 16, none, .bin .num .lss (.t 14) (.t 15)⟩]) <|
  .cond (.t 16) (.seq (.ops [⟨some 4, none, .mov (.c (.int .i64 (-1)))⟩]) <|
   .ret) (.skip)) <|
  .seq (.seq (.ops [⟨some 17, none, .mov (.t 0)⟩, ⟨some 18, none, .mov (.t 1)⟩, ⟨some 19, none, .bin .num .gtr (.t 17) (.t 18)⟩]) <|
  .cond (.t 19) (.seq (.ops [⟨some 4, none, .mov (.c (.int .i64 1))⟩]) <|
   .ret) (.skip)) <|
  .seq (.ops [⟨some 4, none, .mov (.c (.int .i64 0))⟩]) <|
  .ret
def v49 : VFunc := ⟨20, [.tmp 4], c49⟩
/-- cmp.Compare[int] -/
def c50 : VCode :=
  .seq (.ops [⟨some 4, none, .mov (.c (.int .i64 0))⟩]) <|
  .seq (.ops [⟨some 7, none, .mov (.t 0)⟩, ⟨some 8, none, .call .pure 55 [(.t 7)]⟩, ⟨some 5, none, .mov (.t 8)⟩]) <|
  .seq (.ops [⟨some 9, none, .mov (.t 1)⟩, ⟨some 10, none, .call .pure 55 [(.t 9)]⟩, ⟨some 6, none, .mov (.t 10)⟩]) <|
  .seq (.seq (.ops [⟨some 11, none, .mov (.t 5)⟩]) <|
  .cond (.t 11) (.seq (.seq (.ops [⟨some 12, none, .mov (.t 6)⟩]) <|
   .cond (.t 12) (.seq (.ops [⟨some 4, none, .mov (.c (.int .i64 0))⟩]) <|
    .ret) (.skip)) <|
   .seq (.ops [⟨some 4, none, .mov (.c (.int .i64 (-1)))⟩]) <|
   .ret) (.skip)) <|
  .seq (.seq (.ops [⟨some 13, none, .mov (.t 6)⟩]) <|
  .cond (.t 13) (.seq (.ops [⟨some 4, none, .mov (.c (.int .i64 1))⟩]) <|
   .ret) (.skip)) <|
  .seq (.seq (.ops [⟨some 14, none, .mov (.t 0)⟩, ⟨some 15, none, .mov (.t 1)⟩, ⟨some 16, none, .bin .num .lss (.t 14) (.t 15)⟩]) <|
  .cond (.t 16) (.seq (.ops [⟨some 4, none, .mov (.c (.int .i64 (-1)))⟩]) <|
   .ret) (.skip)) <|
  .seq (.seq (.ops [⟨some 17, none, .mov (.t 0)⟩, ⟨some 18, none, .mov (.t 1)⟩, ⟨some 19, none, .bin .num .gtr (.t 17) (.t 18)⟩]) <|
  .cond (.t 19) (.seq (.ops [⟨some 4, none, .mov (.c (.int .i64 1))⟩]) <|
   .ret) (.skip)) <|
  .seq (.ops [⟨some 4, none, .mov (.c (.int .i64 0))⟩]) <|
  .ret
def v50 : VFunc := ⟨20, [.tmp 4], c50⟩
/-- slices.AppendSeq[[]berthing/api.Owner,berthing/api.Owner] -/
def c51 : VCode :=
  .seq (.ops [⟨some 2, none, .box (.t 0)⟩, ⟨some 4, none, .mov (.c (.sl .nil 0 []))⟩]) <|
  .seq (.seq (.ops [⟨some 6, none, .mov (.t 1)⟩]) <|
  .block 0 (.rangeFunc (.t 6) [7] (.ops [⟨some 5, none, .alloc [(.str ⟨#[]⟩), (.str ⟨#[]⟩), (.int .i64 0)]⟩, ⟨none, none, .storeN 3 (.t 5) (.t 7)⟩]) (.block 1 (.ops [⟨some 8, none, .load1 (.t 2)⟩, ⟨some 9, none, .loadN 3 (.t 5)⟩, ⟨some 10, none, .buildSlice false 3 1 [(.str ⟨#[]⟩), (.str ⟨#[]⟩), (.int .i64 0)] [(0, 3, (.t 9))]⟩, ⟨some 11, none, .appB 3 40 (.t 8) (.t 10)⟩, ⟨none, none, .store1 (.t 2) (.t 11)⟩])))) <|
  .seq (.ops [⟨some 12, none, .load1 (.t 2)⟩, ⟨some 4, none, .mov (.t 12)⟩]) <|
  .ret
def v51 : VFunc := ⟨13, [.tmp 4], c51⟩
/-- cmp.isNaN[string] -/
def c54 : VCode :=
  .seq (.ops [⟨some 2, none, .mov (.c (.bool false))⟩]) <|
  .seq (.ops [⟨some 3, none, .mov (.t 0)⟩, ⟨some 4, none, .mov (.t 0)⟩, ⟨some 5, none, .bin .num .neq (.t 3) (.t 4)⟩, ⟨some 2, none, .mov (.t 5)⟩]) <|
  .ret
def v54 : VFunc := ⟨6, [.tmp 2], c54⟩
/-- cmp.isNaN[int] -/
def c55 : VCode :=
  .seq (.ops [⟨some 2, none, .mov (.c (.bool false))⟩]) <|
  .seq (.ops [⟨some 3, none, .mov (.t 0)⟩, ⟨some 4, none, .mov (.t 0)⟩, ⟨some 5, none, .bin .num .neq (.t 3) (.t 4)⟩, ⟨some 2, none, .mov (.t 5)⟩]) <|
  .ret
def v55 : VFunc := ⟨6, [.tmp 2], c55⟩
def ft : FuncId → Option VFunc := fun f => bif Nat.beq f 3 then some v3 else bif Nat.beq f 4 then some v4 else bif Nat.beq f 5 then some v5 else bif Nat.beq f 6 then some v6 else bif Nat.beq f 7 then some v7 else bif Nat.beq f 8 then some v8 else bif Nat.beq f 9 then some v9 else bif Nat.beq f 10 then some v10 else bif Nat.beq f 11 then some v11 else bif Nat.beq f 12 then some v12 else bif Nat.beq f 13 then some v13 else bif Nat.beq f 14 then some v14 else bif Nat.beq f 15 then some v15 else bif Nat.beq f 16 then some v16 else bif Nat.beq f 17 then some v17 else bif Nat.beq f 18 then some v18 else bif Nat.beq f 19 then some v19 else bif Nat.beq f 20 then some v20 else bif Nat.beq f 21 then some v21 else bif Nat.beq f 22 then some v22 else bif Nat.beq f 23 then some v23 else bif Nat.beq f 24 then some v24 else bif Nat.beq f 25 then some v25 else bif Nat.beq f 26 then some v26 else bif Nat.beq f 27 then some v27 else bif Nat.beq f 28 then some v28 else bif Nat.beq f 29 then some v29 else bif Nat.beq f 30 then some v30 else bif Nat.beq f 31 then some v31 else bif Nat.beq f 32 then some v32 else bif Nat.beq f 33 then some v33 else bif Nat.beq f 35 then some v35 else bif Nat.beq f 36 then some v36 else bif Nat.beq f 37 then some v37 else bif Nat.beq f 38 then some v38 else bif Nat.beq f 39 then some v39 else bif Nat.beq f 40 then some v40 else bif Nat.beq f 41 then some v41 else bif Nat.beq f 42 then some v42 else bif Nat.beq f 43 then some v43 else bif Nat.beq f 45 then some v45 else bif Nat.beq f 47 then some v47 else bif Nat.beq f 48 then some v48 else bif Nat.beq f 49 then some v49 else bif Nat.beq f 50 then some v50 else bif Nat.beq f 51 then some v51 else bif Nat.beq f 54 then some v54 else bif Nat.beq f 55 then some v55 else none
def env : Env := ⟨ft, md, pr, prH⟩
theorem is3 : FnComp ⟨Try.prog, md, gi, gn⟩ 3 v3 := ⟨Try.f3, _, fun t => ⟨false, md, false⟩, Try.func3, rfl, by kernel_rfl, by kernel_rfl, by kernel_rfl⟩
theorem is4 : FnComp ⟨Try.prog, md, gi, gn⟩ 4 v4 := ⟨Try.f4, _, fun t => ⟨false, md, false⟩, Try.func4, rfl, by kernel_rfl, by kernel_rfl, by kernel_rfl⟩
theorem is5 : FnComp ⟨Try.prog, md, gi, gn⟩ 5 v5 := ⟨Try.f5, _, fun t => ⟨false, md, false⟩, Try.func5, rfl, by kernel_rfl, by kernel_rfl, by kernel_rfl⟩
theorem is6 : FnComp ⟨Try.prog, md, gi, gn⟩ 6 v6 := ⟨Try.f6, _, fun t => ⟨false, md, false⟩, Try.func6, rfl, by kernel_rfl, by kernel_rfl, by kernel_rfl⟩
theorem is7 : FnComp ⟨Try.prog, md, gi, gn⟩ 7 v7 := ⟨Try.f7, _, fun t => ⟨false, md, false⟩, Try.func7, rfl, by kernel_rfl, by kernel_rfl, by kernel_rfl⟩
theorem is8 : FnComp ⟨Try.prog, md, gi, gn⟩ 8 v8 := ⟨Try.f8, _, fun t => ⟨false, md, false⟩, Try.func8, rfl, by kernel_rfl, by kernel_rfl, by kernel_rfl⟩
theorem is9 : FnComp ⟨Try.prog, md, gi, gn⟩ 9 v9 := ⟨Try.f9, _, fun t => ⟨false, md, false⟩, Try.func9, rfl, by kernel_rfl, by kernel_rfl, by kernel_rfl⟩
theorem is10 : FnComp ⟨Try.prog, md, gi, gn⟩ 10 v10 := ⟨Try.f10, _, fun t => ⟨false, md, false⟩, Try.func10, rfl, by kernel_rfl, by kernel_rfl, by kernel_rfl⟩
theorem is11 : FnComp ⟨Try.prog, md, gi, gn⟩ 11 v11 := ⟨Try.f11, _, fun t => ⟨false, md, false⟩, Try.func11, rfl, by kernel_rfl, by kernel_rfl, by kernel_rfl⟩
theorem is12 : FnComp ⟨Try.prog, md, gi, gn⟩ 12 v12 := ⟨Try.f12, _, fun t => ⟨false, md, false⟩, Try.func12, rfl, by kernel_rfl, by kernel_rfl, by kernel_rfl⟩
theorem is13 : FnComp ⟨Try.prog, md, gi, gn⟩ 13 v13 := ⟨Try.f13, _, fun t => ⟨false, md, false⟩, Try.func13, rfl, by kernel_rfl, by kernel_rfl, by kernel_rfl⟩
theorem is14 : FnComp ⟨Try.prog, md, gi, gn⟩ 14 v14 := ⟨Try.f14, _, fun t => ⟨false, md, false⟩, Try.func14, rfl, by kernel_rfl, by kernel_rfl, by kernel_rfl⟩
theorem is15 : FnComp ⟨Try.prog, md, gi, gn⟩ 15 v15 := ⟨Try.f15, _, fun t => ⟨false, md, false⟩, Try.func15, rfl, by kernel_rfl, by kernel_rfl, by kernel_rfl⟩
theorem is16 : FnComp ⟨Try.prog, md, gi, gn⟩ 16 v16 := ⟨Try.f16, _, fun t => ⟨false, md, false⟩, Try.func16, rfl, by kernel_rfl, by kernel_rfl, by kernel_rfl⟩
theorem is17 : FnComp ⟨Try.prog, md, gi, gn⟩ 17 v17 := ⟨Try.f17, _, fun t => ⟨false, md, false⟩, Try.func17, rfl, by kernel_rfl, by kernel_rfl, by kernel_rfl⟩
theorem is18 : FnComp ⟨Try.prog, md, gi, gn⟩ 18 v18 := ⟨Try.f18, _, fun t => ⟨false, md, false⟩, Try.func18, rfl, by kernel_rfl, by kernel_rfl, by kernel_rfl⟩
theorem is19 : FnComp ⟨Try.prog, md, gi, gn⟩ 19 v19 := ⟨Try.f19, _, fun t => ⟨false, md, false⟩, Try.func19, rfl, by kernel_rfl, by kernel_rfl, by kernel_rfl⟩
theorem is20 : FnComp ⟨Try.prog, md, gi, gn⟩ 20 v20 := ⟨Try.f20, _, fun t => ⟨false, md, false⟩, Try.func20, rfl, by kernel_rfl, by kernel_rfl, by kernel_rfl⟩
theorem is21 : FnComp ⟨Try.prog, md, gi, gn⟩ 21 v21 := ⟨Try.f21, _, fun t => ⟨false, md, false⟩, Try.func21, rfl, by kernel_rfl, by kernel_rfl, by kernel_rfl⟩
theorem is22 : FnComp ⟨Try.prog, md, gi, gn⟩ 22 v22 := ⟨Try.f22, _, fun t => ⟨false, md, false⟩, Try.func22, rfl, by kernel_rfl, by kernel_rfl, by kernel_rfl⟩
theorem is23 : FnComp ⟨Try.prog, md, gi, gn⟩ 23 v23 := ⟨Try.f23, _, fun t => ⟨false, md, false⟩, Try.func23, rfl, by kernel_rfl, by kernel_rfl, by kernel_rfl⟩
theorem is24 : FnComp ⟨Try.prog, md, gi, gn⟩ 24 v24 := ⟨Try.f24, _, fun t => ⟨false, md, false⟩, Try.func24, rfl, by kernel_rfl, by kernel_rfl, by kernel_rfl⟩
theorem is25 : FnComp ⟨Try.prog, md, gi, gn⟩ 25 v25 := ⟨Try.f25, _, fun t => ⟨false, md, false⟩, Try.func25, rfl, by kernel_rfl, by kernel_rfl, by kernel_rfl⟩
theorem is26 : FnComp ⟨Try.prog, md, gi, gn⟩ 26 v26 := ⟨Try.f26, _, fun t => ⟨false, md, false⟩, Try.func26, rfl, by kernel_rfl, by kernel_rfl, by kernel_rfl⟩
theorem is27 : FnComp ⟨Try.prog, md, gi, gn⟩ 27 v27 := ⟨Try.f27, _, fun t => ⟨false, md, false⟩, Try.func27, rfl, by kernel_rfl, by kernel_rfl, by kernel_rfl⟩
theorem is28 : FnComp ⟨Try.prog, md, gi, gn⟩ 28 v28 := ⟨Try.f28, _, fun t => ⟨false, md, false⟩, Try.func28, rfl, by kernel_rfl, by kernel_rfl, by kernel_rfl⟩
theorem is29 : FnComp ⟨Try.prog, md, gi, gn⟩ 29 v29 := ⟨Try.f29, _, fun t => ⟨false, md, false⟩, Try.func29, rfl, by kernel_rfl, by kernel_rfl, by kernel_rfl⟩
theorem is30 : FnComp ⟨Try.prog, md, gi, gn⟩ 30 v30 := ⟨Try.f30, _, fun t => ⟨false, md, false⟩, Try.func30, rfl, by kernel_rfl, by kernel_rfl, by kernel_rfl⟩
theorem is31 : FnComp ⟨Try.prog, md, gi, gn⟩ 31 v31 := ⟨Try.f31, _, fun t => ⟨false, md, false⟩, Try.func31, rfl, by kernel_rfl, by kernel_rfl, by kernel_rfl⟩
theorem is32 : FnComp ⟨Try.prog, md, gi, gn⟩ 32 v32 := ⟨Try.f32, _, fun t => ⟨false, md, false⟩, Try.func32, rfl, by kernel_rfl, by kernel_rfl, by kernel_rfl⟩
theorem is33 : FnComp ⟨Try.prog, md, gi, gn⟩ 33 v33 := ⟨Try.f33, _, fun t => ⟨false, md, false⟩, Try.func33, rfl, by kernel_rfl, by kernel_rfl, by kernel_rfl⟩
theorem is35 : FnComp ⟨Try.prog, md, gi, gn⟩ 35 v35 := ⟨Try.f35, _, fun t => ⟨false, md, false⟩, Try.func35, rfl, by kernel_rfl, by kernel_rfl, by kernel_rfl⟩
theorem is36 : FnComp ⟨Try.prog, md, gi, gn⟩ 36 v36 := ⟨Try.f36, _, fun t => ⟨false, md, false⟩, Try.func36, rfl, by kernel_rfl, by kernel_rfl, by kernel_rfl⟩
theorem is37 : FnComp ⟨Try.prog, md, gi, gn⟩ 37 v37 := ⟨Try.f37, _, fun t => ⟨false, md, false⟩, Try.func37, rfl, by kernel_rfl, by kernel_rfl, by kernel_rfl⟩
theorem is38 : FnComp ⟨Try.prog, md, gi, gn⟩ 38 v38 := ⟨Try.f38, _, fun t => ⟨false, md, false⟩, Try.func38, rfl, by kernel_rfl, by kernel_rfl, by kernel_rfl⟩
theorem is39 : FnComp ⟨Try.prog, md, gi, gn⟩ 39 v39 := ⟨Try.f39, _, fun t => ⟨false, md, false⟩, Try.func39, rfl, by kernel_rfl, by kernel_rfl, by kernel_rfl⟩
theorem is40 : FnComp ⟨Try.prog, md, gi, gn⟩ 40 v40 := ⟨Try.f40, _, fun t => ⟨false, md, false⟩, Try.func40, rfl, by kernel_rfl, by kernel_rfl, by kernel_rfl⟩
theorem is41 : FnComp ⟨Try.prog, md, gi, gn⟩ 41 v41 := ⟨Try.f41, _, fun t => ⟨false, md, false⟩, Try.func41, rfl, by kernel_rfl, by kernel_rfl, by kernel_rfl⟩
theorem is42 : FnComp ⟨Try.prog, md, gi, gn⟩ 42 v42 := ⟨Try.f42, _, fun t => ⟨false, md, false⟩, Try.func42, rfl, by kernel_rfl, by kernel_rfl, by kernel_rfl⟩
theorem is43 : FnComp ⟨Try.prog, md, gi, gn⟩ 43 v43 := ⟨Try.f43, _, fun t => ⟨false, md, false⟩, Try.func43, rfl, by kernel_rfl, by kernel_rfl, by kernel_rfl⟩
theorem is45 : FnComp ⟨Try.prog, md, gi, gn⟩ 45 v45 := ⟨Try.f45, _, fun t => ⟨false, md, false⟩, Try.func45, rfl, by kernel_rfl, by kernel_rfl, by kernel_rfl⟩
theorem is47 : FnComp ⟨Try.prog, md, gi, gn⟩ 47 v47 := ⟨Try.f47, _, fun t => ⟨false, md, false⟩, Try.func47, rfl, by kernel_rfl, by kernel_rfl, by kernel_rfl⟩
theorem is48 : FnComp ⟨Try.prog, md, gi, gn⟩ 48 v48 := ⟨Try.f48, _, fun t => ⟨false, md, false⟩, Try.func48, rfl, by kernel_rfl, by kernel_rfl, by kernel_rfl⟩
theorem is49 : FnComp ⟨Try.prog, md, gi, gn⟩ 49 v49 := ⟨Try.f49, _, fun t => ⟨false, md, false⟩, Try.func49, rfl, by kernel_rfl, by kernel_rfl, by kernel_rfl⟩
theorem is50 : FnComp ⟨Try.prog, md, gi, gn⟩ 50 v50 := ⟨Try.f50, _, fun t => ⟨false, md, false⟩, Try.func50, rfl, by kernel_rfl, by kernel_rfl, by kernel_rfl⟩
theorem is51 : FnComp ⟨Try.prog, md, gi, gn⟩ 51 v51 := ⟨Try.f51, _, fun t => ⟨false, md, Nat.beq t 11 || false⟩, Try.func51, rfl, by kernel_rfl, by kernel_rfl, by kernel_rfl⟩
theorem is54 : FnComp ⟨Try.prog, md, gi, gn⟩ 54 v54 := ⟨Try.f54, _, fun t => ⟨false, md, false⟩, Try.func54, rfl, by kernel_rfl, by kernel_rfl, by kernel_rfl⟩
theorem is55 : FnComp ⟨Try.prog, md, gi, gn⟩ 55 v55 := ⟨Try.f55, _, fun t => ⟨false, md, false⟩, Try.func55, rfl, by kernel_rfl, by kernel_rfl, by kernel_rfl⟩

theorem envOK : EnvOK ⟨Try.prog, md, gi, gn⟩ env := ⟨rfl, by kernel_rfl, (fun f vf h => by
  change ft f = some vf at h
  unfold ft at h
  rcases ft_cons h with ⟨h1, h2⟩ | h
  · rw [h1, h2]; exact is3
  rcases ft_cons h with ⟨h1, h2⟩ | h
  · rw [h1, h2]; exact is4
  rcases ft_cons h with ⟨h1, h2⟩ | h
  · rw [h1, h2]; exact is5
  rcases ft_cons h with ⟨h1, h2⟩ | h
  · rw [h1, h2]; exact is6
  rcases ft_cons h with ⟨h1, h2⟩ | h
  · rw [h1, h2]; exact is7
  rcases ft_cons h with ⟨h1, h2⟩ | h
  · rw [h1, h2]; exact is8
  rcases ft_cons h with ⟨h1, h2⟩ | h
  · rw [h1, h2]; exact is9
  rcases ft_cons h with ⟨h1, h2⟩ | h
  · rw [h1, h2]; exact is10
  rcases ft_cons h with ⟨h1, h2⟩ | h
  · rw [h1, h2]; exact is11
  rcases ft_cons h with ⟨h1, h2⟩ | h
  · rw [h1, h2]; exact is12
  rcases ft_cons h with ⟨h1, h2⟩ | h
  · rw [h1, h2]; exact is13
  rcases ft_cons h with ⟨h1, h2⟩ | h
  · rw [h1, h2]; exact is14
  rcases ft_cons h with ⟨h1, h2⟩ | h
  · rw [h1, h2]; exact is15
  rcases ft_cons h with ⟨h1, h2⟩ | h
  · rw [h1, h2]; exact is16
  rcases ft_cons h with ⟨h1, h2⟩ | h
  · rw [h1, h2]; exact is17
  rcases ft_cons h with ⟨h1, h2⟩ | h
  · rw [h1, h2]; exact is18
  rcases ft_cons h with ⟨h1, h2⟩ | h
  · rw [h1, h2]; exact is19
  rcases ft_cons h with ⟨h1, h2⟩ | h
  · rw [h1, h2]; exact is20
  rcases ft_cons h with ⟨h1, h2⟩ | h
  · rw [h1, h2]; exact is21
  rcases ft_cons h with ⟨h1, h2⟩ | h
  · rw [h1, h2]; exact is22
  rcases ft_cons h with ⟨h1, h2⟩ | h
  · rw [h1, h2]; exact is23
  rcases ft_cons h with ⟨h1, h2⟩ | h
  · rw [h1, h2]; exact is24
  rcases ft_cons h with ⟨h1, h2⟩ | h
  · rw [h1, h2]; exact is25
  rcases ft_cons h with ⟨h1, h2⟩ | h
  · rw [h1, h2]; exact is26
  rcases ft_cons h with ⟨h1, h2⟩ | h
  · rw [h1, h2]; exact is27
  rcases ft_cons h with ⟨h1, h2⟩ | h
  · rw [h1, h2]; exact is28
  rcases ft_cons h with ⟨h1, h2⟩ | h
  · rw [h1, h2]; exact is29
  rcases ft_cons h with ⟨h1, h2⟩ | h
  · rw [h1, h2]; exact is30
  rcases ft_cons h with ⟨h1, h2⟩ | h
  · rw [h1, h2]; exact is31
  rcases ft_cons h with ⟨h1, h2⟩ | h
  · rw [h1, h2]; exact is32
  rcases ft_cons h with ⟨h1, h2⟩ | h
  · rw [h1, h2]; exact is33
  rcases ft_cons h with ⟨h1, h2⟩ | h
  · rw [h1, h2]; exact is35
  rcases ft_cons h with ⟨h1, h2⟩ | h
  · rw [h1, h2]; exact is36
  rcases ft_cons h with ⟨h1, h2⟩ | h
  · rw [h1, h2]; exact is37
  rcases ft_cons h with ⟨h1, h2⟩ | h
  · rw [h1, h2]; exact is38
  rcases ft_cons h with ⟨h1, h2⟩ | h
  · rw [h1, h2]; exact is39
  rcases ft_cons h with ⟨h1, h2⟩ | h
  · rw [h1, h2]; exact is40
  rcases ft_cons h with ⟨h1, h2⟩ | h
  · rw [h1, h2]; exact is41
  rcases ft_cons h with ⟨h1, h2⟩ | h
  · rw [h1, h2]; exact is42
  rcases ft_cons h with ⟨h1, h2⟩ | h
  · rw [h1, h2]; exact is43
  rcases ft_cons h with ⟨h1, h2⟩ | h
  · rw [h1, h2]; exact is45
  rcases ft_cons h with ⟨h1, h2⟩ | h
  · rw [h1, h2]; exact is47
  rcases ft_cons h with ⟨h1, h2⟩ | h
  · rw [h1, h2]; exact is48
  rcases ft_cons h with ⟨h1, h2⟩ | h
  · rw [h1, h2]; exact is49
  rcases ft_cons h with ⟨h1, h2⟩ | h
  · rw [h1, h2]; exact is50
  rcases ft_cons h with ⟨h1, h2⟩ | h
  · rw [h1, h2]; exact is51
  rcases ft_cons h with ⟨h1, h2⟩ | h
  · rw [h1, h2]; exact is54
  rcases ft_cons h with ⟨h1, h2⟩ | h
  · rw [h1, h2]; exact is55
  cases h), prOK md, prHOK md⟩
end Go.Proofs.Ytkkpkoekbmgabaa
