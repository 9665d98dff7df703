/-
  The functions of this seat as code of the abstract machine, and that they are so. Printed by a program.
-/
import Derived.Test.YtgfedlikbaailaaV10
import Derived.Test.YtgfedlikbaailaaChecked
import Derived.KernelRfl
set_option linter.all false
set_option linter.unusedVariables false
set_option linter.unusedSimpArgs false
set_option linter.unusedSectionVars false
namespace Go.Proofs.Ytgfedlikbaailaa
open Go Go.VM

def md : FuncId → VM.Mode := fun f => bif Nat.beq f 10 then .shared else bif Nat.beq f 14 then .shared else bif Nat.beq f 15 then .shared else bif Nat.beq f 16 then .shared else .pure
/-- berthing/berthinglaw11.CrcPlays -/
def c6 : VCode :=
  .seq (.ops [⟨some 2, none, .mov (.c (.bool false))⟩]) <|
  .seq (.seq (.ops [⟨some 10, none, .call .pure 7 []⟩, ⟨some 11, none, .un .not (.t 10)⟩]) <|
  .cond (.t 11) (.seq (.ops [⟨some 2, none, .mov (.c (.bool false))⟩]) <|
   .ret) (.skip)) <|
  .seq (.ops [⟨some 12, none, .call .shared 16 []⟩, ⟨some 13, none, .buildG 1 1 [.nilp] [(0, 1, (.t 12))]⟩, ⟨some 14, none, .buildG 1 1 [(.str ⟨#[]⟩)] [(0, 1, (.c (.str ⟨#[]⟩)))]⟩, ⟨some 3, none, .mov (.t 13)⟩, ⟨some 4, none, .mov (.t 14)⟩]) <|
  .seq (.seq (.ops [⟨some 15, none, .mov (.t 0)⟩, ⟨some 16, none, .lenS (.t 15)⟩, ⟨some 17, none, .mov (.c (.int .i64 0))⟩]) <|
  .block 0 (.loop (.seq (.ops [⟨some 18, none, .bin .num .lss (.t 17) (.t 16)⟩]) <|
    .seq (.cond (.t 18) (.skip) (.exit 0)) <|
    .seq (.block 1 (.seq (.ops [⟨some 19, none, .mov (.t 17)⟩, ⟨some 20, none, .idxAddrS 3 (.t 15) (.t 17)⟩, ⟨some 21, none, .loadN 3 (.t 20)⟩, ⟨some 6, none, .alloc [(.int .i64 0), (.int .i64 0), (.sl .nil 0 [])]⟩, ⟨some 5, none, .mov (.t 19)⟩, ⟨none, none, .storeN 3 (.t 6) (.t 21)⟩]) <|
     .seq (.seq (.ops [⟨some 22, none, .mov (.t 5)⟩, ⟨some 23, none, .bin .num .geq (.t 22) (.c (.int .i64 60))⟩, ⟨some 24, none, .mov (.t 23)⟩, ⟨some 25, some (24, false), .fieldAddr 2 (.t 6)⟩, ⟨some 26, some (24, false), .load1 (.t 25)⟩, ⟨some 27, some (24, false), .lenS (.t 26)⟩, ⟨some 28, some (24, false), .bin .num .gtr (.t 27) (.c (.int .i64 100))⟩, ⟨some 29, none, .pick (.t 24) (.c (.bool true)) (.t 28)⟩]) <|
     .cond (.t 29) (.seq (.ops [⟨some 2, none, .mov (.c (.bool true))⟩]) <|
      .ret) (.skip)) <|
     .seq (.ops [⟨some 30, none, .fieldAddr 1 (.t 6)⟩, ⟨some 31, none, .load1 (.t 30)⟩, ⟨some 32, none, .conv .u64 (.t 31)⟩, ⟨some 33, none, .mov (.t 3)⟩, ⟨some 34, none, .lenS (.t 33)⟩, ⟨some 35, none, .conv .u64 (.t 34)⟩, ⟨some 36, none, .bin .num .rem (.t 32) (.t 35)⟩, ⟨some 37, none, .conv .i64 (.t 36)⟩, ⟨some 7, none, .mov (.t 37)⟩]) <|
     .seq (.ops [⟨some 38, none, .fieldAddr 0 (.t 6)⟩, ⟨some 39, none, .load1 (.t 38)⟩, ⟨some 40, none, .conv .u64 (.t 39)⟩, ⟨some 41, none, .bin .num .rem (.t 40) (.c (.int .u64 4))⟩, ⟨some 42, none, .bin .num .lss (.t 41) (.c (.int .u64 3))⟩]) <|
     .cond (.t 42) (.seq (.ops [⟨some 43, none, .mov (.t 3)⟩, ⟨some 44, none, .mov (.t 7)⟩, ⟨some 45, none, .idxAddrS 1 (.t 43) (.t 44)⟩, ⟨some 46, none, .load1 (.t 45)⟩, ⟨some 47, none, .fieldAddr 2 (.t 6)⟩, ⟨some 48, none, .load1 (.t 47)⟩, ⟨some 49, none, .buildSlice false 1 1 [(.sl .nil 0 [])] [(0, 1, (.t 48))]⟩, ⟨some 50, none, .call .shared 10 [(.t 46), (.t 49)]⟩]) <|
      .ops [⟨some 51, none, .mov (.t 4)⟩, ⟨some 52, none, .mov (.t 7)⟩, ⟨some 53, none, .idxAddrS 1 (.t 51) (.t 52)⟩, ⟨some 54, none, .load1 (.t 53)⟩, ⟨some 55, none, .fieldAddr 2 (.t 6)⟩, ⟨some 56, none, .load1 (.t 55)⟩, ⟨some 57, none, .strOfP (.t 56)⟩, ⟨some 58, none, .bin .num .add (.t 54) (.t 57)⟩, ⟨some 59, none, .idxAddrS 1 (.t 51) (.t 52)⟩, ⟨none, none, .store1 (.t 59) (.t 58)⟩]) (.seq (.ops [⟨some 60, none, .mov (.t 3)⟩, ⟨some 61, none, .lenS (.t 60)⟩, ⟨some 62, none, .bin .num .lss (.t 61) (.c (.int .i64 4))⟩]) <|
      .cond (.t 62) (.draw [] [⟨some 63, none, .mov (.t 3)⟩, ⟨some 64, none, .mov (.t 3)⟩, ⟨some 65, none, .mov (.t 7)⟩, ⟨some 66, none, .idxAddrS 1 (.t 64) (.t 65)⟩, ⟨some 67, none, .load1 (.t 66)⟩, ⟨some 68, none, .call .shared 15 [(.t 67)]⟩, ⟨some 69, none, .buildSlice true 1 1 [.nilp] [(0, 1, (.t 68))]⟩, ⟨some 70, none, .append false false 1 8 (.t 63) (.t 69)⟩, ⟨some 71, none, .mov (.t 4)⟩, ⟨some 72, none, .mov (.t 4)⟩, ⟨some 73, none, .mov (.t 7)⟩, ⟨some 74, none, .idxAddrS 1 (.t 72) (.t 73)⟩, ⟨some 75, none, .load1 (.t 74)⟩, ⟨some 76, none, .buildSlice false 1 1 [(.str ⟨#[]⟩)] [(0, 1, (.t 75))]⟩, ⟨some 77, none, .append false false 1 16 (.t 71) (.t 76)⟩, ⟨some 3, none, .mov (.t 70)⟩, ⟨some 4, none, .mov (.t 77)⟩] [(12, 5), (12, 6), (12, 7)]) (.skip)))) <|
    .ops [⟨some 78, none, .bin .num .add (.t 17) (.c (.int .i64 1))⟩, ⟨some 17, none, .mov (.t 78)⟩]))) <|
  .seq (.seq (.ops [⟨some 79, none, .mov (.t 3)⟩, ⟨some 80, none, .lenS (.t 79)⟩, ⟨some 81, none, .mov (.c (.int .i64 0))⟩]) <|
  .block 2 (.loop (.seq (.ops [⟨some 82, none, .bin .num .lss (.t 81) (.t 80)⟩]) <|
    .seq (.cond (.t 82) (.skip) (.exit 2)) <|
    .seq (.block 3 (.seq (.ops [⟨some 83, none, .mov (.t 81)⟩, ⟨some 84, none, .idxAddrS 1 (.t 79) (.t 81)⟩, ⟨some 85, none, .load1 (.t 84)⟩, ⟨some 8, none, .mov (.t 83)⟩, ⟨some 9, none, .mov (.t 85)⟩]) <|
     .seq (.draw [] [⟨some 86, none, .mov (.t 9)⟩, ⟨some 87, none, .call .shared 14 [(.t 86)]⟩, ⟨some 88, none, .mov (.t 4)⟩, ⟨some 89, none, .mov (.t 8)⟩, ⟨some 90, none, .idxAddrS 1 (.t 88) (.t 89)⟩, ⟨some 91, none, .load1 (.t 90)⟩, ⟨some 92, none, .call .pure 11 [(.t 91)]⟩, ⟨some 93, none, .bin .num .neq (.t 87) (.t 92)⟩] [(5, 1)]) <|
     .cond (.t 93) (.seq (.ops [⟨some 2, none, .mov (.c (.bool false))⟩]) <|
      .ret) (.skip))) <|
    .ops [⟨some 94, none, .bin .num .add (.t 81) (.c (.int .i64 1))⟩, ⟨some 81, none, .mov (.t 94)⟩]))) <|
  .seq (.ops [⟨some 2, none, .mov (.c (.bool true))⟩]) <|
  .ret
def v6 : VFunc := ⟨95, [.tmp 2], c6⟩
/-- berthing/berthinglaw11.first -/
def c7 : VCode :=
  .seq (.ops [⟨some 0, none, .mov (.c (.bool false))⟩]) <|
  .seq (.ops [⟨some 2, none, .call .shared 16 []⟩, ⟨some 1, none, .mov (.t 2)⟩]) <|
  .seq (.ops [⟨some 3, none, .mov (.t 1)⟩, ⟨some 4, none, .buildSlice true 1 4 [(.int .u8 0), (.int .u8 0), (.int .u8 0), (.int .u8 0)] [(0, 1, (.c (.int .u8 49))), (1, 1, (.c (.int .u8 50))), (2, 1, (.c (.int .u8 51))), (3, 1, (.c (.int .u8 52)))]⟩, ⟨some 5, none, .freeze (.t 4)⟩, ⟨some 6, none, .buildSlice true 1 5 [(.int .u8 0), (.int .u8 0), (.int .u8 0), (.int .u8 0), (.int .u8 0)] [(0, 1, (.c (.int .u8 53))), (1, 1, (.c (.int .u8 54))), (2, 1, (.c (.int .u8 55))), (3, 1, (.c (.int .u8 56))), (4, 1, (.c (.int .u8 57)))]⟩, ⟨some 7, none, .freeze (.t 6)⟩, ⟨some 8, none, .buildSlice false 1 2 [(.sl .nil 0 []), (.sl .nil 0 [])] [(0, 1, (.t 5)), (1, 1, (.t 7))]⟩, ⟨some 9, none, .call .shared 10 [(.t 3), (.t 8)]⟩]) <|
  .seq (.ops [⟨some 10, none, .buildSlice true 1 9 [(.int .u8 0), (.int .u8 0), (.int .u8 0), (.int .u8 0), (.int .u8 0), (.int .u8 0), (.int .u8 0), (.int .u8 0), (.int .u8 0)] [(0, 1, (.c (.int .u8 49))), (1, 1, (.c (.int .u8 50))), (2, 1, (.c (.int .u8 51))), (3, 1, (.c (.int .u8 52))), (4, 1, (.c (.int .u8 53))), (5, 1, (.c (.int .u8 54))), (6, 1, (.c (.int .u8 55))), (7, 1, (.c (.int .u8 56))), (8, 1, (.c (.int .u8 57)))]⟩, ⟨some 11, none, .freeze (.t 10)⟩, ⟨some 12, none, .buildSlice false 1 1 [(.sl .nil 0 [])] [(0, 1, (.t 11))]⟩, ⟨some 13, none, .call .pure 8 [(.t 12)]⟩, ⟨some 14, none, .bin .num .eql (.t 13) (.c (.int .u32 3421780262))⟩, ⟨some 15, none, .mov (.t 14)⟩, ⟨some 16, some (15, true), .mov (.t 1)⟩, ⟨some 17, some (15, true), .call .shared 14 [(.t 16)]⟩, ⟨some 18, some (15, true), .bin .num .eql (.t 17) (.c (.int .u32 3421780262))⟩, ⟨some 19, none, .pick (.t 15) (.t 18) (.c (.bool false))⟩, ⟨some 20, none, .mov (.t 19)⟩, ⟨some 21, some (20, true), .call .pure 8 [(.c (.sl .nil 0 []))]⟩, ⟨some 22, some (20, true), .bin .num .eql (.t 21) (.c (.int .u32 0))⟩, ⟨some 23, none, .pick (.t 20) (.t 22) (.c (.bool false))⟩, ⟨some 24, none, .mov (.t 23)⟩, ⟨some 25, some (24, true), .call .pure 9 [(.c (.int .u32 16909060))]⟩, ⟨some 26, some (24, true), .build [(.int .u8 0), (.int .u8 0), (.int .u8 0), (.int .u8 0)] [(0, 1, (.c (.int .u8 1))), (1, 1, (.c (.int .u8 2))), (2, 1, (.c (.int .u8 3))), (3, 1, (.c (.int .u8 4)))]⟩, ⟨some 27, some (24, true), .bin (.agg [.i, .i, .i, .i]) .eql (.t 25) (.t 26)⟩, ⟨some 28, none, .pick (.t 24) (.t 27) (.c (.bool false))⟩, ⟨some 29, none, .mov (.t 28)⟩, ⟨some 30, some (29, true), .build [(.int .u8 0), (.int .u8 0), (.int .u8 0), (.int .u8 0)] [(0, 1, (.c (.int .u8 1))), (1, 1, (.c (.int .u8 2))), (2, 1, (.c (.int .u8 3))), (3, 1, (.c (.int .u8 4)))]⟩, ⟨some 31, some (29, true), .call .pure 13 [(.t 30)]⟩, ⟨some 32, some (29, true), .bin .num .eql (.t 31) (.c (.int .u32 16909060))⟩, ⟨some 33, none, .pick (.t 29) (.t 32) (.c (.bool false))⟩, ⟨some 0, none, .mov (.t 33)⟩]) <|
  .ret
def v7 : VFunc := ⟨34, [.tmp 0], c7⟩
/-- berthing/crc.Of -/
def c8 : VCode :=
  .seq (.ops [⟨some 2, none, .mov (.c (.int .u32 0))⟩]) <|
  .seq (.ops [⟨some 4, none, .call .shared 16 []⟩, ⟨some 3, none, .mov (.t 4)⟩]) <|
  .seq (.ops [⟨some 5, none, .mov (.t 3)⟩, ⟨some 6, none, .mov (.t 0)⟩, ⟨some 7, none, .call .shared 10 [(.t 5), (.t 6)]⟩]) <|
  .seq (.ops [⟨some 8, none, .mov (.t 3)⟩, ⟨some 9, none, .call .shared 14 [(.t 8)]⟩, ⟨some 2, none, .mov (.t 9)⟩]) <|
  .ret
def v8 : VFunc := ⟨10, [.tmp 2], c8⟩
/-- berthing/crc.Bytes -/
def c9 : VCode :=
  .seq (.ops [⟨some 2, none, .alloc [(.int .u8 0), (.int .u8 0), (.int .u8 0), (.int .u8 0)]⟩]) <|
  .seq (.ops [⟨some 3, none, .mov (.t 0)⟩, ⟨some 4, none, .bin .num .shr (.t 3) (.c (.int .u64 24))⟩, ⟨some 5, none, .conv .u8 (.t 4)⟩, ⟨some 6, none, .mov (.t 0)⟩, ⟨some 7, none, .bin .num .shr (.t 6) (.c (.int .u64 16))⟩, ⟨some 8, none, .conv .u8 (.t 7)⟩, ⟨some 9, none, .mov (.t 0)⟩, ⟨some 10, none, .bin .num .shr (.t 9) (.c (.int .u64 8))⟩, ⟨some 11, none, .conv .u8 (.t 10)⟩, ⟨some 12, none, .mov (.t 0)⟩, ⟨some 13, none, .conv .u8 (.t 12)⟩, ⟨some 14, none, .build [(.int .u8 0), (.int .u8 0), (.int .u8 0), (.int .u8 0)] [(0, 1, (.t 5)), (1, 1, (.t 8)), (2, 1, (.t 11)), (3, 1, (.t 13))]⟩, ⟨none, none, .storeN 4 (.t 2) (.t 14)⟩]) <|
  .ret
def v9 : VFunc := ⟨15, [.cellN 4 2], c9⟩
/-- (*berthing/crc.Sum).Add -/
def c10 : VCode :=
  .seq (.seq (.ops [⟨some 8, none, .mov (.t 0)⟩, ⟨some 9, none, .bin .ptr .eql (.t 8) (.c .nilp)⟩]) <|
  .cond (.t 9) (.ret) (.skip)) <|
  .seq (.ops [⟨some 10, none, .mov (.t 1)⟩, ⟨some 11, none, .lenS (.t 10)⟩, ⟨some 12, none, .mov (.c (.int .i64 0))⟩]) <|
  .block 0 (.loop (.seq (.ops [⟨some 13, none, .bin .num .lss (.t 12) (.t 11)⟩]) <|
    .seq (.cond (.t 13) (.skip) (.exit 0)) <|
    .seq (.block 1 (.seq (.ops [⟨some 14, none, .idxAddrS 1 (.t 10) (.t 12)⟩, ⟨some 15, none, .load1 (.t 14)⟩, ⟨some 5, none, .mov (.t 15)⟩]) <|
     .seq (.ops [⟨some 16, none, .mov (.t 5)⟩, ⟨some 17, none, .lenS (.t 16)⟩, ⟨some 18, none, .mov (.c (.int .i64 0))⟩]) <|
     .block 2 (.loop (.seq (.ops [⟨some 19, none, .bin .num .lss (.t 18) (.t 17)⟩]) <|
       .seq (.cond (.t 19) (.skip) (.exit 2)) <|
       .seq (.block 3 (.seq (.ops [⟨some 20, none, .idxAddrS 1 (.t 16) (.t 18)⟩, ⟨some 21, none, .load1 (.t 20)⟩, ⟨some 7, none, .mov (.t 21)⟩]) <|
        .seq (.ops [⟨some 22, none, .mov (.t 0)⟩, ⟨some 23, none, .nilCheck (.t 22)⟩, ⟨some 24, none, .fieldAddr 0 (.t 23)⟩, ⟨some 25, none, .load1 (.t 24)⟩, ⟨some 26, none, .mov (.t 7)⟩, ⟨some 27, none, .conv .u32 (.t 26)⟩, ⟨some 28, none, .bin .num .xor (.t 25) (.t 27)⟩, ⟨some 29, none, .nilCheck (.t 22)⟩, ⟨some 30, none, .fieldAddr 0 (.t 29)⟩, ⟨none, none, .store1 (.t 30) (.t 28)⟩]) <|
        .seq (.ops [⟨some 31, none, .mov (.c (.int .i64 0))⟩]) <|
        .block 4 (.loop (.seq (.ops [⟨some 32, none, .bin .num .lss (.t 31) (.c (.int .i64 8))⟩]) <|
          .seq (.cond (.t 32) (.skip) (.exit 4)) <|
          .seq (.block 5 (.ops [⟨some 33, none, .mov (.t 0)⟩, ⟨some 34, none, .mov (.t 0)⟩, ⟨some 35, none, .nilCheck (.t 34)⟩, ⟨some 36, none, .fieldAddr 0 (.t 35)⟩, ⟨some 37, none, .load1 (.t 36)⟩, ⟨some 38, none, .bin .num .shr (.t 37) (.c (.int .u64 1))⟩, ⟨some 39, none, .mov (.t 0)⟩, ⟨some 40, none, .nilCheck (.t 39)⟩, ⟨some 41, none, .fieldAddr 0 (.t 40)⟩, ⟨some 42, none, .load1 (.t 41)⟩, ⟨some 43, none, .bin .num .and (.t 42) (.c (.int .u32 1))⟩, ⟨some 44, none, .un .neg (.t 43)⟩, ⟨some 45, none, .bin .num .and (.c (.int .u32 3988292384)) (.t 44)⟩, ⟨some 46, none, .bin .num .xor (.t 38) (.t 45)⟩, ⟨some 47, none, .nilCheck (.t 33)⟩, ⟨some 48, none, .fieldAddr 0 (.t 47)⟩, ⟨none, none, .store1 (.t 48) (.t 46)⟩])) <|
          .ops [⟨some 49, none, .bin .num .add (.t 31) (.c (.int .i64 1))⟩, ⟨some 31, none, .mov (.t 49)⟩])))) <|
       .ops [⟨some 50, none, .bin .num .add (.t 18) (.c (.int .i64 1))⟩, ⟨some 18, none, .mov (.t 50)⟩])))) <|
    .ops [⟨some 51, none, .bin .num .add (.t 12) (.c (.int .i64 1))⟩, ⟨some 12, none, .mov (.t 51)⟩]))
def v10 : VFunc := ⟨52, [], c10⟩
/-- berthing/berthingref11.Of -/
def c11 : VCode :=
  .seq (.ops [⟨some 2, none, .mov (.c (.int .u32 0))⟩]) <|
  .seq (.ops [⟨some 16, none, .build [(.bool false), (.bool false), (.bool false), (.bool false), (.bool false), (.bool false), (.bool false), (.bool false), (.bool false), (.bool false), (.bool false), (.bool false), (.bool false), (.bool false), (.bool false), (.bool false), (.bool false), (.bool false), (.bool false), (.bool false), (.bool false), (.bool false), (.bool false), (.bool false), (.bool false), (.bool false), (.bool false), (.bool false), (.bool false), (.bool false), (.bool false), (.bool false)] []⟩, ⟨some 3, none, .alloc [(.bool false), (.bool false), (.bool false), (.bool false), (.bool false), (.bool false), (.bool false), (.bool false), (.bool false), (.bool false), (.bool false), (.bool false), (.bool false), (.bool false), (.bool false), (.bool false), (.bool false), (.bool false), (.bool false), (.bool false), (.bool false), (.bool false), (.bool false), (.bool false), (.bool false), (.bool false), (.bool false), (.bool false), (.bool false), (.bool false), (.bool false), (.bool false)]⟩, ⟨none, none, .storeN 32 (.t 3) (.t 16)⟩]) <|
  .seq (.seq (.ops [⟨some 4, none, .mov (.c (.int .i64 0))⟩]) <|
  .block 0 (.loop (.seq (.seq (.ops [⟨some 17, none, .mov (.t 4)⟩, ⟨some 18, none, .bin .num .lss (.t 17) (.c (.int .i64 32))⟩]) <|
    .cond (.t 18) (.skip) (.exit 0)) <|
    .seq (.block 1 (.ops [⟨some 21, none, .mov (.t 4)⟩, ⟨some 22, none, .idxAddrA 32 1 (.t 3) (.t 21)⟩, ⟨none, none, .store1 (.t 22) (.c (.bool true))⟩])) <|
    .ops [⟨some 19, none, .mov (.t 4)⟩, ⟨some 20, none, .bin .num .add (.t 19) (.c (.int .i64 1))⟩, ⟨some 4, none, .mov (.t 20)⟩]))) <|
  .seq (.ops [⟨some 23, none, .build [(.bool false), (.bool false), (.bool false), (.bool false), (.bool false), (.bool false), (.bool false), (.bool false), (.bool false), (.bool false), (.bool false), (.bool false), (.bool false), (.bool false), (.bool false), (.bool false), (.bool false), (.bool false), (.bool false), (.bool false), (.bool false), (.bool false), (.bool false), (.bool false), (.bool false), (.bool false), (.bool false), (.bool false), (.bool false), (.bool false), (.bool false), (.bool false)] []⟩, ⟨some 5, none, .alloc [(.bool false), (.bool false), (.bool false), (.bool false), (.bool false), (.bool false), (.bool false), (.bool false), (.bool false), (.bool false), (.bool false), (.bool false), (.bool false), (.bool false), (.bool false), (.bool false), (.bool false), (.bool false), (.bool false), (.bool false), (.bool false), (.bool false), (.bool false), (.bool false), (.bool false), (.bool false), (.bool false), (.bool false), (.bool false), (.bool false), (.bool false), (.bool false)]⟩, ⟨none, none, .storeN 32 (.t 5) (.t 23)⟩]) <|
  .seq (.ops [⟨some 6, none, .mov (.c (.int .u32 3988292384))⟩]) <|
  .seq (.seq (.ops [⟨some 7, none, .mov (.c (.int .i64 0))⟩]) <|
  .block 2 (.loop (.seq (.seq (.ops [⟨some 24, none, .mov (.t 7)⟩, ⟨some 25, none, .bin .num .lss (.t 24) (.c (.int .i64 32))⟩]) <|
    .cond (.t 25) (.skip) (.exit 2)) <|
    .seq (.block 3 (.seq (.ops [⟨some 28, none, .mov (.t 7)⟩, ⟨some 29, none, .mov (.t 6)⟩, ⟨some 30, none, .bin .num .rem (.t 29) (.c (.int .u32 2))⟩, ⟨some 31, none, .bin .num .eql (.t 30) (.c (.int .u32 1))⟩, ⟨some 32, none, .idxAddrA 32 1 (.t 5) (.t 28)⟩, ⟨none, none, .store1 (.t 32) (.t 31)⟩]) <|
     .ops [⟨some 33, none, .mov (.t 6)⟩, ⟨some 34, none, .bin .num .quo (.t 33) (.c (.int .u32 2))⟩, ⟨some 6, none, .mov (.t 34)⟩])) <|
    .ops [⟨some 26, none, .mov (.t 7)⟩, ⟨some 27, none, .bin .num .add (.t 26) (.c (.int .i64 1))⟩, ⟨some 7, none, .mov (.t 27)⟩]))) <|
  .seq (.seq (.ops [⟨some 8, none, .mov (.c (.int .i64 0))⟩]) <|
  .block 4 (.loop (.seq (.seq (.ops [⟨some 35, none, .mov (.t 8)⟩, ⟨some 36, none, .mov (.t 0)⟩, ⟨some 37, none, .lenStr (.t 36)⟩, ⟨some 38, none, .bin .num .lss (.t 35) (.t 37)⟩]) <|
    .cond (.t 38) (.skip) (.exit 4)) <|
    .seq (.block 5 (.seq (.ops [⟨some 41, none, .mov (.t 0)⟩, ⟨some 42, none, .mov (.t 8)⟩, ⟨some 43, none, .idxStr (.t 41) (.t 42)⟩, ⟨some 9, none, .mov (.t 43)⟩]) <|
     .seq (.ops [⟨some 10, none, .mov (.c (.int .i64 0))⟩]) <|
     .block 6 (.loop (.seq (.seq (.ops [⟨some 44, none, .mov (.t 10)⟩, ⟨some 45, none, .bin .num .lss (.t 44) (.c (.int .i64 8))⟩]) <|
       .cond (.t 45) (.skip) (.exit 6)) <|
       .seq (.block 7 (.seq (.ops [⟨some 48, none, .idxAddrA 32 1 (.t 3) (.c (.int .i64 0))⟩, ⟨some 49, none, .load1 (.t 48)⟩, ⟨some 50, none, .mov (.t 9)⟩, ⟨some 51, none, .bin .num .rem (.t 50) (.c (.int .u8 2))⟩, ⟨some 52, none, .bin .num .eql (.t 51) (.c (.int .u8 1))⟩, ⟨some 53, none, .bin .bool .neq (.t 49) (.t 52)⟩, ⟨some 11, none, .mov (.t 53)⟩]) <|
        .seq (.ops [⟨some 54, none, .mov (.t 9)⟩, ⟨some 55, none, .bin .num .quo (.t 54) (.c (.int .u8 2))⟩, ⟨some 9, none, .mov (.t 55)⟩]) <|
        .seq (.seq (.ops [⟨some 12, none, .mov (.c (.int .i64 0))⟩]) <|
        .block 8 (.loop (.seq (.seq (.ops [⟨some 56, none, .mov (.t 12)⟩, ⟨some 57, none, .bin .num .lss (.t 56) (.c (.int .i64 31))⟩]) <|
          .cond (.t 57) (.skip) (.exit 8)) <|
          .seq (.block 9 (.ops [⟨some 60, none, .mov (.t 12)⟩, ⟨some 61, none, .mov (.t 12)⟩, ⟨some 62, none, .bin .num .add (.t 61) (.c (.int .i64 1))⟩, ⟨some 63, none, .idxAddrA 32 1 (.t 3) (.t 62)⟩, ⟨some 64, none, .load1 (.t 63)⟩, ⟨some 65, none, .idxAddrA 32 1 (.t 3) (.t 60)⟩, ⟨none, none, .store1 (.t 65) (.t 64)⟩])) <|
          .ops [⟨some 58, none, .mov (.t 12)⟩, ⟨some 59, none, .bin .num .add (.t 58) (.c (.int .i64 1))⟩, ⟨some 12, none, .mov (.t 59)⟩]))) <|
        .seq (.ops [⟨some 66, none, .idxAddrA 32 1 (.t 3) (.c (.int .i64 31))⟩, ⟨none, none, .store1 (.t 66) (.c (.bool false))⟩]) <|
        .seq (.ops [⟨some 13, none, .mov (.c (.int .i64 0))⟩]) <|
        .block 10 (.loop (.seq (.seq (.ops [⟨some 67, none, .mov (.t 13)⟩, ⟨some 68, none, .bin .num .lss (.t 67) (.c (.int .i64 32))⟩]) <|
          .cond (.t 68) (.skip) (.exit 10)) <|
          .seq (.block 11 (.ops [⟨some 71, none, .mov (.t 13)⟩, ⟨some 72, none, .mov (.t 13)⟩, ⟨some 73, none, .idxAddrA 32 1 (.t 3) (.t 72)⟩, ⟨some 74, none, .load1 (.t 73)⟩, ⟨some 75, none, .mov (.t 11)⟩, ⟨some 76, none, .mov (.t 75)⟩, ⟨some 77, some (76, true), .mov (.t 13)⟩, ⟨some 78, some (76, true), .idxAddrA 32 1 (.t 5) (.t 77)⟩, ⟨some 79, some (76, true), .load1 (.t 78)⟩, ⟨some 80, none, .pick (.t 76) (.t 79) (.c (.bool false))⟩, ⟨some 81, none, .bin .bool .neq (.t 74) (.t 80)⟩, ⟨some 82, none, .idxAddrA 32 1 (.t 3) (.t 71)⟩, ⟨none, none, .store1 (.t 82) (.t 81)⟩])) <|
          .ops [⟨some 69, none, .mov (.t 13)⟩, ⟨some 70, none, .bin .num .add (.t 69) (.c (.int .i64 1))⟩, ⟨some 13, none, .mov (.t 70)⟩])))) <|
       .ops [⟨some 46, none, .mov (.t 10)⟩, ⟨some 47, none, .bin .num .add (.t 46) (.c (.int .i64 1))⟩, ⟨some 10, none, .mov (.t 47)⟩])))) <|
    .ops [⟨some 39, none, .mov (.t 8)⟩, ⟨some 40, none, .bin .num .add (.t 39) (.c (.int .i64 1))⟩, ⟨some 8, none, .mov (.t 40)⟩]))) <|
  .seq (.ops [⟨some 14, none, .mov (.c (.int .u32 0))⟩]) <|
  .seq (.seq (.ops [⟨some 15, none, .mov (.c (.int .i64 31))⟩]) <|
  .block 12 (.loop (.seq (.seq (.ops [⟨some 83, none, .mov (.t 15)⟩, ⟨some 84, none, .bin .num .geq (.t 83) (.c (.int .i64 0))⟩]) <|
    .cond (.t 84) (.skip) (.exit 12)) <|
    .seq (.block 13 (.seq (.ops [⟨some 87, none, .mov (.t 14)⟩, ⟨some 88, none, .bin .num .mul (.t 87) (.c (.int .u32 2))⟩, ⟨some 14, none, .mov (.t 88)⟩]) <|
     .seq (.ops [⟨some 89, none, .mov (.t 15)⟩, ⟨some 90, none, .idxAddrA 32 1 (.t 3) (.t 89)⟩, ⟨some 91, none, .load1 (.t 90)⟩, ⟨some 92, none, .un .not (.t 91)⟩]) <|
     .cond (.t 92) (.ops [⟨some 93, none, .mov (.t 14)⟩, ⟨some 94, none, .bin .num .add (.t 93) (.c (.int .u32 1))⟩, ⟨some 14, none, .mov (.t 94)⟩]) (.skip))) <|
    .ops [⟨some 85, none, .mov (.t 15)⟩, ⟨some 86, none, .bin .num .sub (.t 85) (.c (.int .i64 1))⟩, ⟨some 15, none, .mov (.t 86)⟩]))) <|
  .seq (.ops [⟨some 95, none, .mov (.t 14)⟩, ⟨some 2, none, .mov (.t 95)⟩]) <|
  .ret
def v11 : VFunc := ⟨96, [.tmp 2], c11⟩
/-- berthing/berthingref11.Bytes -/
def c12 : VCode :=
  .seq (.ops [⟨some 2, none, .mov (.c (.str ⟨#[]⟩))⟩]) <|
  .seq (.ops [⟨some 3, none, .mov (.t 0)⟩, ⟨some 4, none, .bin .num .quo (.t 3) (.c (.int .u32 16777216))⟩, ⟨some 5, none, .conv .u8 (.t 4)⟩, ⟨some 6, none, .mov (.t 0)⟩, ⟨some 7, none, .bin .num .quo (.t 6) (.c (.int .u32 65536))⟩, ⟨some 8, none, .bin .num .rem (.t 7) (.c (.int .u32 256))⟩, ⟨some 9, none, .conv .u8 (.t 8)⟩, ⟨some 10, none, .mov (.t 0)⟩, ⟨some 11, none, .bin .num .quo (.t 10) (.c (.int .u32 256))⟩, ⟨some 12, none, .bin .num .rem (.t 11) (.c (.int .u32 256))⟩, ⟨some 13, none, .conv .u8 (.t 12)⟩, ⟨some 14, none, .mov (.t 0)⟩, ⟨some 15, none, .bin .num .rem (.t 14) (.c (.int .u32 256))⟩, ⟨some 16, none, .conv .u8 (.t 15)⟩, ⟨some 17, none, .buildSlice false 1 4 [(.int .u8 0), (.int .u8 0), (.int .u8 0), (.int .u8 0)] [(0, 1, (.t 5)), (1, 1, (.t 9)), (2, 1, (.t 13)), (3, 1, (.t 16))]⟩, ⟨some 18, none, .strOfP (.t 17)⟩, ⟨some 2, none, .mov (.t 18)⟩]) <|
  .ret
def v12 : VFunc := ⟨19, [.tmp 2], c12⟩
/-- berthing/crc.Value -/
def c13 : VCode :=
  .seq (.ops [⟨some 1, none, .box (.t 0)⟩, ⟨some 2, none, .mov (.c (.int .u32 0))⟩]) <|
  .seq (.ops [⟨some 3, none, .mov (.c (.int .u32 0))⟩]) <|
  .seq (.seq (.ops [⟨some 6, none, .loadN 4 (.t 1)⟩, ⟨some 7, none, .mov (.c (.int .i64 0))⟩]) <|
  .block 0 (.loop (.seq (.ops [⟨some 8, none, .bin .num .lss (.t 7) (.c (.int .i64 4))⟩]) <|
    .seq (.cond (.t 8) (.skip) (.exit 0)) <|
    .seq (.block 1 (.seq (.ops [⟨some 9, none, .idxA1 4 (.t 6) (.t 7)⟩, ⟨some 5, none, .mov (.t 9)⟩]) <|
     .ops [⟨some 10, none, .mov (.t 3)⟩, ⟨some 11, none, .bin .num .shl (.t 10) (.c (.int .u64 8))⟩, ⟨some 12, none, .mov (.t 5)⟩, ⟨some 13, none, .conv .u32 (.t 12)⟩, ⟨some 14, none, .bin .num .or (.t 11) (.t 13)⟩, ⟨some 3, none, .mov (.t 14)⟩])) <|
    .ops [⟨some 15, none, .bin .num .add (.t 7) (.c (.int .i64 1))⟩, ⟨some 7, none, .mov (.t 15)⟩]))) <|
  .seq (.ops [⟨some 16, none, .mov (.t 3)⟩, ⟨some 2, none, .mov (.t 16)⟩]) <|
  .ret
def v13 : VFunc := ⟨17, [.tmp 2], c13⟩
/-- (*berthing/crc.Sum).Value -/
def c14 : VCode :=
  .seq (.ops [⟨some 2, none, .mov (.c (.int .u32 0))⟩]) <|
  .seq (.seq (.ops [⟨some 3, none, .mov (.t 0)⟩, ⟨some 4, none, .bin .ptr .eql (.t 3) (.c .nilp)⟩]) <|
  .cond (.t 4) (.seq (.ops [⟨some 2, none, .mov (.c (.int .u32 0))⟩]) <|
   .ret) (.skip)) <|
  .seq (.ops [⟨some 5, none, .mov (.t 0)⟩, ⟨some 6, none, .nilCheck (.t 5)⟩, ⟨some 7, none, .fieldAddr 0 (.t 6)⟩, ⟨some 8, none, .load1 (.t 7)⟩, ⟨some 9, none, .un .xor (.t 8)⟩, ⟨some 2, none, .mov (.t 9)⟩]) <|
  .ret
def v14 : VFunc := ⟨10, [.tmp 2], c14⟩
/-- (*berthing/crc.Sum).Clone -/
def c15 : VCode :=
  .seq (.ops [⟨some 2, none, .mov (.c .nilp)⟩]) <|
  .seq (.seq (.ops [⟨some 3, none, .mov (.t 0)⟩, ⟨some 4, none, .bin .ptr .eql (.t 3) (.c .nilp)⟩]) <|
  .cond (.t 4) (.seq (.ops [⟨some 2, none, .mov (.c .nilp)⟩]) <|
   .ret) (.skip)) <|
  .seq (.ops [⟨some 5, none, .mov (.t 0)⟩, ⟨some 6, none, .nilCheck (.t 5)⟩, ⟨some 7, none, .fieldAddr 0 (.t 6)⟩, ⟨some 8, none, .load1 (.t 7)⟩, ⟨some 9, none, .build [(.int .u32 0)] [(0, 1, (.t 8))]⟩, ⟨some 10, none, .box (.t 9)⟩, ⟨some 2, none, .mov (.t 10)⟩]) <|
  .ret
def v15 : VFunc := ⟨11, [.tmp 2], c15⟩
/-- berthing/crc.New -/
def c16 : VCode :=
  .seq (.ops [⟨some 0, none, .mov (.c .nilp)⟩]) <|
  .seq (.ops [⟨some 1, none, .build [(.int .u32 0)] [(0, 1, (.c (.int .u32 4294967295)))]⟩, ⟨some 2, none, .box (.t 1)⟩, ⟨some 0, none, .mov (.t 2)⟩]) <|
  .ret
def v16 : VFunc := ⟨3, [.tmp 0], c16⟩
def ft : FuncId → Option VFunc := fun f => bif Nat.beq f 6 then some v6 else bif Nat.beq f 7 then some v7 else bif Nat.beq f 8 then some v8 else bif Nat.beq f 9 then some v9 else bif Nat.beq f 10 then some v10 else bif Nat.beq f 11 then some v11 else bif Nat.beq f 12 then some v12 else bif Nat.beq f 13 then some v13 else bif Nat.beq f 14 then some v14 else bif Nat.beq f 15 then some v15 else bif Nat.beq f 16 then some v16 else none
def pr : FuncId → Option (List PV → Option PV) := fun _ => none
def gi : Imm := fun _ => none
def gn : Addr → Bool := fun _ => false
def env : Env := ⟨ft, md, pr⟩
theorem is6 : FnComp ⟨Try.prog, md, gi, gn⟩ 6 v6 := ⟨Try.f6, _, fun t => ⟨Nat.beq t 69 || false, md, Nat.beq t 13 || Nat.beq t 14 || false⟩, Try.func6, rfl, by kernel_rfl, by kernel_rfl, by kernel_rfl⟩
theorem is7 : FnComp ⟨Try.prog, md, gi, gn⟩ 7 v7 := ⟨Try.f7, _, fun t => ⟨Nat.beq t 4 || Nat.beq t 6 || Nat.beq t 10 || false, md, false⟩, Try.func7, rfl, by kernel_rfl, by kernel_rfl, by kernel_rfl⟩
theorem is8 : FnComp ⟨Try.prog, md, gi, gn⟩ 8 v8 := ⟨Try.f8, _, fun t => ⟨false, md, false⟩, Try.func8, rfl, by kernel_rfl, by kernel_rfl, by kernel_rfl⟩
theorem is9 : FnComp ⟨Try.prog, md, gi, gn⟩ 9 v9 := ⟨Try.f9, _, fun t => ⟨false, md, false⟩, Try.func9, rfl, by kernel_rfl, by kernel_rfl, by kernel_rfl⟩
theorem is10 : FnComp ⟨Try.prog, md, gi, gn⟩ 10 v10 := ⟨Try.f10, _, fun t => ⟨false, md, false⟩, Try.func10, rfl, by kernel_rfl, by kernel_rfl, by kernel_rfl⟩
theorem is11 : FnComp ⟨Try.prog, md, gi, gn⟩ 11 v11 := ⟨Try.f11, _, fun t => ⟨false, md, false⟩, Try.func11, rfl, by kernel_rfl, by kernel_rfl, by kernel_rfl⟩
theorem is12 : FnComp ⟨Try.prog, md, gi, gn⟩ 12 v12 := ⟨Try.f12, _, fun t => ⟨false, md, false⟩, Try.func12, rfl, by kernel_rfl, by kernel_rfl, by kernel_rfl⟩
theorem is13 : FnComp ⟨Try.prog, md, gi, gn⟩ 13 v13 := ⟨Try.f13, _, fun t => ⟨false, md, false⟩, Try.func13, rfl, by kernel_rfl, by kernel_rfl, by kernel_rfl⟩
theorem is14 : FnComp ⟨Try.prog, md, gi, gn⟩ 14 v14 := ⟨Try.f14, _, fun t => ⟨false, md, false⟩, Try.func14, rfl, by kernel_rfl, by kernel_rfl, by kernel_rfl⟩
theorem is15 : FnComp ⟨Try.prog, md, gi, gn⟩ 15 v15 := ⟨Try.f15, _, fun t => ⟨false, md, false⟩, Try.func15, rfl, by kernel_rfl, by kernel_rfl, by kernel_rfl⟩
theorem is16 : FnComp ⟨Try.prog, md, gi, gn⟩ 16 v16 := ⟨Try.f16, _, fun t => ⟨false, md, false⟩, Try.func16, rfl, by kernel_rfl, by kernel_rfl, by kernel_rfl⟩

theorem envOK : EnvOK ⟨Try.prog, md, gi, gn⟩ env := ⟨rfl, by kernel_rfl, (fun f vf h => by
  change ft f = some vf at h
  unfold ft at h
  rcases ft_cons h with ⟨h1, h2⟩ | h
  · rw [h1, h2]; exact is6
  rcases ft_cons h with ⟨h1, h2⟩ | h
  · rw [h1, h2]; exact is7
  rcases ft_cons h with ⟨h1, h2⟩ | h
  · rw [h1, h2]; exact is8
  rcases ft_cons h with ⟨h1, h2⟩ | h
  · rw [h1, h2]; exact is9
  rcases ft_cons h with ⟨h1, h2⟩ | h
  · rw [h1, h2]; exact is10
  rcases ft_cons h with ⟨h1, h2⟩ | h
  · rw [h1, h2]; exact is11
  rcases ft_cons h with ⟨h1, h2⟩ | h
  · rw [h1, h2]; exact is12
  rcases ft_cons h with ⟨h1, h2⟩ | h
  · rw [h1, h2]; exact is13
  rcases ft_cons h with ⟨h1, h2⟩ | h
  · rw [h1, h2]; exact is14
  rcases ft_cons h with ⟨h1, h2⟩ | h
  · rw [h1, h2]; exact is15
  rcases ft_cons h with ⟨h1, h2⟩ | h
  · rw [h1, h2]; exact is16
  cases h), fun f g h => by cases h⟩
end Go.Proofs.Ytgfedlikbaailaa
