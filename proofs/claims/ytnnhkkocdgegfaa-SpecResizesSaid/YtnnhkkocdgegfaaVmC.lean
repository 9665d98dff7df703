/-
  The functions of this seat as code of the abstract machine, and that they are so. Printed by a program.
-/
import Derived.Test.YtnnhkkocdgegfaaV8
import Derived.Test.YtnnhkkocdgegfaaChecked
import Derived.KernelRfl
set_option linter.all false
set_option linter.unusedVariables false
set_option linter.unusedSimpArgs false
set_option linter.unusedSectionVars false
namespace Go.Proofs.Ytnnhkkocdgegfaa
open Go Go.VM

def md : FuncId → VM.Mode := fun f => bif Nat.beq f 14 then .shared else bif Nat.beq f 16 then .shared else bif Nat.beq f 18 then .shared else bif Nat.beq f 19 then .shared else bif Nat.beq f 20 then .shared else bif Nat.beq f 21 then .shared else bif Nat.beq f 35 then .shared else bif Nat.beq f 36 then .shared else bif Nat.beq f 37 then .shared else .pure
/-- berthing/berthinglaw05.SpecNames -/
def c3 : VCode :=
  .seq (.ops [⟨some 3, none, .box (.t 1)⟩, ⟨some 4, none, .mov (.c (.bool false))⟩]) <|
  .seq (.seq (.ops [⟨some 5, none, .call .pure 8 []⟩, ⟨some 6, none, .un .not (.t 5)⟩]) <|
  .cond (.t 6) (.seq (.ops [⟨some 4, none, .mov (.c (.bool false))⟩]) <|
   .ret) (.skip)) <|
  .seq (.seq (.ops [⟨some 7, none, .mov (.t 0)⟩, ⟨some 8, none, .lenStr (.t 7)⟩, ⟨some 9, none, .bin .num .gtr (.t 8) (.c (.int .i64 300))⟩, ⟨some 10, none, .mov (.t 9)⟩, ⟨some 11, some (10, false), .fieldAddr 0 (.t 3)⟩, ⟨some 12, some (10, false), .load1 (.t 11)⟩, ⟨some 13, some (10, false), .lenStr (.t 12)⟩, ⟨some 14, some (10, false), .bin .num .gtr (.t 13) (.c (.int .i64 300))⟩, ⟨some 15, none, .pick (.t 10) (.c (.bool true)) (.t 14)⟩]) <|
  .cond (.t 15) (.seq (.ops [⟨some 4, none, .mov (.c (.bool true))⟩]) <|
   .ret) (.skip)) <|
  .seq (.ops [⟨some 16, none, .mov (.t 0)⟩, ⟨some 17, none, .call .pure 9 [(.t 16)]⟩, ⟨some 18, none, .mov (.t 0)⟩, ⟨some 19, none, .call .pure 10 [(.t 18)]⟩, ⟨some 20, none, .bin .bool .eql (.t 17) (.t 19)⟩, ⟨some 21, none, .mov (.t 20)⟩, ⟨some 22, some (21, true), .loadN 10 (.t 3)⟩, ⟨some 23, some (21, true), .call .pure 11 [(.t 22)]⟩, ⟨some 24, some (21, true), .loadN 10 (.t 3)⟩, ⟨some 25, some (21, true), .call .pure 12 [(.t 24)]⟩, ⟨some 26, some (21, true), .bin .bool .eql (.t 23) (.t 25)⟩, ⟨some 27, none, .pick (.t 21) (.t 26) (.c (.bool false))⟩, ⟨some 4, none, .mov (.t 27)⟩]) <|
  .ret
def v3 : VFunc := ⟨28, [.tmp 4], c3⟩
/-- berthing/berthinglaw05.SpecPods -/
def c4 : VCode :=
  .seq (.ops [⟨some 3, none, .box (.t 0)⟩, ⟨some 4, none, .box (.t 1)⟩, ⟨some 6, none, .mov (.c (.bool false))⟩]) <|
  .seq (.seq (.ops [⟨some 19, none, .call .pure 8 []⟩, ⟨some 20, none, .un .not (.t 19)⟩]) <|
  .cond (.t 20) (.seq (.ops [⟨some 6, none, .mov (.c (.bool false))⟩]) <|
   .ret) (.skip)) <|
  .seq (.seq (.ops [⟨some 21, none, .loadN 4 (.t 3)⟩, ⟨some 22, none, .call .pure 13 [(.t 21)]⟩, ⟨some 23, none, .loadN 4 (.t 4)⟩, ⟨some 24, none, .call .pure 13 [(.t 23)]⟩, ⟨some 25, none, .minmax true [(.t 22), (.t 24)]⟩, ⟨some 26, none, .bin .num .gtr (.t 25) (.c (.int .i64 2000))⟩, ⟨some 27, none, .mov (.t 26)⟩, ⟨some 28, some (27, false), .mov (.t 2)⟩, ⟨some 29, some (27, false), .lenStr (.t 28)⟩, ⟨some 30, some (27, false), .bin .num .gtr (.t 29) (.c (.int .i64 300))⟩, ⟨some 31, none, .pick (.t 27) (.c (.bool true)) (.t 30)⟩]) <|
  .cond (.t 31) (.seq (.ops [⟨some 6, none, .mov (.c (.bool true))⟩]) <|
   .ret) (.skip)) <|
  .seq (.ops [⟨some 33, none, .loadN 4 (.t 3)⟩, ⟨some 34, none, .call .shared 14 [(.t 33)]⟩, ⟨some 32, none, .mov (.t 34)⟩, ⟨some 35, none, .extract 0 (.t 32)⟩, ⟨some 36, none, .extract 1 (.t 32)⟩, ⟨some 37, none, .extract 2 (.t 32)⟩, ⟨some 7, none, .alloc [(.int .i64 0), (.int .i64 0), (.int .i64 0)]⟩, ⟨some 8, none, .alloc [(.int .i64 0), (.int .i64 0), (.int .i64 0)]⟩, ⟨none, none, .storeN 3 (.t 7) (.t 35)⟩, ⟨none, none, .storeN 3 (.t 8) (.t 36)⟩, ⟨some 9, none, .mov (.t 37)⟩]) <|
  .seq (.seq (.ops [⟨some 38, none, .loadN 4 (.t 3)⟩, ⟨some 39, none, .call .pure 15 [(.t 38)]⟩, ⟨some 40, none, .un .not (.t 39)⟩]) <|
  .cond (.t 40) (.ops [⟨some 41, none, .build [(.int .i64 0), (.int .i64 0), (.int .i64 0)] []⟩, ⟨none, none, .storeN 3 (.t 7) (.t 41)⟩]) (.skip)) <|
  .seq (.ops [⟨some 43, none, .loadN 4 (.t 3)⟩, ⟨some 44, none, .mov (.t 2)⟩, ⟨some 45, none, .call .shared 16 [(.t 43), (.t 44)]⟩, ⟨some 42, none, .mov (.t 45)⟩, ⟨some 46, none, .extract 0 (.t 42)⟩, ⟨some 47, none, .extract 1 (.t 42)⟩, ⟨some 10, none, .mov (.t 46)⟩, ⟨some 11, none, .mov (.t 47)⟩]) <|
  .seq (.ops [⟨some 48, none, .loadN 4 (.t 3)⟩, ⟨some 49, none, .mov (.t 2)⟩, ⟨some 50, none, .call .pure 17 [(.t 48), (.t 49)]⟩, ⟨some 12, none, .mov (.t 50)⟩]) <|
  .seq (.seq (.draw [] [⟨some 51, none, .loadN 4 (.t 3)⟩, ⟨some 52, none, .call .shared 18 [(.t 51)]⟩, ⟨some 53, none, .loadN 4 (.t 3)⟩, ⟨some 54, none, .call .shared 19 [(.t 53)]⟩, ⟨some 55, none, .bin .bool .neq (.t 52) (.t 54)⟩, ⟨some 56, none, .mov (.t 55)⟩, ⟨some 57, some (56, false), .loadN 4 (.t 3)⟩, ⟨some 58, some (56, false), .call .shared 20 [(.t 57)]⟩, ⟨some 59, some (56, false), .loadN 4 (.t 3)⟩, ⟨some 60, some (56, false), .call .shared 21 [(.t 59)]⟩, ⟨some 61, some (56, false), .bin .num .neq (.t 58) (.t 60)⟩, ⟨some 62, none, .pick (.t 56) (.c (.bool true)) (.t 61)⟩, ⟨some 63, none, .mov (.t 62)⟩, ⟨some 64, some (63, false), .loadN 4 (.t 3)⟩, ⟨some 65, some (63, false), .call .pure 22 [(.t 64)]⟩, ⟨some 66, some (63, false), .loadN 3 (.t 7)⟩, ⟨some 67, some (63, false), .bin (.agg [.i, .i, .i]) .neq (.t 65) (.t 66)⟩, ⟨some 68, none, .pick (.t 63) (.c (.bool true)) (.t 67)⟩, ⟨some 69, none, .mov (.t 68)⟩, ⟨some 70, some (69, false), .mov (.t 11)⟩, ⟨some 71, some (69, false), .mov (.t 12)⟩, ⟨some 72, some (69, false), .bin .num .geq (.t 71) (.c (.int .i64 0))⟩, ⟨some 73, some (69, false), .bin .bool .neq (.t 70) (.t 72)⟩, ⟨some 74, none, .pick (.t 69) (.c (.bool true)) (.t 73)⟩, ⟨some 75, none, .mov (.t 74)⟩, ⟨some 76, some (75, false), .mov (.t 10)⟩, ⟨some 77, some (75, false), .mov (.t 12)⟩, ⟨some 78, some (75, false), .minmax true [(.t 77), (.c (.int .i64 0))]⟩, ⟨some 79, some (75, false), .bin .num .neq (.t 76) (.t 78)⟩, ⟨some 80, none, .pick (.t 75) (.c (.bool true)) (.t 79)⟩, ⟨some 81, none, .mov (.t 80)⟩, ⟨some 82, some (81, false), .loadN 4 (.t 3)⟩, ⟨some 83, some (81, false), .loadN 4 (.t 4)⟩, ⟨some 84, some (81, false), .call .pure 23 [(.t 82), (.t 83)]⟩, ⟨some 85, some (81, false), .loadN 4 (.t 3)⟩, ⟨some 86, some (81, false), .loadN 4 (.t 4)⟩, ⟨some 87, some (81, false), .call .pure 24 [(.t 85), (.t 86)]⟩, ⟨some 88, some (81, false), .bin .bool .neq (.t 84) (.t 87)⟩, ⟨some 89, none, .pick (.t 81) (.c (.bool true)) (.t 88)⟩] [(2, 1), (8, 7)]) <|
  .cond (.t 89) (.seq (.ops [⟨some 6, none, .mov (.c (.bool false))⟩]) <|
   .ret) (.skip)) <|
  .seq (.ops [⟨some 90, none, .loadN 4 (.t 3)⟩, ⟨some 91, none, .loadN 4 (.t 4)⟩, ⟨some 92, none, .call .pure 25 [(.t 90), (.t 91)]⟩, ⟨some 93, none, .loadN 4 (.t 3)⟩, ⟨some 94, none, .loadN 4 (.t 4)⟩, ⟨some 95, none, .call .pure 26 [(.t 93), (.t 94)]⟩, ⟨some 13, none, .mov (.t 92)⟩, ⟨some 14, none, .mov (.t 95)⟩]) <|
  .seq (.ops [⟨some 96, none, .loadN 4 (.t 3)⟩, ⟨some 97, none, .loadN 4 (.t 4)⟩, ⟨some 98, none, .call .pure 27 [(.t 96), (.t 97)]⟩, ⟨some 99, none, .loadN 4 (.t 3)⟩, ⟨some 100, none, .loadN 4 (.t 4)⟩, ⟨some 101, none, .call .pure 28 [(.t 99), (.t 100)]⟩, ⟨some 15, none, .mov (.t 98)⟩, ⟨some 16, none, .mov (.t 101)⟩]) <|
  .seq (.seq (.ops [⟨some 102, none, .mov (.t 13)⟩, ⟨some 103, none, .lenS (.t 102)⟩, ⟨some 104, none, .mov (.t 14)⟩, ⟨some 105, none, .lenS (.t 104)⟩, ⟨some 106, none, .bin .num .neq (.t 103) (.t 105)⟩, ⟨some 107, none, .mov (.t 106)⟩, ⟨some 108, some (107, false), .mov (.t 15)⟩, ⟨some 109, some (107, false), .lenS (.t 108)⟩, ⟨some 110, some (107, false), .mov (.t 16)⟩, ⟨some 111, some (107, false), .lenS (.t 110)⟩, ⟨some 112, some (107, false), .bin .num .neq (.t 109) (.t 111)⟩, ⟨some 113, none, .pick (.t 107) (.c (.bool true)) (.t 112)⟩]) <|
  .cond (.t 113) (.seq (.ops [⟨some 6, none, .mov (.c (.bool false))⟩]) <|
   .ret) (.skip)) <|
  .seq (.seq (.ops [⟨some 114, none, .mov (.t 13)⟩, ⟨some 115, none, .lenS (.t 114)⟩, ⟨some 116, none, .mov (.c (.int .i64 0))⟩]) <|
  .block 0 (.loop (.seq (.ops [⟨some 117, none, .bin .num .lss (.t 116) (.t 115)⟩]) <|
    .seq (.cond (.t 117) (.skip) (.exit 0)) <|
    .seq (.block 1 (.seq (.ops [⟨some 118, none, .mov (.t 116)⟩, ⟨some 17, none, .mov (.t 118)⟩]) <|
     .seq (.ops [⟨some 119, none, .mov (.t 13)⟩, ⟨some 120, none, .mov (.t 17)⟩, ⟨some 121, none, .idxAddrS 3 (.t 119) (.t 120)⟩, ⟨some 122, none, .loadN 3 (.t 121)⟩, ⟨some 123, none, .mov (.t 14)⟩, ⟨some 124, none, .mov (.t 17)⟩, ⟨some 125, none, .idxAddrS 3 (.t 123) (.t 124)⟩, ⟨some 126, none, .loadN 3 (.t 125)⟩, ⟨some 127, none, .bin (.agg [.b, .b, .b]) .neq (.t 122) (.t 126)⟩]) <|
     .cond (.t 127) (.seq (.ops [⟨some 6, none, .mov (.c (.bool false))⟩]) <|
      .ret) (.skip))) <|
    .ops [⟨some 128, none, .bin .num .add (.t 116) (.c (.int .i64 1))⟩, ⟨some 116, none, .mov (.t 128)⟩]))) <|
  .seq (.seq (.ops [⟨some 129, none, .mov (.t 15)⟩, ⟨some 130, none, .lenS (.t 129)⟩, ⟨some 131, none, .mov (.c (.int .i64 0))⟩]) <|
  .block 2 (.loop (.seq (.ops [⟨some 132, none, .bin .num .lss (.t 131) (.t 130)⟩]) <|
    .seq (.cond (.t 132) (.skip) (.exit 2)) <|
    .seq (.block 3 (.seq (.ops [⟨some 133, none, .mov (.t 131)⟩, ⟨some 18, none, .mov (.t 133)⟩]) <|
     .seq (.ops [⟨some 134, none, .mov (.t 15)⟩, ⟨some 135, none, .mov (.t 18)⟩, ⟨some 136, none, .idxAddrS 1 (.t 134) (.t 135)⟩, ⟨some 137, none, .load1 (.t 136)⟩, ⟨some 138, none, .mov (.t 16)⟩, ⟨some 139, none, .mov (.t 18)⟩, ⟨some 140, none, .idxAddrS 1 (.t 138) (.t 139)⟩, ⟨some 141, none, .load1 (.t 140)⟩, ⟨some 142, none, .bin .num .neq (.t 137) (.t 141)⟩]) <|
     .cond (.t 142) (.seq (.ops [⟨some 6, none, .mov (.c (.bool false))⟩]) <|
      .ret) (.skip))) <|
    .ops [⟨some 143, none, .bin .num .add (.t 131) (.c (.int .i64 1))⟩, ⟨some 131, none, .mov (.t 143)⟩]))) <|
  .seq (.ops [⟨some 6, none, .mov (.c (.bool true))⟩]) <|
  .ret
def v4 : VFunc := ⟨144, [.tmp 6], c4⟩
/-- berthing/berthinglaw05.SpecResizes -/
def c5 : VCode :=
  .seq (.ops [⟨some 2, none, .box (.t 0)⟩, ⟨some 4, none, .mov (.c (.bool false))⟩]) <|
  .seq (.seq (.ops [⟨some 9, none, .call .pure 8 []⟩, ⟨some 10, none, .un .not (.t 9)⟩]) <|
  .cond (.t 10) (.seq (.ops [⟨some 4, none, .mov (.c (.bool false))⟩]) <|
   .ret) (.skip)) <|
  .seq (.seq (.ops [⟨some 11, none, .loadN 4 (.t 2)⟩, ⟨some 12, none, .call .pure 13 [(.t 11)]⟩, ⟨some 13, none, .bin .num .gtr (.t 12) (.c (.int .i64 2000))⟩, ⟨some 14, none, .mov (.t 13)⟩, ⟨some 15, some (14, false), .mov (.t 1)⟩, ⟨some 16, some (14, false), .lenS (.t 15)⟩, ⟨some 17, some (14, false), .bin .num .gtr (.t 16) (.c (.int .i64 30))⟩, ⟨some 18, none, .pick (.t 14) (.c (.bool true)) (.t 17)⟩]) <|
  .cond (.t 18) (.seq (.ops [⟨some 4, none, .mov (.c (.bool true))⟩]) <|
   .ret) (.skip)) <|
  .seq (.ops [⟨some 20, none, .loadN 4 (.t 2)⟩, ⟨some 21, none, .mov (.t 1)⟩, ⟨some 22, none, .call .pure 29 [(.t 20), (.t 21)]⟩, ⟨some 19, none, .mov (.t 22)⟩, ⟨some 23, none, .extract 0 (.t 19)⟩, ⟨some 24, none, .extract 1 (.t 19)⟩, ⟨some 5, none, .alloc [(.str ⟨#[]⟩), (.int .i64 0), (.int .i64 0), (.sl .nil 0 [])]⟩, ⟨none, none, .storeN 4 (.t 5) (.t 23)⟩, ⟨some 6, none, .mov (.t 24)⟩]) <|
  .seq (.ops [⟨some 26, none, .loadN 4 (.t 2)⟩, ⟨some 27, none, .mov (.t 1)⟩, ⟨some 28, none, .call .pure 30 [(.t 26), (.t 27)]⟩, ⟨some 25, none, .mov (.t 28)⟩, ⟨some 29, none, .extract 0 (.t 25)⟩, ⟨some 30, none, .extract 1 (.t 25)⟩, ⟨some 7, none, .alloc [(.str ⟨#[]⟩), (.int .i64 0), (.int .i64 0), (.sl .nil 0 [])]⟩, ⟨none, none, .storeN 4 (.t 7) (.t 29)⟩, ⟨some 8, none, .mov (.t 30)⟩]) <|
  .seq (.ops [⟨some 31, none, .mov (.t 6)⟩, ⟨some 32, none, .mov (.t 8)⟩, ⟨some 33, none, .bin .num .eql (.t 31) (.t 32)⟩, ⟨some 34, none, .mov (.t 33)⟩, ⟨some 35, some (34, true), .loadN 4 (.t 5)⟩, ⟨some 36, some (34, true), .loadN 4 (.t 7)⟩, ⟨some 37, some (34, true), .call .pure 24 [(.t 35), (.t 36)]⟩, ⟨some 38, none, .pick (.t 34) (.t 37) (.c (.bool false))⟩, ⟨some 4, none, .mov (.t 38)⟩]) <|
  .ret
def v5 : VFunc := ⟨39, [.tmp 4], c5⟩
/-- berthing/berthinglaw05.SpecKeeps -/
def c6 : VCode :=
  .seq (.ops [⟨some 2, none, .box (.t 0)⟩, ⟨some 4, none, .mov (.c (.bool false))⟩]) <|
  .seq (.seq (.ops [⟨some 12, none, .call .pure 8 []⟩, ⟨some 13, none, .un .not (.t 12)⟩]) <|
  .cond (.t 13) (.seq (.ops [⟨some 4, none, .mov (.c (.bool false))⟩]) <|
   .ret) (.skip)) <|
  .seq (.seq (.ops [⟨some 14, none, .loadN 4 (.t 2)⟩, ⟨some 15, none, .call .pure 13 [(.t 14)]⟩, ⟨some 16, none, .bin .num .gtr (.t 15) (.c (.int .i64 2000))⟩, ⟨some 17, none, .mov (.t 16)⟩, ⟨some 18, some (17, false), .mov (.t 1)⟩, ⟨some 19, some (17, false), .lenS (.t 18)⟩, ⟨some 20, some (17, false), .bin .num .gtr (.t 19) (.c (.int .i64 30))⟩, ⟨some 21, none, .pick (.t 17) (.c (.bool true)) (.t 20)⟩]) <|
  .cond (.t 21) (.seq (.ops [⟨some 4, none, .mov (.c (.bool true))⟩]) <|
   .ret) (.skip)) <|
  .seq (.ops [⟨some 23, none, .loadN 4 (.t 2)⟩, ⟨some 24, none, .mov (.t 1)⟩, ⟨some 25, none, .call .pure 29 [(.t 23), (.t 24)]⟩, ⟨some 22, none, .mov (.t 25)⟩, ⟨some 26, none, .extract 0 (.t 22)⟩, ⟨some 27, none, .extract 1 (.t 22)⟩, ⟨some 5, none, .alloc [(.str ⟨#[]⟩), (.int .i64 0), (.int .i64 0), (.sl .nil 0 [])]⟩, ⟨none, none, .storeN 4 (.t 5) (.t 26)⟩, ⟨some 6, none, .mov (.t 27)⟩]) <|
  .seq (.seq (.ops [⟨some 28, none, .mov (.t 6)⟩, ⟨some 29, none, .bin .num .neq (.t 28) (.c (.int .i64 0))⟩]) <|
  .cond (.t 29) (.seq (.ops [⟨some 30, none, .fieldAddr 3 (.t 5)⟩, ⟨some 31, none, .load1 (.t 30)⟩, ⟨some 32, none, .lenS (.t 31)⟩, ⟨some 33, none, .bin .num .eql (.t 32) (.c (.int .i64 0))⟩, ⟨some 4, none, .mov (.t 33)⟩]) <|
   .ret) (.skip)) <|
  .seq (.seq (.draw [] [⟨some 34, none, .loadN 4 (.t 5)⟩, ⟨some 35, none, .call .shared 18 [(.t 34)]⟩, ⟨some 36, none, .un .not (.t 35)⟩, ⟨some 37, none, .mov (.t 36)⟩, ⟨some 38, some (37, false), .loadN 4 (.t 5)⟩, ⟨some 39, some (37, false), .call .shared 20 [(.t 38)]⟩, ⟨some 40, some (37, false), .loadN 4 (.t 2)⟩, ⟨some 41, some (37, false), .call .shared 20 [(.t 40)]⟩, ⟨some 42, some (37, false), .bin .num .neq (.t 39) (.t 41)⟩, ⟨some 43, none, .pick (.t 37) (.c (.bool true)) (.t 42)⟩, ⟨some 44, none, .mov (.t 43)⟩, ⟨some 45, some (44, false), .fieldAddr 0 (.t 5)⟩, ⟨some 46, some (44, false), .load1 (.t 45)⟩, ⟨some 47, some (44, false), .fieldAddr 0 (.t 2)⟩, ⟨some 48, some (44, false), .load1 (.t 47)⟩, ⟨some 49, some (44, false), .bin .num .neq (.t 46) (.t 48)⟩, ⟨some 50, none, .pick (.t 44) (.c (.bool true)) (.t 49)⟩, ⟨some 51, none, .mov (.t 50)⟩, ⟨some 52, some (51, false), .fieldAddr 1 (.t 5)⟩, ⟨some 53, some (51, false), .load1 (.t 52)⟩, ⟨some 54, some (51, false), .fieldAddr 1 (.t 2)⟩, ⟨some 55, some (51, false), .load1 (.t 54)⟩, ⟨some 56, some (51, false), .bin .num .neq (.t 53) (.t 55)⟩, ⟨some 57, none, .pick (.t 51) (.c (.bool true)) (.t 56)⟩, ⟨some 58, none, .mov (.t 57)⟩, ⟨some 59, some (58, false), .fieldAddr 2 (.t 5)⟩, ⟨some 60, some (58, false), .load1 (.t 59)⟩, ⟨some 61, some (58, false), .fieldAddr 2 (.t 2)⟩, ⟨some 62, some (58, false), .load1 (.t 61)⟩, ⟨some 63, some (58, false), .bin .num .neq (.t 60) (.t 62)⟩, ⟨some 64, none, .pick (.t 58) (.c (.bool true)) (.t 63)⟩, ⟨some 65, none, .mov (.t 64)⟩, ⟨some 66, some (65, false), .fieldAddr 3 (.t 5)⟩, ⟨some 67, some (65, false), .load1 (.t 66)⟩, ⟨some 68, some (65, false), .lenS (.t 67)⟩, ⟨some 69, some (65, false), .fieldAddr 3 (.t 2)⟩, ⟨some 70, some (65, false), .load1 (.t 69)⟩, ⟨some 71, some (65, false), .lenS (.t 70)⟩, ⟨some 72, some (65, false), .bin .num .neq (.t 68) (.t 71)⟩, ⟨some 73, none, .pick (.t 65) (.c (.bool true)) (.t 72)⟩] [(6, 5)]) <|
  .cond (.t 73) (.seq (.ops [⟨some 4, none, .mov (.c (.bool false))⟩]) <|
   .ret) (.skip)) <|
  .seq (.seq (.ops [⟨some 74, none, .fieldAddr 3 (.t 5)⟩, ⟨some 75, none, .load1 (.t 74)⟩, ⟨some 76, none, .lenS (.t 75)⟩, ⟨some 77, none, .mov (.c (.int .i64 0))⟩]) <|
  .block 0 (.loop (.seq (.ops [⟨some 78, none, .bin .num .lss (.t 77) (.t 76)⟩]) <|
    .seq (.cond (.t 78) (.skip) (.exit 0)) <|
    .seq (.block 1 (.seq (.ops [⟨some 79, none, .mov (.t 77)⟩, ⟨some 80, none, .idxAddrS 10 (.t 75) (.t 77)⟩, ⟨some 81, none, .loadN 10 (.t 80)⟩, ⟨some 8, none, .alloc [(.str ⟨#[]⟩), (.int .i64 0), (.int .i64 0), (.int .i64 0), (.int .i64 0), (.int .i64 0), (.int .i64 0), (.bool false), (.bool false), (.bool false)]⟩, ⟨some 7, none, .mov (.t 79)⟩, ⟨none, none, .storeN 10 (.t 8) (.t 81)⟩]) <|
     .seq (.ops [⟨some 82, none, .fieldAddr 3 (.t 2)⟩, ⟨some 83, none, .load1 (.t 82)⟩, ⟨some 84, none, .mov (.t 7)⟩, ⟨some 85, none, .idxAddrS 10 (.t 83) (.t 84)⟩, ⟨some 86, none, .loadN 10 (.t 85)⟩, ⟨some 9, none, .alloc [(.str ⟨#[]⟩), (.int .i64 0), (.int .i64 0), (.int .i64 0), (.int .i64 0), (.int .i64 0), (.int .i64 0), (.bool false), (.bool false), (.bool false)]⟩, ⟨none, none, .storeN 10 (.t 9) (.t 86)⟩]) <|
     .seq (.seq (.ops [⟨some 87, none, .mov (.t 1)⟩, ⟨some 88, none, .lenS (.t 87)⟩, ⟨some 89, none, .mov (.c (.int .i64 0))⟩]) <|
     .block 2 (.loop (.seq (.ops [⟨some 90, none, .bin .num .lss (.t 89) (.t 88)⟩]) <|
       .seq (.cond (.t 90) (.skip) (.exit 2)) <|
       .seq (.block 3 (.seq (.ops [⟨some 91, none, .idxAddrS 7 (.t 87) (.t 89)⟩, ⟨some 92, none, .loadN 7 (.t 91)⟩, ⟨some 11, none, .alloc [(.str ⟨#[]⟩), (.int .i64 0), (.int .i64 0), (.int .i64 0), (.int .i64 0), (.int .i64 0), (.int .i64 0)]⟩, ⟨none, none, .storeN 7 (.t 11) (.t 92)⟩]) <|
        .seq (.ops [⟨some 93, none, .fieldAddr 0 (.t 11)⟩, ⟨some 94, none, .load1 (.t 93)⟩, ⟨some 95, none, .fieldAddr 0 (.t 9)⟩, ⟨some 96, none, .load1 (.t 95)⟩, ⟨some 97, none, .bin .num .eql (.t 94) (.t 96)⟩]) <|
        .cond (.t 97) (.draw [] [⟨some 98, none, .fieldAddr 1 (.t 11)⟩, ⟨some 99, none, .loadN 3 (.t 98)⟩, ⟨some 100, none, .fieldAddr 4 (.t 11)⟩, ⟨some 101, none, .loadN 3 (.t 100)⟩, ⟨some 102, none, .fieldAddr 1 (.t 9)⟩, ⟨none, none, .storeN 3 (.t 102) (.t 99)⟩, ⟨some 103, none, .fieldAddr 4 (.t 9)⟩, ⟨none, none, .storeN 3 (.t 103) (.t 101)⟩] [(3, 5)]) (.skip))) <|
       .ops [⟨some 104, none, .bin .num .add (.t 89) (.c (.int .i64 1))⟩, ⟨some 89, none, .mov (.t 104)⟩]))) <|
     .seq (.ops [⟨some 105, none, .loadN 10 (.t 8)⟩, ⟨some 106, none, .loadN 10 (.t 9)⟩, ⟨some 107, none, .bin (.agg [.s, .i, .i, .i, .i, .i, .i, .b, .b, .b]) .neq (.t 105) (.t 106)⟩]) <|
     .cond (.t 107) (.seq (.ops [⟨some 4, none, .mov (.c (.bool false))⟩]) <|
      .ret) (.skip))) <|
    .ops [⟨some 108, none, .bin .num .add (.t 77) (.c (.int .i64 1))⟩, ⟨some 77, none, .mov (.t 108)⟩]))) <|
  .seq (.ops [⟨some 4, none, .mov (.c (.bool true))⟩]) <|
  .ret
def v6 : VFunc := ⟨109, [.tmp 4], c6⟩
/-- berthing/berthinglaw05.SpecAgain -/
def c7 : VCode :=
  .seq (.ops [⟨some 2, none, .box (.t 0)⟩, ⟨some 4, none, .mov (.c (.bool false))⟩]) <|
  .seq (.seq (.ops [⟨some 14, none, .call .pure 8 []⟩, ⟨some 15, none, .un .not (.t 14)⟩]) <|
  .cond (.t 15) (.seq (.ops [⟨some 4, none, .mov (.c (.bool false))⟩]) <|
   .ret) (.skip)) <|
  .seq (.seq (.ops [⟨some 16, none, .loadN 4 (.t 2)⟩, ⟨some 17, none, .call .pure 13 [(.t 16)]⟩, ⟨some 18, none, .bin .num .gtr (.t 17) (.c (.int .i64 2000))⟩, ⟨some 19, none, .mov (.t 18)⟩, ⟨some 20, some (19, false), .mov (.t 1)⟩, ⟨some 21, some (19, false), .lenS (.t 20)⟩, ⟨some 22, some (19, false), .bin .num .gtr (.t 21) (.c (.int .i64 30))⟩, ⟨some 23, none, .pick (.t 19) (.c (.bool true)) (.t 22)⟩]) <|
  .cond (.t 23) (.seq (.ops [⟨some 4, none, .mov (.c (.bool true))⟩]) <|
   .ret) (.skip)) <|
  .seq (.seq (.ops [⟨some 25, none, .loadN 4 (.t 2)⟩, ⟨some 26, none, .mov (.t 1)⟩, ⟨some 27, none, .call .pure 29 [(.t 25), (.t 26)]⟩, ⟨some 24, none, .mov (.t 27)⟩, ⟨some 28, none, .extract 0 (.t 24)⟩, ⟨some 29, none, .extract 1 (.t 24)⟩, ⟨some 5, none, .alloc [(.str ⟨#[]⟩), (.int .i64 0), (.int .i64 0), (.sl .nil 0 [])]⟩, ⟨none, none, .storeN 4 (.t 5) (.t 28)⟩, ⟨some 6, none, .mov (.t 29)⟩]) <|
  .seq (.ops [⟨some 30, none, .mov (.t 6)⟩, ⟨some 31, none, .bin .num .eql (.t 30) (.c (.int .i64 0))⟩]) <|
  .cond (.t 31) (.seq (.ops [⟨some 33, none, .loadN 4 (.t 5)⟩, ⟨some 34, none, .mov (.t 1)⟩, ⟨some 35, none, .call .pure 29 [(.t 33), (.t 34)]⟩, ⟨some 32, none, .mov (.t 35)⟩, ⟨some 36, none, .extract 0 (.t 32)⟩, ⟨some 37, none, .extract 1 (.t 32)⟩, ⟨some 7, none, .alloc [(.str ⟨#[]⟩), (.int .i64 0), (.int .i64 0), (.sl .nil 0 [])]⟩, ⟨none, none, .storeN 4 (.t 7) (.t 36)⟩, ⟨some 8, none, .mov (.t 37)⟩]) <|
   .seq (.ops [⟨some 38, none, .mov (.t 8)⟩, ⟨some 39, none, .bin .num .neq (.t 38) (.c (.int .i64 0))⟩, ⟨some 40, none, .mov (.t 39)⟩, ⟨some 41, some (40, false), .loadN 4 (.t 5)⟩, ⟨some 42, some (40, false), .loadN 4 (.t 7)⟩, ⟨some 43, some (40, false), .call .pure 23 [(.t 41), (.t 42)]⟩, ⟨some 44, some (40, false), .un .not (.t 43)⟩, ⟨some 45, none, .pick (.t 40) (.c (.bool true)) (.t 44)⟩, ⟨some 46, none, .mov (.t 45)⟩, ⟨some 47, some (46, false), .loadN 4 (.t 5)⟩, ⟨some 48, some (46, false), .loadN 4 (.t 7)⟩, ⟨some 49, some (46, false), .call .pure 27 [(.t 47), (.t 48)]⟩, ⟨some 50, some (46, false), .lenS (.t 49)⟩, ⟨some 51, some (46, false), .bin .num .gtr (.t 50) (.c (.int .i64 0))⟩, ⟨some 52, none, .pick (.t 46) (.c (.bool true)) (.t 51)⟩]) <|
   .cond (.t 52) (.seq (.ops [⟨some 4, none, .mov (.c (.bool false))⟩]) <|
    .ret) (.skip)) (.skip)) <|
  .seq (.seq (.ops [⟨some 53, none, .loadN 4 (.t 2)⟩, ⟨some 54, none, .call .shared 18 [(.t 53)]⟩, ⟨some 55, none, .un .not (.t 54)⟩]) <|
  .cond (.t 55) (.seq (.ops [⟨some 4, none, .mov (.c (.bool true))⟩]) <|
   .ret) (.skip)) <|
  .seq (.ops [⟨some 9, none, .mov (.c (.sl .nil 0 []))⟩]) <|
  .seq (.seq (.ops [⟨some 56, none, .fieldAddr 3 (.t 2)⟩, ⟨some 57, none, .load1 (.t 56)⟩, ⟨some 58, none, .lenS (.t 57)⟩, ⟨some 59, none, .mov (.c (.int .i64 0))⟩]) <|
  .block 0 (.loop (.seq (.ops [⟨some 60, none, .bin .num .lss (.t 59) (.t 58)⟩]) <|
    .seq (.cond (.t 60) (.skip) (.exit 0)) <|
    .seq (.block 1 (.seq (.ops [⟨some 61, none, .idxAddrS 10 (.t 57) (.t 59)⟩, ⟨some 62, none, .loadN 10 (.t 61)⟩, ⟨some 11, none, .alloc [(.str ⟨#[]⟩), (.int .i64 0), (.int .i64 0), (.int .i64 0), (.int .i64 0), (.int .i64 0), (.int .i64 0), (.bool false), (.bool false), (.bool false)]⟩, ⟨none, none, .storeN 10 (.t 11) (.t 62)⟩]) <|
     .ops [⟨some 63, none, .mov (.t 9)⟩, ⟨some 64, none, .fieldAddr 0 (.t 11)⟩, ⟨some 65, none, .load1 (.t 64)⟩, ⟨some 66, none, .fieldAddr 1 (.t 11)⟩, ⟨some 67, none, .loadN 3 (.t 66)⟩, ⟨some 68, none, .fieldAddr 4 (.t 11)⟩, ⟨some 69, none, .loadN 3 (.t 68)⟩, ⟨some 70, none, .build [(.str ⟨#[]⟩), (.int .i64 0), (.int .i64 0), (.int .i64 0), (.int .i64 0), (.int .i64 0), (.int .i64 0)] [(0, 1, (.t 65)), (1, 3, (.t 67)), (4, 3, (.t 69))]⟩, ⟨some 71, none, .buildSlice false 7 1 [(.str ⟨#[]⟩), (.int .i64 0), (.int .i64 0), (.int .i64 0), (.int .i64 0), (.int .i64 0), (.int .i64 0)] [(0, 7, (.t 70))]⟩, ⟨some 72, none, .append false false 7 64 (.t 63) (.t 71)⟩, ⟨some 9, none, .mov (.t 72)⟩])) <|
    .ops [⟨some 73, none, .bin .num .add (.t 59) (.c (.int .i64 1))⟩, ⟨some 59, none, .mov (.t 73)⟩]))) <|
  .seq (.ops [⟨some 75, none, .loadN 4 (.t 2)⟩, ⟨some 76, none, .mov (.t 9)⟩, ⟨some 77, none, .call .pure 29 [(.t 75), (.t 76)]⟩, ⟨some 74, none, .mov (.t 77)⟩, ⟨some 78, none, .extract 0 (.t 74)⟩, ⟨some 79, none, .extract 1 (.t 74)⟩, ⟨some 12, none, .alloc [(.str ⟨#[]⟩), (.int .i64 0), (.int .i64 0), (.sl .nil 0 [])]⟩, ⟨none, none, .storeN 4 (.t 12) (.t 78)⟩, ⟨some 13, none, .mov (.t 79)⟩]) <|
  .seq (.ops [⟨some 80, none, .mov (.t 13)⟩, ⟨some 81, none, .bin .num .eql (.t 80) (.c (.int .i64 0))⟩, ⟨some 82, none, .mov (.t 81)⟩, ⟨some 83, some (82, true), .loadN 4 (.t 2)⟩, ⟨some 84, some (82, true), .loadN 4 (.t 12)⟩, ⟨some 85, some (82, true), .call .pure 23 [(.t 83), (.t 84)]⟩, ⟨some 86, none, .pick (.t 82) (.t 85) (.c (.bool false))⟩, ⟨some 4, none, .mov (.t 86)⟩]) <|
  .ret
def v7 : VFunc := ⟨87, [.tmp 4], c7⟩
/-- berthing/berthinglaw05.first -/
def c8 : VCode :=
  .seq (.ops [⟨some 0, none, .mov (.c (.bool false))⟩]) <|
  .seq (.ops [⟨some 11, none, .build [(.int .i64 0), (.int .i64 0), (.int .i64 0)] [(0, 1, (.c (.int .i64 1000))), (1, 1, (.c (.int .i64 1073741824)))]⟩, ⟨some 1, none, .alloc [(.int .i64 0), (.int .i64 0), (.int .i64 0)]⟩, ⟨none, none, .storeN 3 (.t 1) (.t 11)⟩]) <|
  .seq (.ops [⟨some 12, none, .loadN 3 (.t 1)⟩, ⟨some 13, none, .loadN 3 (.t 1)⟩, ⟨some 14, none, .build [(.bool false), (.bool false), (.bool false)] [(0, 1, (.c (.bool false))), (1, 1, (.c (.bool true))), (2, 1, (.c (.bool false)))]⟩, ⟨some 15, none, .build [(.str ⟨#[]⟩), (.int .i64 0), (.int .i64 0), (.int .i64 0), (.int .i64 0), (.int .i64 0), (.int .i64 0), (.bool false), (.bool false), (.bool false)] [(0, 1, (.c (.str ⟨#[97]⟩))), (1, 3, (.t 12)), (4, 3, (.t 13)), (7, 3, (.t 14))]⟩, ⟨some 16, none, .buildSlice false 10 1 [(.str ⟨#[]⟩), (.int .i64 0), (.int .i64 0), (.int .i64 0), (.int .i64 0), (.int .i64 0), (.int .i64 0), (.bool false), (.bool false), (.bool false)] [(0, 10, (.t 15))]⟩, ⟨some 17, none, .build [(.str ⟨#[]⟩), (.int .i64 0), (.int .i64 0), (.sl .nil 0 [])] [(0, 1, (.c (.str ⟨#[119, 101, 98]⟩))), (3, 1, (.t 16))]⟩, ⟨some 2, none, .alloc [(.str ⟨#[]⟩), (.int .i64 0), (.int .i64 0), (.sl .nil 0 [])]⟩, ⟨none, none, .storeN 4 (.t 2) (.t 17)⟩]) <|
  .seq (.ops [⟨some 18, none, .build [(.int .i64 0), (.int .i64 0), (.int .i64 0)] [(0, 1, (.c (.int .i64 500))), (1, 1, (.c (.int .i64 2147483648)))]⟩, ⟨some 3, none, .alloc [(.int .i64 0), (.int .i64 0), (.int .i64 0)]⟩, ⟨none, none, .storeN 3 (.t 3) (.t 18)⟩]) <|
  .seq (.ops [⟨some 20, none, .loadN 4 (.t 2)⟩, ⟨some 21, none, .loadN 3 (.t 3)⟩, ⟨some 22, none, .loadN 3 (.t 3)⟩, ⟨some 23, none, .build [(.str ⟨#[]⟩), (.int .i64 0), (.int .i64 0), (.int .i64 0), (.int .i64 0), (.int .i64 0), (.int .i64 0)] [(0, 1, (.c (.str ⟨#[97]⟩))), (1, 3, (.t 21)), (4, 3, (.t 22))]⟩, ⟨some 24, none, .buildSlice false 7 1 [(.str ⟨#[]⟩), (.int .i64 0), (.int .i64 0), (.int .i64 0), (.int .i64 0), (.int .i64 0), (.int .i64 0)] [(0, 7, (.t 23))]⟩, ⟨some 25, none, .call .pure 29 [(.t 20), (.t 24)]⟩, ⟨some 19, none, .mov (.t 25)⟩, ⟨some 26, none, .extract 0 (.t 19)⟩, ⟨some 27, none, .extract 1 (.t 19)⟩, ⟨some 4, none, .alloc [(.str ⟨#[]⟩), (.int .i64 0), (.int .i64 0), (.sl .nil 0 [])]⟩, ⟨none, none, .storeN 4 (.t 4) (.t 26)⟩, ⟨some 5, none, .mov (.t 27)⟩]) <|
  .seq (.ops [⟨some 29, none, .loadN 4 (.t 2)⟩, ⟨some 30, none, .build [(.str ⟨#[]⟩), (.int .i64 0), (.int .i64 0), (.int .i64 0), (.int .i64 0), (.int .i64 0), (.int .i64 0)] [(0, 1, (.c (.str ⟨#[98]⟩)))]⟩, ⟨some 31, none, .buildSlice false 7 1 [(.str ⟨#[]⟩), (.int .i64 0), (.int .i64 0), (.int .i64 0), (.int .i64 0), (.int .i64 0), (.int .i64 0)] [(0, 7, (.t 30))]⟩, ⟨some 32, none, .call .pure 29 [(.t 29), (.t 31)]⟩, ⟨some 28, none, .mov (.t 32)⟩, ⟨some 33, none, .extract 0 (.t 28)⟩, ⟨some 34, none, .extract 1 (.t 28)⟩, ⟨some 6, none, .alloc [(.str ⟨#[]⟩), (.int .i64 0), (.int .i64 0), (.sl .nil 0 [])]⟩, ⟨none, none, .storeN 4 (.t 6) (.t 33)⟩, ⟨some 7, none, .mov (.t 34)⟩]) <|
  .seq (.ops [⟨some 36, none, .loadN 4 (.t 2)⟩, ⟨some 37, none, .loadN 3 (.t 1)⟩, ⟨some 38, none, .build [(.str ⟨#[]⟩), (.int .i64 0), (.int .i64 0), (.int .i64 0), (.int .i64 0), (.int .i64 0), (.int .i64 0)] [(0, 1, (.c (.str ⟨#[97]⟩))), (1, 3, (.t 37))]⟩, ⟨some 39, none, .buildSlice false 7 1 [(.str ⟨#[]⟩), (.int .i64 0), (.int .i64 0), (.int .i64 0), (.int .i64 0), (.int .i64 0), (.int .i64 0)] [(0, 7, (.t 38))]⟩, ⟨some 40, none, .call .pure 29 [(.t 36), (.t 39)]⟩, ⟨some 35, none, .mov (.t 40)⟩, ⟨some 41, none, .extract 0 (.t 35)⟩, ⟨some 42, none, .extract 1 (.t 35)⟩, ⟨some 8, none, .alloc [(.str ⟨#[]⟩), (.int .i64 0), (.int .i64 0), (.sl .nil 0 [])]⟩, ⟨none, none, .storeN 4 (.t 8) (.t 41)⟩, ⟨some 9, none, .mov (.t 42)⟩]) <|
  .seq (.ops [⟨some 43, none, .loadN 4 (.t 2)⟩, ⟨some 44, none, .loadN 4 (.t 4)⟩, ⟨some 45, none, .call .pure 27 [(.t 43), (.t 44)]⟩, ⟨some 10, none, .mov (.t 45)⟩]) <|
  .seq (.ops [⟨some 46, none, .loadN 4 (.t 2)⟩, ⟨some 47, none, .call .shared 18 [(.t 46)]⟩, ⟨some 48, none, .mov (.t 47)⟩, ⟨some 49, some (48, true), .loadN 4 (.t 2)⟩, ⟨some 50, some (48, true), .call .shared 20 [(.t 49)]⟩, ⟨some 51, some (48, true), .bin .num .eql (.t 50) (.c (.int .i64 0))⟩, ⟨some 52, none, .pick (.t 48) (.t 51) (.c (.bool false))⟩, ⟨some 53, none, .mov (.t 52)⟩, ⟨some 54, some (53, true), .mov (.t 5)⟩, ⟨some 55, some (53, true), .bin .num .eql (.t 54) (.c (.int .i64 0))⟩, ⟨some 56, none, .pick (.t 53) (.t 55) (.c (.bool false))⟩, ⟨some 57, none, .mov (.t 56)⟩, ⟨some 58, some (57, true), .mov (.t 7)⟩, ⟨some 59, some (57, true), .bin .num .eql (.t 58) (.c (.int .i64 21))⟩, ⟨some 60, none, .pick (.t 57) (.t 59) (.c (.bool false))⟩, ⟨some 61, none, .mov (.t 60)⟩, ⟨some 62, some (61, true), .mov (.t 9)⟩, ⟨some 63, some (61, true), .bin .num .eql (.t 62) (.c (.int .i64 28))⟩, ⟨some 64, none, .pick (.t 61) (.t 63) (.c (.bool false))⟩, ⟨some 65, none, .mov (.t 64)⟩, ⟨some 66, some (65, true), .loadN 4 (.t 4)⟩, ⟨some 67, some (65, true), .call .pure 22 [(.t 66)]⟩, ⟨some 68, some (65, true), .loadN 3 (.t 3)⟩, ⟨some 69, some (65, true), .bin (.agg [.i, .i, .i]) .eql (.t 67) (.t 68)⟩, ⟨some 70, none, .pick (.t 65) (.t 69) (.c (.bool false))⟩, ⟨some 71, none, .mov (.t 70)⟩, ⟨some 72, some (71, true), .mov (.t 10)⟩, ⟨some 73, some (71, true), .lenS (.t 72)⟩, ⟨some 74, some (71, true), .bin .num .eql (.t 73) (.c (.int .i64 1))⟩, ⟨some 75, none, .pick (.t 71) (.t 74) (.c (.bool false))⟩, ⟨some 76, none, .mov (.t 75)⟩, ⟨some 77, some (76, true), .mov (.t 10)⟩, ⟨some 78, some (76, true), .idxAddrS 1 (.t 77) (.c (.int .i64 0))⟩, ⟨some 79, some (76, true), .load1 (.t 78)⟩, ⟨some 80, some (76, true), .bin .num .eql (.t 79) (.c (.str ⟨#[97]⟩))⟩, ⟨some 81, none, .pick (.t 76) (.t 80) (.c (.bool false))⟩, ⟨some 82, none, .mov (.t 81)⟩, ⟨some 83, some (82, true), .loadN 4 (.t 2)⟩, ⟨some 84, some (82, true), .loadN 4 (.t 2)⟩, ⟨some 85, some (82, true), .call .pure 23 [(.t 83), (.t 84)]⟩, ⟨some 86, none, .pick (.t 82) (.t 85) (.c (.bool false))⟩, ⟨some 87, none, .mov (.t 86)⟩, ⟨some 88, some (87, true), .loadN 4 (.t 2)⟩, ⟨some 89, some (87, true), .loadN 4 (.t 4)⟩, ⟨some 90, some (87, true), .call .pure 23 [(.t 88), (.t 89)]⟩, ⟨some 91, some (87, true), .un .not (.t 90)⟩, ⟨some 92, none, .pick (.t 87) (.t 91) (.c (.bool false))⟩, ⟨some 93, none, .mov (.t 92)⟩, ⟨some 94, some (93, true), .call .pure 9 [(.c (.str ⟨#[45, 97]⟩))]⟩, ⟨some 95, some (93, true), .un .not (.t 94)⟩, ⟨some 96, none, .pick (.t 93) (.t 95) (.c (.bool false))⟩, ⟨some 0, none, .mov (.t 96)⟩]) <|
  .ret
def v8 : VFunc := ⟨97, [.tmp 0], c8⟩
/-- berthing/spec.Name -/
def c9 : VCode :=
  .seq (.ops [⟨some 2, none, .mov (.c (.bool false))⟩]) <|
  .seq (.seq (.ops [⟨some 5, none, .mov (.t 0)⟩, ⟨some 6, none, .lenStr (.t 5)⟩, ⟨some 7, none, .bin .num .lss (.t 6) (.c (.int .i64 1))⟩, ⟨some 8, none, .mov (.t 7)⟩, ⟨some 9, some (8, false), .mov (.t 0)⟩, ⟨some 10, some (8, false), .lenStr (.t 9)⟩, ⟨some 11, some (8, false), .bin .num .gtr (.t 10) (.c (.int .i64 16))⟩, ⟨some 12, none, .pick (.t 8) (.c (.bool true)) (.t 11)⟩, ⟨some 13, none, .mov (.t 12)⟩, ⟨some 14, some (13, false), .mov (.t 0)⟩, ⟨some 15, some (13, false), .idxStr (.t 14) (.c (.int .i64 0))⟩, ⟨some 16, some (13, false), .bin .num .eql (.t 15) (.c (.int .u8 45))⟩, ⟨some 17, none, .pick (.t 13) (.c (.bool true)) (.t 16)⟩, ⟨some 18, none, .mov (.t 17)⟩, ⟨some 19, some (18, false), .mov (.t 0)⟩, ⟨some 20, some (18, false), .mov (.t 0)⟩, ⟨some 21, some (18, false), .lenStr (.t 20)⟩, ⟨some 22, some (18, false), .bin .num .sub (.t 21) (.c (.int .i64 1))⟩, ⟨some 23, some (18, false), .idxStr (.t 19) (.t 22)⟩, ⟨some 24, some (18, false), .bin .num .eql (.t 23) (.c (.int .u8 45))⟩, ⟨some 25, none, .pick (.t 18) (.c (.bool true)) (.t 24)⟩]) <|
  .cond (.t 25) (.seq (.ops [⟨some 2, none, .mov (.c (.bool false))⟩]) <|
   .ret) (.skip)) <|
  .seq (.seq (.ops [⟨some 26, none, .mov (.t 0)⟩, ⟨some 27, none, .lenStr (.t 26)⟩, ⟨some 28, none, .mov (.c (.int .i64 0))⟩]) <|
  .block 0 (.loop (.seq (.ops [⟨some 29, none, .bin .num .lss (.t 28) (.t 27)⟩]) <|
    .seq (.cond (.t 29) (.skip) (.exit 0)) <|
    .seq (.block 1 (.seq (.ops [⟨some 30, none, .mov (.t 28)⟩, ⟨some 3, none, .mov (.t 30)⟩]) <|
     .seq (.ops [⟨some 31, none, .mov (.t 0)⟩, ⟨some 32, none, .mov (.t 3)⟩, ⟨some 33, none, .idxStr (.t 31) (.t 32)⟩, ⟨some 4, none, .mov (.t 33)⟩]) <|
     .seq (.ops [⟨some 34, none, .mov (.t 4)⟩, ⟨some 35, none, .bin .num .lss (.t 34) (.c (.int .u8 97))⟩, ⟨some 36, none, .mov (.t 35)⟩, ⟨some 37, some (36, false), .mov (.t 4)⟩, ⟨some 38, some (36, false), .bin .num .gtr (.t 37) (.c (.int .u8 122))⟩, ⟨some 39, none, .pick (.t 36) (.c (.bool true)) (.t 38)⟩, ⟨some 40, none, .mov (.t 39)⟩, ⟨some 41, some (40, true), .mov (.t 4)⟩, ⟨some 42, some (40, true), .bin .num .lss (.t 41) (.c (.int .u8 48))⟩, ⟨some 43, some (40, true), .mov (.t 42)⟩, ⟨some 44, some (43, false), .mov (.t 4)⟩, ⟨some 45, some (43, false), .bin .num .gtr (.t 44) (.c (.int .u8 57))⟩, ⟨some 46, some (40, true), .pick (.t 43) (.c (.bool true)) (.t 45)⟩, ⟨some 47, none, .pick (.t 40) (.t 46) (.c (.bool false))⟩, ⟨some 48, none, .mov (.t 47)⟩, ⟨some 49, some (48, true), .mov (.t 4)⟩, ⟨some 50, some (48, true), .bin .num .neq (.t 49) (.c (.int .u8 45))⟩, ⟨some 51, none, .pick (.t 48) (.t 50) (.c (.bool false))⟩]) <|
     .cond (.t 51) (.seq (.ops [⟨some 2, none, .mov (.c (.bool false))⟩]) <|
      .ret) (.skip))) <|
    .ops [⟨some 52, none, .bin .num .add (.t 28) (.c (.int .i64 1))⟩, ⟨some 28, none, .mov (.t 52)⟩]))) <|
  .seq (.ops [⟨some 2, none, .mov (.c (.bool true))⟩]) <|
  .ret
def v9 : VFunc := ⟨53, [.tmp 2], c9⟩
/-- berthing/berthingref05.Name -/
def c10 : VCode :=
  .seq (.ops [⟨some 2, none, .mov (.c (.bool false))⟩]) <|
  .seq (.seq (.ops [⟨some 3, none, .mov (.c (.int .i64 0))⟩]) <|
  .block 0 (.loop (.seq (.seq (.ops [⟨some 6, none, .mov (.t 3)⟩, ⟨some 7, none, .mov (.t 0)⟩, ⟨some 8, none, .lenStr (.t 7)⟩, ⟨some 9, none, .bin .num .lss (.t 6) (.t 8)⟩]) <|
    .cond (.t 9) (.skip) (.exit 0)) <|
    .seq (.block 1 (.seq (.ops [⟨some 12, none, .mov (.t 0)⟩, ⟨some 13, none, .mov (.t 3)⟩, ⟨some 14, none, .idxStr (.t 12) (.t 13)⟩, ⟨some 4, none, .mov (.t 14)⟩]) <|
     .seq (.ops [⟨some 15, none, .mov (.t 4)⟩, ⟨some 16, none, .bin .num .geq (.t 15) (.c (.int .u8 97))⟩, ⟨some 17, none, .mov (.t 16)⟩, ⟨some 18, some (17, true), .mov (.t 4)⟩, ⟨some 19, some (17, true), .bin .num .leq (.t 18) (.c (.int .u8 122))⟩, ⟨some 20, none, .pick (.t 17) (.t 19) (.c (.bool false))⟩, ⟨some 21, none, .mov (.t 20)⟩, ⟨some 22, some (21, false), .mov (.t 4)⟩, ⟨some 23, some (21, false), .bin .num .geq (.t 22) (.c (.int .u8 48))⟩, ⟨some 24, some (21, false), .mov (.t 23)⟩, ⟨some 25, some (24, true), .mov (.t 4)⟩, ⟨some 26, some (24, true), .bin .num .leq (.t 25) (.c (.int .u8 57))⟩, ⟨some 27, some (21, false), .pick (.t 24) (.t 26) (.c (.bool false))⟩, ⟨some 28, none, .pick (.t 21) (.c (.bool true)) (.t 27)⟩, ⟨some 5, none, .mov (.t 28)⟩]) <|
     .seq (.ops [⟨some 29, none, .mov (.t 5)⟩, ⟨some 30, none, .un .not (.t 29)⟩, ⟨some 31, none, .mov (.t 30)⟩, ⟨some 32, some (31, true), .mov (.t 4)⟩, ⟨some 33, some (31, true), .bin .num .neq (.t 32) (.c (.int .u8 45))⟩, ⟨some 34, some (31, true), .mov (.t 33)⟩, ⟨some 35, some (34, false), .mov (.t 3)⟩, ⟨some 36, some (34, false), .bin .num .eql (.t 35) (.c (.int .i64 0))⟩, ⟨some 37, some (31, true), .pick (.t 34) (.c (.bool true)) (.t 36)⟩, ⟨some 38, some (31, true), .mov (.t 37)⟩, ⟨some 39, some (38, false), .mov (.t 3)⟩, ⟨some 40, some (38, false), .mov (.t 0)⟩, ⟨some 41, some (38, false), .lenStr (.t 40)⟩, ⟨some 42, some (38, false), .bin .num .sub (.t 41) (.c (.int .i64 1))⟩, ⟨some 43, some (38, false), .bin .num .eql (.t 39) (.t 42)⟩, ⟨some 44, some (31, true), .pick (.t 38) (.c (.bool true)) (.t 43)⟩, ⟨some 45, none, .pick (.t 31) (.t 44) (.c (.bool false))⟩]) <|
     .cond (.t 45) (.seq (.ops [⟨some 2, none, .mov (.c (.bool false))⟩]) <|
      .ret) (.skip))) <|
    .ops [⟨some 10, none, .mov (.t 3)⟩, ⟨some 11, none, .bin .num .add (.t 10) (.c (.int .i64 1))⟩, ⟨some 3, none, .mov (.t 11)⟩]))) <|
  .seq (.ops [⟨some 46, none, .mov (.t 0)⟩, ⟨some 47, none, .lenStr (.t 46)⟩, ⟨some 48, none, .bin .num .gtr (.t 47) (.c (.int .i64 0))⟩, ⟨some 49, none, .mov (.t 48)⟩, ⟨some 50, some (49, true), .mov (.t 0)⟩, ⟨some 51, some (49, true), .lenStr (.t 50)⟩, ⟨some 52, some (49, true), .bin .num .lss (.t 51) (.c (.int .i64 17))⟩, ⟨some 53, none, .pick (.t 49) (.t 52) (.c (.bool false))⟩, ⟨some 2, none, .mov (.t 53)⟩]) <|
  .ret
def v10 : VFunc := ⟨54, [.tmp 2], c10⟩
/-- berthing/spec.Container -/
def c11 : VCode :=
  .seq (.ops [⟨some 1, none, .box (.t 0)⟩, ⟨some 2, none, .mov (.c (.bool false))⟩]) <|
  .seq (.seq (.ops [⟨some 5, none, .fieldAddr 0 (.t 1)⟩, ⟨some 6, none, .load1 (.t 5)⟩, ⟨some 7, none, .call .pure 9 [(.t 6)]⟩, ⟨some 8, none, .un .not (.t 7)⟩, ⟨some 9, none, .mov (.t 8)⟩, ⟨some 10, some (9, false), .fieldAddr 1 (.t 1)⟩, ⟨some 11, some (9, false), .loadN 3 (.t 10)⟩, ⟨some 12, some (9, false), .call .pure 31 [(.t 11)]⟩, ⟨some 13, some (9, false), .un .not (.t 12)⟩, ⟨some 14, none, .pick (.t 9) (.c (.bool true)) (.t 13)⟩, ⟨some 15, none, .mov (.t 14)⟩, ⟨some 16, some (15, false), .fieldAddr 4 (.t 1)⟩, ⟨some 17, some (15, false), .loadN 3 (.t 16)⟩, ⟨some 18, some (15, false), .call .pure 31 [(.t 17)]⟩, ⟨some 19, some (15, false), .un .not (.t 18)⟩, ⟨some 20, none, .pick (.t 15) (.c (.bool true)) (.t 19)⟩, ⟨some 21, none, .mov (.t 20)⟩, ⟨some 22, some (21, false), .fieldAddr 1 (.t 1)⟩, ⟨some 23, some (21, false), .fieldAddr 2 (.t 22)⟩, ⟨some 24, some (21, false), .load1 (.t 23)⟩, ⟨some 25, some (21, false), .fieldAddr 4 (.t 1)⟩, ⟨some 26, some (21, false), .fieldAddr 2 (.t 25)⟩, ⟨some 27, some (21, false), .load1 (.t 26)⟩, ⟨some 28, some (21, false), .bin .num .neq (.t 24) (.t 27)⟩, ⟨some 29, none, .pick (.t 21) (.c (.bool true)) (.t 28)⟩]) <|
  .cond (.t 29) (.seq (.ops [⟨some 2, none, .mov (.c (.bool false))⟩]) <|
   .ret) (.skip)) <|
  .seq (.seq (.ops [⟨some 3, none, .mov (.c (.int .i64 0))⟩]) <|
  .block 0 (.loop (.seq (.seq (.ops [⟨some 30, none, .mov (.t 3)⟩, ⟨some 31, none, .bin .num .leq (.t 30) (.c (.int .i64 1))⟩]) <|
    .cond (.t 31) (.skip) (.exit 0)) <|
    .seq (.block 1 (.seq (.ops [⟨some 34, none, .fieldAddr 4 (.t 1)⟩, ⟨some 35, none, .loadN 3 (.t 34)⟩, ⟨some 36, none, .mov (.t 3)⟩, ⟨some 37, none, .call .pure 32 [(.t 35), (.t 36)]⟩, ⟨some 4, none, .mov (.t 37)⟩]) <|
     .seq (.ops [⟨some 38, none, .mov (.t 4)⟩, ⟨some 39, none, .bin .num .gtr (.t 38) (.c (.int .i64 0))⟩, ⟨some 40, none, .mov (.t 39)⟩, ⟨some 41, some (40, true), .mov (.t 4)⟩, ⟨some 42, some (40, true), .fieldAddr 1 (.t 1)⟩, ⟨some 43, some (40, true), .loadN 3 (.t 42)⟩, ⟨some 44, some (40, true), .mov (.t 3)⟩, ⟨some 45, some (40, true), .call .pure 32 [(.t 43), (.t 44)]⟩, ⟨some 46, some (40, true), .bin .num .lss (.t 41) (.t 45)⟩, ⟨some 47, none, .pick (.t 40) (.t 46) (.c (.bool false))⟩]) <|
     .cond (.t 47) (.seq (.ops [⟨some 2, none, .mov (.c (.bool false))⟩]) <|
      .ret) (.skip))) <|
    .ops [⟨some 32, none, .mov (.t 3)⟩, ⟨some 33, none, .bin .num .add (.t 32) (.c (.int .i64 1))⟩, ⟨some 3, none, .mov (.t 33)⟩]))) <|
  .seq (.ops [⟨some 2, none, .mov (.c (.bool true))⟩]) <|
  .ret
def v11 : VFunc := ⟨48, [.tmp 2], c11⟩
/-- berthing/berthingref05.Container -/
def c12 : VCode :=
  .seq (.ops [⟨some 1, none, .box (.t 0)⟩, ⟨some 2, none, .mov (.c (.bool false))⟩]) <|
  .seq (.draw [(3, [(.int .i64 0), (.int .i64 0), (.int .i64 0)]), (4, [(.int .i64 0), (.int .i64 0), (.int .i64 0)])] [⟨some 5, none, .fieldAddr 1 (.t 1)⟩, ⟨some 6, none, .loadN 3 (.t 5)⟩, ⟨some 7, none, .fieldAddr 4 (.t 1)⟩, ⟨some 8, none, .loadN 3 (.t 7)⟩, ⟨none, none, .idle⟩, ⟨none, none, .idle⟩, ⟨none, none, .storeN 3 (.t 3) (.t 6)⟩, ⟨none, none, .storeN 3 (.t 4) (.t 8)⟩] [(3, 6)]) <|
  .seq (.ops [⟨some 9, none, .fieldAddr 0 (.t 1)⟩, ⟨some 10, none, .load1 (.t 9)⟩, ⟨some 11, none, .call .pure 10 [(.t 10)]⟩, ⟨some 12, none, .mov (.t 11)⟩, ⟨some 13, some (12, true), .loadN 3 (.t 3)⟩, ⟨some 14, some (12, true), .call .pure 33 [(.t 13)]⟩, ⟨some 15, none, .pick (.t 12) (.t 14) (.c (.bool false))⟩, ⟨some 16, none, .mov (.t 15)⟩, ⟨some 17, some (16, true), .loadN 3 (.t 4)⟩, ⟨some 18, some (16, true), .call .pure 33 [(.t 17)]⟩, ⟨some 19, none, .pick (.t 16) (.t 18) (.c (.bool false))⟩, ⟨some 20, none, .mov (.t 19)⟩, ⟨some 21, some (20, true), .fieldAddr 0 (.t 4)⟩, ⟨some 22, some (20, true), .load1 (.t 21)⟩, ⟨some 23, some (20, true), .bin .num .eql (.t 22) (.c (.int .i64 0))⟩, ⟨some 24, some (20, true), .mov (.t 23)⟩, ⟨some 25, some (24, false), .fieldAddr 0 (.t 4)⟩, ⟨some 26, some (24, false), .load1 (.t 25)⟩, ⟨some 27, some (24, false), .fieldAddr 0 (.t 3)⟩, ⟨some 28, some (24, false), .load1 (.t 27)⟩, ⟨some 29, some (24, false), .bin .num .geq (.t 26) (.t 28)⟩, ⟨some 30, some (20, true), .pick (.t 24) (.c (.bool true)) (.t 29)⟩, ⟨some 31, none, .pick (.t 20) (.t 30) (.c (.bool false))⟩, ⟨some 32, none, .mov (.t 31)⟩, ⟨some 33, some (32, true), .fieldAddr 1 (.t 4)⟩, ⟨some 34, some (32, true), .load1 (.t 33)⟩, ⟨some 35, some (32, true), .bin .num .eql (.t 34) (.c (.int .i64 0))⟩, ⟨some 36, some (32, true), .mov (.t 35)⟩, ⟨some 37, some (36, false), .fieldAddr 1 (.t 4)⟩, ⟨some 38, some (36, false), .load1 (.t 37)⟩, ⟨some 39, some (36, false), .fieldAddr 1 (.t 3)⟩, ⟨some 40, some (36, false), .load1 (.t 39)⟩, ⟨some 41, some (36, false), .bin .num .geq (.t 38) (.t 40)⟩, ⟨some 42, some (32, true), .pick (.t 36) (.c (.bool true)) (.t 41)⟩, ⟨some 43, none, .pick (.t 32) (.t 42) (.c (.bool false))⟩, ⟨some 44, none, .mov (.t 43)⟩, ⟨some 45, some (44, true), .fieldAddr 2 (.t 3)⟩, ⟨some 46, some (44, true), .load1 (.t 45)⟩, ⟨some 47, some (44, true), .fieldAddr 2 (.t 4)⟩, ⟨some 48, some (44, true), .load1 (.t 47)⟩, ⟨some 49, some (44, true), .bin .num .eql (.t 46) (.t 48)⟩, ⟨some 50, none, .pick (.t 44) (.t 49) (.c (.bool false))⟩, ⟨some 2, none, .mov (.t 50)⟩]) <|
  .ret
def v12 : VFunc := ⟨51, [.tmp 2], c12⟩
/-- berthing/berthinglaw05.Great -/
def c13 : VCode :=
  .seq (.ops [⟨some 1, none, .box (.t 0)⟩, ⟨some 2, none, .mov (.c (.int .i64 0))⟩]) <|
  .seq (.ops [⟨some 6, none, .fieldAddr 0 (.t 1)⟩, ⟨some 7, none, .load1 (.t 6)⟩, ⟨some 8, none, .lenStr (.t 7)⟩, ⟨some 3, none, .mov (.t 8)⟩]) <|
  .seq (.seq (.ops [⟨some 9, none, .fieldAddr 3 (.t 1)⟩, ⟨some 10, none, .load1 (.t 9)⟩, ⟨some 11, none, .lenS (.t 10)⟩, ⟨some 12, none, .mov (.c (.int .i64 0))⟩]) <|
  .block 0 (.loop (.seq (.ops [⟨some 13, none, .bin .num .lss (.t 12) (.t 11)⟩]) <|
    .seq (.cond (.t 13) (.skip) (.exit 0)) <|
    .seq (.block 1 (.seq (.ops [⟨some 14, none, .mov (.t 12)⟩, ⟨some 15, none, .idxAddrS 10 (.t 10) (.t 12)⟩, ⟨some 16, none, .loadN 10 (.t 15)⟩, ⟨some 5, none, .alloc [(.str ⟨#[]⟩), (.int .i64 0), (.int .i64 0), (.int .i64 0), (.int .i64 0), (.int .i64 0), (.int .i64 0), (.bool false), (.bool false), (.bool false)]⟩, ⟨some 4, none, .mov (.t 14)⟩, ⟨none, none, .storeN 10 (.t 5) (.t 16)⟩]) <|
     .seq (.seq (.ops [⟨some 17, none, .mov (.t 4)⟩, ⟨some 18, none, .bin .num .gtr (.t 17) (.c (.int .i64 50))⟩]) <|
     .cond (.t 18) (.seq (.ops [⟨some 2, none, .mov (.c (.int .i64 5000))⟩]) <|
      .ret) (.skip)) <|
     .ops [⟨some 19, none, .mov (.t 3)⟩, ⟨some 20, none, .fieldAddr 0 (.t 5)⟩, ⟨some 21, none, .load1 (.t 20)⟩, ⟨some 22, none, .lenStr (.t 21)⟩, ⟨some 23, none, .minmax false [(.t 22), (.c (.int .i64 3000))]⟩, ⟨some 24, none, .bin .num .add (.c (.int .i64 10)) (.t 23)⟩, ⟨some 25, none, .bin .num .add (.t 19) (.t 24)⟩, ⟨some 3, none, .mov (.t 25)⟩])) <|
    .ops [⟨some 26, none, .bin .num .add (.t 12) (.c (.int .i64 1))⟩, ⟨some 12, none, .mov (.t 26)⟩]))) <|
  .seq (.ops [⟨some 27, none, .mov (.t 3)⟩, ⟨some 2, none, .mov (.t 27)⟩]) <|
  .ret
def v13 : VFunc := ⟨28, [.tmp 2], c13⟩
/-- berthing/berthingref05.Sums -/
def c14 : VCode :=
  .seq (.ops [⟨some 1, none, .box (.t 0)⟩, ⟨some 2, none, .alloc [(.int .i64 0), (.int .i64 0), (.int .i64 0)]⟩, ⟨some 3, none, .alloc [(.int .i64 0), (.int .i64 0), (.int .i64 0)]⟩, ⟨some 4, none, .mov (.c (.bool false))⟩]) <|
  .seq (.ops [⟨some 5, none, .mov (.c (.sl .nil 0 []))⟩, ⟨some 6, none, .mov (.c (.sl .nil 0 []))⟩]) <|
  .seq (.seq (.ops [⟨some 13, none, .fieldAddr 3 (.t 1)⟩, ⟨some 14, none, .load1 (.t 13)⟩, ⟨some 15, none, .lenS (.t 14)⟩, ⟨some 16, none, .mov (.c (.int .i64 0))⟩]) <|
  .block 0 (.loop (.seq (.ops [⟨some 17, none, .bin .num .lss (.t 16) (.t 15)⟩]) <|
    .seq (.cond (.t 17) (.skip) (.exit 0)) <|
    .seq (.block 1 (.seq (.ops [⟨some 18, none, .idxAddrS 10 (.t 14) (.t 16)⟩, ⟨some 19, none, .loadN 10 (.t 18)⟩, ⟨some 8, none, .alloc [(.str ⟨#[]⟩), (.int .i64 0), (.int .i64 0), (.int .i64 0), (.int .i64 0), (.int .i64 0), (.int .i64 0), (.bool false), (.bool false), (.bool false)]⟩, ⟨none, none, .storeN 10 (.t 8) (.t 19)⟩]) <|
     .seq (.ops [⟨some 20, none, .mov (.t 5)⟩, ⟨some 21, none, .fieldAddr 1 (.t 8)⟩, ⟨some 22, none, .loadN 3 (.t 21)⟩, ⟨some 23, none, .buildSlice false 3 1 [(.int .i64 0), (.int .i64 0), (.int .i64 0)] [(0, 3, (.t 22))]⟩, ⟨some 24, none, .append false false 3 24 (.t 20) (.t 23)⟩, ⟨some 5, none, .mov (.t 24)⟩]) <|
     .ops [⟨some 25, none, .mov (.t 6)⟩, ⟨some 26, none, .fieldAddr 4 (.t 8)⟩, ⟨some 27, none, .loadN 3 (.t 26)⟩, ⟨some 28, none, .buildSlice false 3 1 [(.int .i64 0), (.int .i64 0), (.int .i64 0)] [(0, 3, (.t 27))]⟩, ⟨some 29, none, .append false false 3 24 (.t 25) (.t 28)⟩, ⟨some 6, none, .mov (.t 29)⟩])) <|
    .ops [⟨some 30, none, .bin .num .add (.t 16) (.c (.int .i64 1))⟩, ⟨some 16, none, .mov (.t 30)⟩]))) <|
  .seq (.ops [⟨some 32, none, .mov (.t 5)⟩, ⟨some 33, none, .call .pure 34 [(.t 32)]⟩, ⟨some 31, none, .mov (.t 33)⟩, ⟨some 34, none, .extract 0 (.t 31)⟩, ⟨some 35, none, .extract 1 (.t 31)⟩, ⟨some 9, none, .alloc [(.int .i64 0), (.int .i64 0), (.int .i64 0)]⟩, ⟨none, none, .storeN 3 (.t 9) (.t 34)⟩, ⟨some 10, none, .mov (.t 35)⟩]) <|
  .seq (.ops [⟨some 37, none, .mov (.t 6)⟩, ⟨some 38, none, .call .pure 34 [(.t 37)]⟩, ⟨some 36, none, .mov (.t 38)⟩, ⟨some 39, none, .extract 0 (.t 36)⟩, ⟨some 40, none, .extract 1 (.t 36)⟩, ⟨some 11, none, .alloc [(.int .i64 0), (.int .i64 0), (.int .i64 0)]⟩, ⟨none, none, .storeN 3 (.t 11) (.t 39)⟩, ⟨some 12, none, .mov (.t 40)⟩]) <|
  .seq (.draw [] [⟨some 41, none, .loadN 3 (.t 9)⟩, ⟨some 42, none, .loadN 3 (.t 11)⟩, ⟨some 43, none, .mov (.t 10)⟩, ⟨some 44, none, .mov (.t 43)⟩, ⟨some 45, some (44, true), .mov (.t 12)⟩, ⟨some 46, none, .pick (.t 44) (.t 45) (.c (.bool false))⟩, ⟨none, none, .storeN 3 (.t 2) (.t 41)⟩, ⟨none, none, .storeN 3 (.t 3) (.t 42)⟩, ⟨some 4, none, .mov (.t 46)⟩] [(1, 6)]) <|
  .ret
def v14 : VFunc := ⟨47, [.cellN 3 2, .cellN 3 3, .tmp 4], c14⟩
/-- berthing/berthinglaw05.sums -/
def c15 : VCode :=
  .seq (.ops [⟨some 1, none, .box (.t 0)⟩, ⟨some 2, none, .mov (.c (.bool false))⟩]) <|
  .seq (.ops [⟨some 3, none, .mov (.c (.sl .nil 0 []))⟩]) <|
  .seq (.seq (.ops [⟨some 8, none, .fieldAddr 3 (.t 1)⟩, ⟨some 9, none, .load1 (.t 8)⟩, ⟨some 10, none, .lenS (.t 9)⟩, ⟨some 11, none, .mov (.c (.int .i64 0))⟩]) <|
  .block 0 (.loop (.seq (.ops [⟨some 12, none, .bin .num .lss (.t 11) (.t 10)⟩]) <|
    .seq (.cond (.t 12) (.skip) (.exit 0)) <|
    .seq (.block 1 (.seq (.ops [⟨some 13, none, .idxAddrS 10 (.t 9) (.t 11)⟩, ⟨some 14, none, .loadN 10 (.t 13)⟩, ⟨some 5, none, .alloc [(.str ⟨#[]⟩), (.int .i64 0), (.int .i64 0), (.int .i64 0), (.int .i64 0), (.int .i64 0), (.int .i64 0), (.bool false), (.bool false), (.bool false)]⟩, ⟨none, none, .storeN 10 (.t 5) (.t 14)⟩]) <|
     .ops [⟨some 15, none, .mov (.t 3)⟩, ⟨some 16, none, .fieldAddr 1 (.t 5)⟩, ⟨some 17, none, .loadN 3 (.t 16)⟩, ⟨some 18, none, .buildSlice false 3 1 [(.int .i64 0), (.int .i64 0), (.int .i64 0)] [(0, 3, (.t 17))]⟩, ⟨some 19, none, .append false false 3 24 (.t 15) (.t 18)⟩, ⟨some 3, none, .mov (.t 19)⟩])) <|
    .ops [⟨some 20, none, .bin .num .add (.t 11) (.c (.int .i64 1))⟩, ⟨some 11, none, .mov (.t 20)⟩]))) <|
  .seq (.ops [⟨some 22, none, .mov (.t 3)⟩, ⟨some 23, none, .call .pure 34 [(.t 22)]⟩, ⟨some 21, none, .mov (.t 23)⟩, ⟨some 24, none, .extract 0 (.t 21)⟩, ⟨some 25, none, .extract 1 (.t 21)⟩, ⟨some 6, none, .alloc [(.int .i64 0), (.int .i64 0), (.int .i64 0)]⟩, ⟨none, none, .storeN 3 (.t 6) (.t 24)⟩, ⟨some 7, none, .mov (.t 25)⟩]) <|
  .seq (.ops [⟨some 26, none, .mov (.t 7)⟩, ⟨some 2, none, .mov (.t 26)⟩]) <|
  .ret
def v15 : VFunc := ⟨27, [.tmp 2], c15⟩
/-- berthing/spec.Find -/
def c16 : VCode :=
  .seq (.ops [⟨some 2, none, .box (.t 0)⟩, ⟨some 3, none, .box (.t 1)⟩, ⟨some 4, none, .mov (.c (.int .i64 0))⟩, ⟨some 5, none, .mov (.c (.bool false))⟩]) <|
  .seq (.ops [⟨some 7, none, .fieldAddr 3 (.t 2)⟩, ⟨some 8, none, .load1 (.t 7)⟩, ⟨some 9, none, .mkFn 36 [] [(.t 3)]⟩, ⟨some 10, none, .call .shared 35 [(.t 8), (.t 9)]⟩, ⟨some 6, none, .mov (.t 10)⟩]) <|
  .seq (.ops [⟨some 11, none, .mov (.t 6)⟩, ⟨some 12, none, .minmax true [(.t 11), (.c (.int .i64 0))]⟩, ⟨some 13, none, .mov (.t 6)⟩, ⟨some 14, none, .bin .num .geq (.t 13) (.c (.int .i64 0))⟩, ⟨some 4, none, .mov (.t 12)⟩, ⟨some 5, none, .mov (.t 14)⟩]) <|
  .ret
def v16 : VFunc := ⟨15, [.tmp 4, .tmp 5], c16⟩
/-- berthing/berthingref05.Find -/
def c17 : VCode :=
  .seq (.ops [⟨some 2, none, .box (.t 0)⟩, ⟨some 4, none, .mov (.c (.int .i64 0))⟩]) <|
  .seq (.seq (.ops [⟨some 7, none, .fieldAddr 3 (.t 2)⟩, ⟨some 8, none, .load1 (.t 7)⟩, ⟨some 9, none, .lenS (.t 8)⟩, ⟨some 10, none, .mov (.c (.int .i64 0))⟩]) <|
  .block 0 (.loop (.seq (.ops [⟨some 11, none, .bin .num .lss (.t 10) (.t 9)⟩]) <|
    .seq (.cond (.t 11) (.skip) (.exit 0)) <|
    .seq (.block 1 (.seq (.ops [⟨some 12, none, .mov (.t 10)⟩, ⟨some 13, none, .idxAddrS 10 (.t 8) (.t 10)⟩, ⟨some 14, none, .loadN 10 (.t 13)⟩, ⟨some 6, none, .alloc [(.str ⟨#[]⟩), (.int .i64 0), (.int .i64 0), (.int .i64 0), (.int .i64 0), (.int .i64 0), (.int .i64 0), (.bool false), (.bool false), (.bool false)]⟩, ⟨some 5, none, .mov (.t 12)⟩, ⟨none, none, .storeN 10 (.t 6) (.t 14)⟩]) <|
     .seq (.ops [⟨some 15, none, .fieldAddr 0 (.t 6)⟩, ⟨some 16, none, .load1 (.t 15)⟩, ⟨some 17, none, .mov (.t 1)⟩, ⟨some 18, none, .bin .num .eql (.t 16) (.t 17)⟩]) <|
     .cond (.t 18) (.seq (.ops [⟨some 19, none, .mov (.t 5)⟩, ⟨some 4, none, .mov (.t 19)⟩]) <|
      .ret) (.skip))) <|
    .ops [⟨some 20, none, .bin .num .add (.t 10) (.c (.int .i64 1))⟩, ⟨some 10, none, .mov (.t 20)⟩]))) <|
  .seq (.ops [⟨some 4, none, .mov (.c (.int .i64 (-1)))⟩]) <|
  .ret
def v17 : VFunc := ⟨21, [.tmp 4], c17⟩
/-- berthing/spec.Pod -/
def c18 : VCode :=
  .seq (.ops [⟨some 1, none, .box (.t 0)⟩, ⟨some 2, none, .mov (.c (.bool false))⟩]) <|
  .seq (.ops [⟨some 11, none, .fieldAddr 3 (.t 1)⟩, ⟨some 12, none, .load1 (.t 11)⟩, ⟨some 13, none, .lenS (.t 12)⟩, ⟨some 3, none, .mov (.t 13)⟩]) <|
  .seq (.seq (.ops [⟨some 14, none, .fieldAddr 0 (.t 1)⟩, ⟨some 15, none, .load1 (.t 14)⟩, ⟨some 16, none, .call .pure 9 [(.t 15)]⟩, ⟨some 17, none, .un .not (.t 16)⟩, ⟨some 18, none, .mov (.t 17)⟩, ⟨some 19, some (18, false), .fieldAddr 1 (.t 1)⟩, ⟨some 20, some (18, false), .load1 (.t 19)⟩, ⟨some 21, some (18, false), .bin .num .lss (.t 20) (.c (.int .i64 (-1000)))⟩, ⟨some 22, none, .pick (.t 18) (.c (.bool true)) (.t 21)⟩, ⟨some 23, none, .mov (.t 22)⟩, ⟨some 24, some (23, false), .fieldAddr 1 (.t 1)⟩, ⟨some 25, some (23, false), .load1 (.t 24)⟩, ⟨some 26, some (23, false), .bin .num .gtr (.t 25) (.c (.int .i64 1000))⟩, ⟨some 27, none, .pick (.t 23) (.c (.bool true)) (.t 26)⟩, ⟨some 28, none, .mov (.t 27)⟩, ⟨some 29, some (28, false), .fieldAddr 2 (.t 1)⟩, ⟨some 30, some (28, false), .load1 (.t 29)⟩, ⟨some 31, some (28, false), .bin .num .lss (.t 30) (.c (.int .i64 0))⟩, ⟨some 32, none, .pick (.t 28) (.c (.bool true)) (.t 31)⟩, ⟨some 33, none, .mov (.t 32)⟩, ⟨some 34, some (33, false), .fieldAddr 2 (.t 1)⟩, ⟨some 35, some (33, false), .load1 (.t 34)⟩, ⟨some 36, some (33, false), .bin .num .gtr (.t 35) (.c (.int .i64 2))⟩, ⟨some 37, none, .pick (.t 33) (.c (.bool true)) (.t 36)⟩, ⟨some 38, none, .mov (.t 37)⟩, ⟨some 39, some (38, false), .mov (.t 3)⟩, ⟨some 40, some (38, false), .bin .num .lss (.t 39) (.c (.int .i64 1))⟩, ⟨some 41, none, .pick (.t 38) (.c (.bool true)) (.t 40)⟩, ⟨some 42, none, .mov (.t 41)⟩, ⟨some 43, some (42, false), .mov (.t 3)⟩, ⟨some 44, some (42, false), .bin .num .gtr (.t 43) (.c (.int .i64 6))⟩, ⟨some 45, none, .pick (.t 42) (.c (.bool true)) (.t 44)⟩]) <|
  .cond (.t 45) (.seq (.ops [⟨some 2, none, .mov (.c (.bool false))⟩]) <|
   .ret) (.skip)) <|
  .seq (.seq (.ops [⟨some 46, none, .fieldAddr 3 (.t 1)⟩, ⟨some 47, none, .load1 (.t 46)⟩, ⟨some 48, none, .lenS (.t 47)⟩, ⟨some 49, none, .mov (.c (.int .i64 0))⟩]) <|
  .block 0 (.loop (.seq (.ops [⟨some 50, none, .bin .num .lss (.t 49) (.t 48)⟩]) <|
    .seq (.cond (.t 50) (.skip) (.exit 0)) <|
    .seq (.block 1 (.seq (.ops [⟨some 51, none, .mov (.t 49)⟩, ⟨some 52, none, .idxAddrS 10 (.t 47) (.t 49)⟩, ⟨some 53, none, .loadN 10 (.t 52)⟩, ⟨some 5, none, .alloc [(.str ⟨#[]⟩), (.int .i64 0), (.int .i64 0), (.int .i64 0), (.int .i64 0), (.int .i64 0), (.int .i64 0), (.bool false), (.bool false), (.bool false)]⟩, ⟨some 4, none, .mov (.t 51)⟩, ⟨none, none, .storeN 10 (.t 5) (.t 53)⟩]) <|
     .seq (.ops [⟨some 55, none, .loadN 4 (.t 1)⟩, ⟨some 56, none, .fieldAddr 0 (.t 5)⟩, ⟨some 57, none, .load1 (.t 56)⟩, ⟨some 58, none, .call .shared 16 [(.t 55), (.t 57)]⟩, ⟨some 54, none, .mov (.t 58)⟩, ⟨some 59, none, .extract 0 (.t 54)⟩, ⟨some 60, none, .extract 1 (.t 54)⟩, ⟨some 6, none, .mov (.t 59)⟩, ⟨some 7, none, .mov (.t 60)⟩]) <|
     .seq (.ops [⟨some 61, none, .mov (.t 6)⟩, ⟨some 62, none, .mov (.t 4)⟩, ⟨some 63, none, .bin .num .neq (.t 61) (.t 62)⟩, ⟨some 64, none, .mov (.t 63)⟩, ⟨some 65, some (64, false), .loadN 10 (.t 5)⟩, ⟨some 66, some (64, false), .call .pure 11 [(.t 65)]⟩, ⟨some 67, some (64, false), .un .not (.t 66)⟩, ⟨some 68, none, .pick (.t 64) (.c (.bool true)) (.t 67)⟩]) <|
     .cond (.t 68) (.seq (.ops [⟨some 2, none, .mov (.c (.bool false))⟩]) <|
      .ret) (.skip))) <|
    .ops [⟨some 69, none, .bin .num .add (.t 49) (.c (.int .i64 1))⟩, ⟨some 49, none, .mov (.t 69)⟩]))) <|
  .seq (.ops [⟨some 71, none, .loadN 4 (.t 1)⟩, ⟨some 72, none, .call .shared 37 [(.t 71)]⟩, ⟨some 70, none, .mov (.t 72)⟩, ⟨some 73, none, .extract 0 (.t 70)⟩, ⟨some 74, none, .extract 1 (.t 70)⟩, ⟨some 75, none, .extract 2 (.t 70)⟩, ⟨some 8, none, .alloc [(.int .i64 0), (.int .i64 0), (.int .i64 0)]⟩, ⟨some 9, none, .alloc [(.int .i64 0), (.int .i64 0), (.int .i64 0)]⟩, ⟨none, none, .storeN 3 (.t 8) (.t 73)⟩, ⟨none, none, .storeN 3 (.t 9) (.t 74)⟩, ⟨some 10, none, .mov (.t 75)⟩]) <|
  .seq (.ops [⟨some 76, none, .mov (.t 10)⟩, ⟨some 2, none, .mov (.t 76)⟩]) <|
  .ret
def v18 : VFunc := ⟨77, [.tmp 2], c18⟩
/-- berthing/berthingref05.Pod -/
def c19 : VCode :=
  .seq (.ops [⟨some 1, none, .box (.t 0)⟩, ⟨some 2, none, .mov (.c (.bool false))⟩]) <|
  .seq (.seq (.ops [⟨some 10, none, .fieldAddr 0 (.t 1)⟩, ⟨some 11, none, .load1 (.t 10)⟩, ⟨some 12, none, .call .pure 10 [(.t 11)]⟩, ⟨some 13, none, .un .not (.t 12)⟩, ⟨some 14, none, .mov (.t 13)⟩, ⟨some 15, some (14, false), .fieldAddr 1 (.t 1)⟩, ⟨some 16, some (14, false), .load1 (.t 15)⟩, ⟨some 17, some (14, false), .bin .num .lss (.t 16) (.c (.int .i64 (-1000)))⟩, ⟨some 18, none, .pick (.t 14) (.c (.bool true)) (.t 17)⟩, ⟨some 19, none, .mov (.t 18)⟩, ⟨some 20, some (19, false), .fieldAddr 1 (.t 1)⟩, ⟨some 21, some (19, false), .load1 (.t 20)⟩, ⟨some 22, some (19, false), .bin .num .gtr (.t 21) (.c (.int .i64 1000))⟩, ⟨some 23, none, .pick (.t 19) (.c (.bool true)) (.t 22)⟩, ⟨some 24, none, .mov (.t 23)⟩, ⟨some 25, some (24, false), .fieldAddr 2 (.t 1)⟩, ⟨some 26, some (24, false), .load1 (.t 25)⟩, ⟨some 27, some (24, false), .bin .num .lss (.t 26) (.c (.int .i64 0))⟩, ⟨some 28, none, .pick (.t 24) (.c (.bool true)) (.t 27)⟩, ⟨some 29, none, .mov (.t 28)⟩, ⟨some 30, some (29, false), .fieldAddr 2 (.t 1)⟩, ⟨some 31, some (29, false), .load1 (.t 30)⟩, ⟨some 32, some (29, false), .bin .num .gtr (.t 31) (.c (.int .i64 2))⟩, ⟨some 33, none, .pick (.t 29) (.c (.bool true)) (.t 32)⟩, ⟨some 34, none, .mov (.t 33)⟩, ⟨some 35, some (34, false), .fieldAddr 3 (.t 1)⟩, ⟨some 36, some (34, false), .load1 (.t 35)⟩, ⟨some 37, some (34, false), .lenS (.t 36)⟩, ⟨some 38, some (34, false), .bin .num .lss (.t 37) (.c (.int .i64 1))⟩, ⟨some 39, none, .pick (.t 34) (.c (.bool true)) (.t 38)⟩, ⟨some 40, none, .mov (.t 39)⟩, ⟨some 41, some (40, false), .fieldAddr 3 (.t 1)⟩, ⟨some 42, some (40, false), .load1 (.t 41)⟩, ⟨some 43, some (40, false), .lenS (.t 42)⟩, ⟨some 44, some (40, false), .bin .num .gtr (.t 43) (.c (.int .i64 6))⟩, ⟨some 45, none, .pick (.t 40) (.c (.bool true)) (.t 44)⟩]) <|
  .cond (.t 45) (.seq (.ops [⟨some 2, none, .mov (.c (.bool false))⟩]) <|
   .ret) (.skip)) <|
  .seq (.seq (.ops [⟨some 46, none, .fieldAddr 3 (.t 1)⟩, ⟨some 47, none, .load1 (.t 46)⟩, ⟨some 48, none, .lenS (.t 47)⟩, ⟨some 49, none, .mov (.c (.int .i64 0))⟩]) <|
  .block 0 (.loop (.seq (.ops [⟨some 50, none, .bin .num .lss (.t 49) (.t 48)⟩]) <|
    .seq (.cond (.t 50) (.skip) (.exit 0)) <|
    .seq (.block 1 (.seq (.ops [⟨some 51, none, .mov (.t 49)⟩, ⟨some 52, none, .idxAddrS 10 (.t 47) (.t 49)⟩, ⟨some 53, none, .loadN 10 (.t 52)⟩, ⟨some 4, none, .alloc [(.str ⟨#[]⟩), (.int .i64 0), (.int .i64 0), (.int .i64 0), (.int .i64 0), (.int .i64 0), (.int .i64 0), (.bool false), (.bool false), (.bool false)]⟩, ⟨some 3, none, .mov (.t 51)⟩, ⟨none, none, .storeN 10 (.t 4) (.t 53)⟩]) <|
     .seq (.seq (.ops [⟨some 54, none, .loadN 10 (.t 4)⟩, ⟨some 55, none, .call .pure 12 [(.t 54)]⟩, ⟨some 56, none, .un .not (.t 55)⟩]) <|
     .cond (.t 56) (.seq (.ops [⟨some 2, none, .mov (.c (.bool false))⟩]) <|
      .ret) (.skip)) <|
     .seq (.ops [⟨some 57, none, .fieldAddr 3 (.t 1)⟩, ⟨some 58, none, .load1 (.t 57)⟩, ⟨some 59, none, .mov (.t 3)⟩, ⟨some 60, none, .sliceS 10 (.t 58) none (some (.t 59)) none⟩, ⟨some 61, none, .lenS (.t 60)⟩, ⟨some 62, none, .mov (.c (.int .i64 0))⟩]) <|
     .block 2 (.loop (.seq (.ops [⟨some 63, none, .bin .num .lss (.t 62) (.t 61)⟩]) <|
       .seq (.cond (.t 63) (.skip) (.exit 2)) <|
       .seq (.block 3 (.seq (.ops [⟨some 64, none, .idxAddrS 10 (.t 60) (.t 62)⟩, ⟨some 65, none, .loadN 10 (.t 64)⟩, ⟨some 6, none, .alloc [(.str ⟨#[]⟩), (.int .i64 0), (.int .i64 0), (.int .i64 0), (.int .i64 0), (.int .i64 0), (.int .i64 0), (.bool false), (.bool false), (.bool false)]⟩, ⟨none, none, .storeN 10 (.t 6) (.t 65)⟩]) <|
        .seq (.ops [⟨some 66, none, .fieldAddr 0 (.t 4)⟩, ⟨some 67, none, .load1 (.t 66)⟩, ⟨some 68, none, .fieldAddr 0 (.t 6)⟩, ⟨some 69, none, .load1 (.t 68)⟩, ⟨some 70, none, .bin .num .eql (.t 67) (.t 69)⟩]) <|
        .cond (.t 70) (.seq (.ops [⟨some 2, none, .mov (.c (.bool false))⟩]) <|
         .ret) (.skip))) <|
       .ops [⟨some 71, none, .bin .num .add (.t 62) (.c (.int .i64 1))⟩, ⟨some 62, none, .mov (.t 71)⟩])))) <|
    .ops [⟨some 72, none, .bin .num .add (.t 49) (.c (.int .i64 1))⟩, ⟨some 49, none, .mov (.t 72)⟩]))) <|
  .seq (.ops [⟨some 74, none, .loadN 4 (.t 1)⟩, ⟨some 75, none, .call .shared 14 [(.t 74)]⟩, ⟨some 73, none, .mov (.t 75)⟩, ⟨some 76, none, .extract 0 (.t 73)⟩, ⟨some 77, none, .extract 1 (.t 73)⟩, ⟨some 78, none, .extract 2 (.t 73)⟩, ⟨some 7, none, .alloc [(.int .i64 0), (.int .i64 0), (.int .i64 0)]⟩, ⟨some 8, none, .alloc [(.int .i64 0), (.int .i64 0), (.int .i64 0)]⟩, ⟨none, none, .storeN 3 (.t 7) (.t 76)⟩, ⟨none, none, .storeN 3 (.t 8) (.t 77)⟩, ⟨some 9, none, .mov (.t 78)⟩]) <|
  .seq (.ops [⟨some 79, none, .mov (.t 9)⟩, ⟨some 2, none, .mov (.t 79)⟩]) <|
  .ret
def v19 : VFunc := ⟨80, [.tmp 2], c19⟩
/-- berthing/spec.Class -/
def c20 : VCode :=
  .seq (.ops [⟨some 1, none, .box (.t 0)⟩, ⟨some 2, none, .mov (.c (.int .i64 0))⟩]) <|
  .seq (.ops [⟨some 3, none, .mov (.c (.bool true))⟩, ⟨some 4, none, .mov (.c (.bool true))⟩]) <|
  .seq (.seq (.ops [⟨some 9, none, .fieldAddr 3 (.t 1)⟩, ⟨some 10, none, .load1 (.t 9)⟩, ⟨some 11, none, .lenS (.t 10)⟩, ⟨some 12, none, .mov (.c (.int .i64 0))⟩]) <|
  .block 0 (.loop (.seq (.ops [⟨some 13, none, .bin .num .lss (.t 12) (.t 11)⟩]) <|
    .seq (.cond (.t 13) (.skip) (.exit 0)) <|
    .seq (.block 1 (.seq (.ops [⟨some 14, none, .idxAddrS 10 (.t 10) (.t 12)⟩, ⟨some 15, none, .loadN 10 (.t 14)⟩, ⟨some 6, none, .alloc [(.str ⟨#[]⟩), (.int .i64 0), (.int .i64 0), (.int .i64 0), (.int .i64 0), (.int .i64 0), (.int .i64 0), (.bool false), (.bool false), (.bool false)]⟩, ⟨none, none, .storeN 10 (.t 6) (.t 15)⟩]) <|
     .seq (.draw [(7, [(.int .i64 0), (.int .i64 0), (.int .i64 0)]), (8, [(.int .i64 0), (.int .i64 0), (.int .i64 0)])] [⟨some 16, none, .fieldAddr 1 (.t 6)⟩, ⟨some 17, none, .loadN 3 (.t 16)⟩, ⟨some 18, none, .fieldAddr 4 (.t 6)⟩, ⟨some 19, none, .loadN 3 (.t 18)⟩, ⟨none, none, .idle⟩, ⟨none, none, .idle⟩, ⟨none, none, .storeN 3 (.t 7) (.t 17)⟩, ⟨none, none, .storeN 3 (.t 8) (.t 19)⟩] [(3, 6)]) <|
     .seq (.ops [⟨some 20, none, .mov (.t 3)⟩, ⟨some 21, none, .mov (.t 20)⟩, ⟨some 22, some (21, true), .fieldAddr 0 (.t 7)⟩, ⟨some 23, some (21, true), .load1 (.t 22)⟩, ⟨some 24, some (21, true), .fieldAddr 0 (.t 8)⟩, ⟨some 25, some (21, true), .load1 (.t 24)⟩, ⟨some 26, some (21, true), .bin .num .eql (.t 23) (.t 25)⟩, ⟨some 27, none, .pick (.t 21) (.t 26) (.c (.bool false))⟩, ⟨some 28, none, .mov (.t 27)⟩, ⟨some 29, some (28, true), .fieldAddr 1 (.t 7)⟩, ⟨some 30, some (28, true), .load1 (.t 29)⟩, ⟨some 31, some (28, true), .fieldAddr 1 (.t 8)⟩, ⟨some 32, some (28, true), .load1 (.t 31)⟩, ⟨some 33, some (28, true), .bin .num .eql (.t 30) (.t 32)⟩, ⟨some 34, none, .pick (.t 28) (.t 33) (.c (.bool false))⟩, ⟨some 35, none, .mov (.t 34)⟩, ⟨some 36, some (35, true), .fieldAddr 0 (.t 7)⟩, ⟨some 37, some (35, true), .load1 (.t 36)⟩, ⟨some 38, some (35, true), .bin .num .neq (.t 37) (.c (.int .i64 0))⟩, ⟨some 39, none, .pick (.t 35) (.t 38) (.c (.bool false))⟩, ⟨some 40, none, .mov (.t 39)⟩, ⟨some 41, some (40, true), .fieldAddr 1 (.t 7)⟩, ⟨some 42, some (40, true), .load1 (.t 41)⟩, ⟨some 43, some (40, true), .bin .num .neq (.t 42) (.c (.int .i64 0))⟩, ⟨some 44, none, .pick (.t 40) (.t 43) (.c (.bool false))⟩, ⟨some 3, none, .mov (.t 44)⟩]) <|
     .ops [⟨some 45, none, .mov (.t 4)⟩, ⟨some 46, none, .mov (.t 45)⟩, ⟨some 47, some (46, true), .fieldAddr 0 (.t 7)⟩, ⟨some 48, some (46, true), .load1 (.t 47)⟩, ⟨some 49, some (46, true), .bin .num .eql (.t 48) (.c (.int .i64 0))⟩, ⟨some 50, none, .pick (.t 46) (.t 49) (.c (.bool false))⟩, ⟨some 51, none, .mov (.t 50)⟩, ⟨some 52, some (51, true), .fieldAddr 0 (.t 8)⟩, ⟨some 53, some (51, true), .load1 (.t 52)⟩, ⟨some 54, some (51, true), .bin .num .eql (.t 53) (.c (.int .i64 0))⟩, ⟨some 55, none, .pick (.t 51) (.t 54) (.c (.bool false))⟩, ⟨some 56, none, .mov (.t 55)⟩, ⟨some 57, some (56, true), .fieldAddr 1 (.t 7)⟩, ⟨some 58, some (56, true), .load1 (.t 57)⟩, ⟨some 59, some (56, true), .bin .num .eql (.t 58) (.c (.int .i64 0))⟩, ⟨some 60, none, .pick (.t 56) (.t 59) (.c (.bool false))⟩, ⟨some 61, none, .mov (.t 60)⟩, ⟨some 62, some (61, true), .fieldAddr 1 (.t 8)⟩, ⟨some 63, some (61, true), .load1 (.t 62)⟩, ⟨some 64, some (61, true), .bin .num .eql (.t 63) (.c (.int .i64 0))⟩, ⟨some 65, none, .pick (.t 61) (.t 64) (.c (.bool false))⟩, ⟨some 4, none, .mov (.t 65)⟩])) <|
    .ops [⟨some 66, none, .bin .num .add (.t 12) (.c (.int .i64 1))⟩, ⟨some 12, none, .mov (.t 66)⟩]))) <|
  .seq (.block 2 (.seq (.ops [⟨some 68, none, .mov (.t 4)⟩, ⟨some 67, none, .mov (.t 68)⟩]) <|
   .cond (.t 67) (.seq (.ops [⟨some 2, none, .mov (.c (.int .i64 2))⟩]) <|
    .ret) (.seq (.ops [⟨some 70, none, .mov (.t 3)⟩, ⟨some 69, none, .mov (.t 70)⟩]) <|
    .cond (.t 69) (.seq (.ops [⟨some 2, none, .mov (.c (.int .i64 0))⟩]) <|
     .ret) (.skip)))) <|
  .seq (.ops [⟨some 2, none, .mov (.c (.int .i64 1))⟩]) <|
  .ret
def v20 : VFunc := ⟨71, [.tmp 2], c20⟩
/-- berthing/berthingref05.Class -/
def c21 : VCode :=
  .seq (.ops [⟨some 1, none, .box (.t 0)⟩, ⟨some 2, none, .mov (.c (.int .i64 0))⟩]) <|
  .seq (.ops [⟨some 3, none, .mov (.c (.bool true))⟩]) <|
  .seq (.seq (.ops [⟨some 8, none, .fieldAddr 3 (.t 1)⟩, ⟨some 9, none, .load1 (.t 8)⟩, ⟨some 10, none, .lenS (.t 9)⟩, ⟨some 11, none, .mov (.c (.int .i64 0))⟩]) <|
  .block 0 (.loop (.seq (.ops [⟨some 12, none, .bin .num .lss (.t 11) (.t 10)⟩]) <|
    .seq (.cond (.t 12) (.skip) (.exit 0)) <|
    .seq (.block 1 (.seq (.ops [⟨some 13, none, .idxAddrS 10 (.t 9) (.t 11)⟩, ⟨some 14, none, .loadN 10 (.t 13)⟩, ⟨some 5, none, .alloc [(.str ⟨#[]⟩), (.int .i64 0), (.int .i64 0), (.int .i64 0), (.int .i64 0), (.int .i64 0), (.int .i64 0), (.bool false), (.bool false), (.bool false)]⟩, ⟨none, none, .storeN 10 (.t 5) (.t 14)⟩]) <|
     .ops [⟨some 15, none, .mov (.t 3)⟩, ⟨some 16, none, .mov (.t 15)⟩, ⟨some 17, some (16, true), .fieldAddr 1 (.t 5)⟩, ⟨some 18, some (16, true), .fieldAddr 0 (.t 17)⟩, ⟨some 19, some (16, true), .load1 (.t 18)⟩, ⟨some 20, some (16, true), .bin .num .eql (.t 19) (.c (.int .i64 0))⟩, ⟨some 21, none, .pick (.t 16) (.t 20) (.c (.bool false))⟩, ⟨some 22, none, .mov (.t 21)⟩, ⟨some 23, some (22, true), .fieldAddr 1 (.t 5)⟩, ⟨some 24, some (22, true), .fieldAddr 1 (.t 23)⟩, ⟨some 25, some (22, true), .load1 (.t 24)⟩, ⟨some 26, some (22, true), .bin .num .eql (.t 25) (.c (.int .i64 0))⟩, ⟨some 27, none, .pick (.t 22) (.t 26) (.c (.bool false))⟩, ⟨some 28, none, .mov (.t 27)⟩, ⟨some 29, some (28, true), .fieldAddr 4 (.t 5)⟩, ⟨some 30, some (28, true), .fieldAddr 0 (.t 29)⟩, ⟨some 31, some (28, true), .load1 (.t 30)⟩, ⟨some 32, some (28, true), .bin .num .eql (.t 31) (.c (.int .i64 0))⟩, ⟨some 33, none, .pick (.t 28) (.t 32) (.c (.bool false))⟩, ⟨some 34, none, .mov (.t 33)⟩, ⟨some 35, some (34, true), .fieldAddr 4 (.t 5)⟩, ⟨some 36, some (34, true), .fieldAddr 1 (.t 35)⟩, ⟨some 37, some (34, true), .load1 (.t 36)⟩, ⟨some 38, some (34, true), .bin .num .eql (.t 37) (.c (.int .i64 0))⟩, ⟨some 39, none, .pick (.t 34) (.t 38) (.c (.bool false))⟩, ⟨some 3, none, .mov (.t 39)⟩])) <|
    .ops [⟨some 40, none, .bin .num .add (.t 11) (.c (.int .i64 1))⟩, ⟨some 11, none, .mov (.t 40)⟩]))) <|
  .seq (.seq (.ops [⟨some 41, none, .mov (.t 3)⟩]) <|
  .cond (.t 41) (.seq (.ops [⟨some 2, none, .mov (.c (.int .i64 2))⟩]) <|
   .ret) (.skip)) <|
  .seq (.seq (.ops [⟨some 42, none, .fieldAddr 3 (.t 1)⟩, ⟨some 43, none, .load1 (.t 42)⟩, ⟨some 44, none, .lenS (.t 43)⟩, ⟨some 45, none, .mov (.c (.int .i64 0))⟩]) <|
  .block 2 (.loop (.seq (.ops [⟨some 46, none, .bin .num .lss (.t 45) (.t 44)⟩]) <|
    .seq (.cond (.t 46) (.skip) (.exit 2)) <|
    .seq (.block 3 (.seq (.ops [⟨some 47, none, .idxAddrS 10 (.t 43) (.t 45)⟩, ⟨some 48, none, .loadN 10 (.t 47)⟩, ⟨some 7, none, .alloc [(.str ⟨#[]⟩), (.int .i64 0), (.int .i64 0), (.int .i64 0), (.int .i64 0), (.int .i64 0), (.int .i64 0), (.bool false), (.bool false), (.bool false)]⟩, ⟨none, none, .storeN 10 (.t 7) (.t 48)⟩]) <|
     .seq (.ops [⟨some 49, none, .fieldAddr 1 (.t 7)⟩, ⟨some 50, none, .fieldAddr 0 (.t 49)⟩, ⟨some 51, none, .load1 (.t 50)⟩, ⟨some 52, none, .fieldAddr 4 (.t 7)⟩, ⟨some 53, none, .fieldAddr 0 (.t 52)⟩, ⟨some 54, none, .load1 (.t 53)⟩, ⟨some 55, none, .bin .num .neq (.t 51) (.t 54)⟩, ⟨some 56, none, .mov (.t 55)⟩, ⟨some 57, some (56, false), .fieldAddr 1 (.t 7)⟩, ⟨some 58, some (56, false), .fieldAddr 1 (.t 57)⟩, ⟨some 59, some (56, false), .load1 (.t 58)⟩, ⟨some 60, some (56, false), .fieldAddr 4 (.t 7)⟩, ⟨some 61, some (56, false), .fieldAddr 1 (.t 60)⟩, ⟨some 62, some (56, false), .load1 (.t 61)⟩, ⟨some 63, some (56, false), .bin .num .neq (.t 59) (.t 62)⟩, ⟨some 64, none, .pick (.t 56) (.c (.bool true)) (.t 63)⟩, ⟨some 65, none, .mov (.t 64)⟩, ⟨some 66, some (65, false), .fieldAddr 1 (.t 7)⟩, ⟨some 67, some (65, false), .fieldAddr 0 (.t 66)⟩, ⟨some 68, some (65, false), .load1 (.t 67)⟩, ⟨some 69, some (65, false), .bin .num .eql (.t 68) (.c (.int .i64 0))⟩, ⟨some 70, none, .pick (.t 65) (.c (.bool true)) (.t 69)⟩, ⟨some 71, none, .mov (.t 70)⟩, ⟨some 72, some (71, false), .fieldAddr 1 (.t 7)⟩, ⟨some 73, some (71, false), .fieldAddr 1 (.t 72)⟩, ⟨some 74, some (71, false), .load1 (.t 73)⟩, ⟨some 75, some (71, false), .bin .num .eql (.t 74) (.c (.int .i64 0))⟩, ⟨some 76, none, .pick (.t 71) (.c (.bool true)) (.t 75)⟩]) <|
     .cond (.t 76) (.seq (.ops [⟨some 2, none, .mov (.c (.int .i64 1))⟩]) <|
      .ret) (.skip))) <|
    .ops [⟨some 77, none, .bin .num .add (.t 45) (.c (.int .i64 1))⟩, ⟨some 45, none, .mov (.t 77)⟩]))) <|
  .seq (.ops [⟨some 2, none, .mov (.c (.int .i64 0))⟩]) <|
  .ret
def v21 : VFunc := ⟨78, [.tmp 2], c21⟩
/-- berthing/spec.Requests -/
def c22 : VCode :=
  .seq (.ops [⟨some 1, none, .box (.t 0)⟩, ⟨some 2, none, .alloc [(.int .i64 0), (.int .i64 0), (.int .i64 0)]⟩]) <|
  .seq (.ops [⟨some 3, none, .mov (.c (.sl .nil 0 []))⟩]) <|
  .seq (.seq (.ops [⟨some 8, none, .fieldAddr 3 (.t 1)⟩, ⟨some 9, none, .load1 (.t 8)⟩, ⟨some 10, none, .lenS (.t 9)⟩, ⟨some 11, none, .mov (.c (.int .i64 0))⟩]) <|
  .block 0 (.loop (.seq (.ops [⟨some 12, none, .bin .num .lss (.t 11) (.t 10)⟩]) <|
    .seq (.cond (.t 12) (.skip) (.exit 0)) <|
    .seq (.block 1 (.seq (.ops [⟨some 13, none, .idxAddrS 10 (.t 9) (.t 11)⟩, ⟨some 14, none, .loadN 10 (.t 13)⟩, ⟨some 5, none, .alloc [(.str ⟨#[]⟩), (.int .i64 0), (.int .i64 0), (.int .i64 0), (.int .i64 0), (.int .i64 0), (.int .i64 0), (.bool false), (.bool false), (.bool false)]⟩, ⟨none, none, .storeN 10 (.t 5) (.t 14)⟩]) <|
     .ops [⟨some 15, none, .mov (.t 3)⟩, ⟨some 16, none, .fieldAddr 1 (.t 5)⟩, ⟨some 17, none, .loadN 3 (.t 16)⟩, ⟨some 18, none, .buildSlice false 3 1 [(.int .i64 0), (.int .i64 0), (.int .i64 0)] [(0, 3, (.t 17))]⟩, ⟨some 19, none, .append false false 3 24 (.t 15) (.t 18)⟩, ⟨some 3, none, .mov (.t 19)⟩])) <|
    .ops [⟨some 20, none, .bin .num .add (.t 11) (.c (.int .i64 1))⟩, ⟨some 11, none, .mov (.t 20)⟩]))) <|
  .seq (.ops [⟨some 22, none, .mov (.t 3)⟩, ⟨some 23, none, .call .pure 38 [(.t 22)]⟩, ⟨some 21, none, .mov (.t 23)⟩, ⟨some 24, none, .extract 0 (.t 21)⟩, ⟨some 25, none, .extract 1 (.t 21)⟩, ⟨some 6, none, .alloc [(.int .i64 0), (.int .i64 0), (.int .i64 0)]⟩, ⟨none, none, .storeN 3 (.t 6) (.t 24)⟩, ⟨some 7, none, .mov (.t 25)⟩]) <|
  .seq (.ops [⟨some 26, none, .loadN 3 (.t 6)⟩, ⟨none, none, .storeN 3 (.t 2) (.t 26)⟩]) <|
  .ret
def v22 : VFunc := ⟨27, [.cellN 3 2], c22⟩
/-- berthing/spec.Same -/
def c23 : VCode :=
  .seq (.ops [⟨some 2, none, .box (.t 0)⟩, ⟨some 3, none, .box (.t 1)⟩, ⟨some 4, none, .mov (.c (.bool false))⟩]) <|
  .seq (.ops [⟨some 5, none, .fieldAddr 0 (.t 2)⟩, ⟨some 6, none, .load1 (.t 5)⟩, ⟨some 7, none, .fieldAddr 0 (.t 3)⟩, ⟨some 8, none, .load1 (.t 7)⟩, ⟨some 9, none, .bin .num .eql (.t 6) (.t 8)⟩, ⟨some 10, none, .mov (.t 9)⟩, ⟨some 11, some (10, true), .fieldAddr 1 (.t 2)⟩, ⟨some 12, some (10, true), .load1 (.t 11)⟩, ⟨some 13, some (10, true), .fieldAddr 1 (.t 3)⟩, ⟨some 14, some (10, true), .load1 (.t 13)⟩, ⟨some 15, some (10, true), .bin .num .eql (.t 12) (.t 14)⟩, ⟨some 16, none, .pick (.t 10) (.t 15) (.c (.bool false))⟩, ⟨some 17, none, .mov (.t 16)⟩, ⟨some 18, some (17, true), .fieldAddr 2 (.t 2)⟩, ⟨some 19, some (17, true), .load1 (.t 18)⟩, ⟨some 20, some (17, true), .fieldAddr 2 (.t 3)⟩, ⟨some 21, some (17, true), .load1 (.t 20)⟩, ⟨some 22, some (17, true), .bin .num .eql (.t 19) (.t 21)⟩, ⟨some 23, none, .pick (.t 17) (.t 22) (.c (.bool false))⟩, ⟨some 24, none, .mov (.t 23)⟩, ⟨some 25, some (24, true), .fieldAddr 3 (.t 2)⟩, ⟨some 26, some (24, true), .load1 (.t 25)⟩, ⟨some 27, some (24, true), .fieldAddr 3 (.t 3)⟩, ⟨some 28, some (24, true), .load1 (.t 27)⟩, ⟨some 29, some (24, true), .call .pure 39 [(.t 26), (.t 28)]⟩, ⟨some 30, none, .pick (.t 24) (.t 29) (.c (.bool false))⟩, ⟨some 4, none, .mov (.t 30)⟩]) <|
  .ret
def v23 : VFunc := ⟨31, [.tmp 4], c23⟩
/-- berthing/berthingref05.Same -/
def c24 : VCode :=
  .seq (.ops [⟨some 2, none, .box (.t 0)⟩, ⟨some 3, none, .box (.t 1)⟩, ⟨some 4, none, .mov (.c (.bool false))⟩]) <|
  .seq (.seq (.ops [⟨some 6, none, .fieldAddr 0 (.t 2)⟩, ⟨some 7, none, .load1 (.t 6)⟩, ⟨some 8, none, .fieldAddr 0 (.t 3)⟩, ⟨some 9, none, .load1 (.t 8)⟩, ⟨some 10, none, .bin .num .neq (.t 7) (.t 9)⟩, ⟨some 11, none, .mov (.t 10)⟩, ⟨some 12, some (11, false), .fieldAddr 1 (.t 2)⟩, ⟨some 13, some (11, false), .load1 (.t 12)⟩, ⟨some 14, some (11, false), .fieldAddr 1 (.t 3)⟩, ⟨some 15, some (11, false), .load1 (.t 14)⟩, ⟨some 16, some (11, false), .bin .num .neq (.t 13) (.t 15)⟩, ⟨some 17, none, .pick (.t 11) (.c (.bool true)) (.t 16)⟩, ⟨some 18, none, .mov (.t 17)⟩, ⟨some 19, some (18, false), .fieldAddr 2 (.t 2)⟩, ⟨some 20, some (18, false), .load1 (.t 19)⟩, ⟨some 21, some (18, false), .fieldAddr 2 (.t 3)⟩, ⟨some 22, some (18, false), .load1 (.t 21)⟩, ⟨some 23, some (18, false), .bin .num .neq (.t 20) (.t 22)⟩, ⟨some 24, none, .pick (.t 18) (.c (.bool true)) (.t 23)⟩, ⟨some 25, none, .mov (.t 24)⟩, ⟨some 26, some (25, false), .fieldAddr 3 (.t 2)⟩, ⟨some 27, some (25, false), .load1 (.t 26)⟩, ⟨some 28, some (25, false), .lenS (.t 27)⟩, ⟨some 29, some (25, false), .fieldAddr 3 (.t 3)⟩, ⟨some 30, some (25, false), .load1 (.t 29)⟩, ⟨some 31, some (25, false), .lenS (.t 30)⟩, ⟨some 32, some (25, false), .bin .num .neq (.t 28) (.t 31)⟩, ⟨some 33, none, .pick (.t 25) (.c (.bool true)) (.t 32)⟩]) <|
  .cond (.t 33) (.seq (.ops [⟨some 4, none, .mov (.c (.bool false))⟩]) <|
   .ret) (.skip)) <|
  .seq (.seq (.ops [⟨some 34, none, .fieldAddr 3 (.t 2)⟩, ⟨some 35, none, .load1 (.t 34)⟩, ⟨some 36, none, .lenS (.t 35)⟩, ⟨some 37, none, .mov (.c (.int .i64 0))⟩]) <|
  .block 0 (.loop (.seq (.ops [⟨some 38, none, .bin .num .lss (.t 37) (.t 36)⟩]) <|
    .seq (.cond (.t 38) (.skip) (.exit 0)) <|
    .seq (.block 1 (.seq (.ops [⟨some 39, none, .mov (.t 37)⟩, ⟨some 5, none, .mov (.t 39)⟩]) <|
     .seq (.ops [⟨some 40, none, .fieldAddr 3 (.t 2)⟩, ⟨some 41, none, .load1 (.t 40)⟩, ⟨some 42, none, .mov (.t 5)⟩, ⟨some 43, none, .idxAddrS 10 (.t 41) (.t 42)⟩, ⟨some 44, none, .loadN 10 (.t 43)⟩, ⟨some 45, none, .fieldAddr 3 (.t 3)⟩, ⟨some 46, none, .load1 (.t 45)⟩, ⟨some 47, none, .mov (.t 5)⟩, ⟨some 48, none, .idxAddrS 10 (.t 46) (.t 47)⟩, ⟨some 49, none, .loadN 10 (.t 48)⟩, ⟨some 50, none, .bin (.agg [.s, .i, .i, .i, .i, .i, .i, .b, .b, .b]) .neq (.t 44) (.t 49)⟩]) <|
     .cond (.t 50) (.seq (.ops [⟨some 4, none, .mov (.c (.bool false))⟩]) <|
      .ret) (.skip))) <|
    .ops [⟨some 51, none, .bin .num .add (.t 37) (.c (.int .i64 1))⟩, ⟨some 37, none, .mov (.t 51)⟩]))) <|
  .seq (.ops [⟨some 4, none, .mov (.c (.bool true))⟩]) <|
  .ret
def v24 : VFunc := ⟨52, [.tmp 4], c24⟩
/-- berthing/spec.Changed -/
def c25 : VCode :=
  .seq (.ops [⟨some 2, none, .box (.t 0)⟩, ⟨some 3, none, .box (.t 1)⟩, ⟨some 4, none, .mov (.c (.sl .nil 0 []))⟩]) <|
  .seq (.ops [⟨some 14, none, .fieldAddr 3 (.t 2)⟩, ⟨some 15, none, .load1 (.t 14)⟩, ⟨some 16, none, .lenS (.t 15)⟩, ⟨some 17, none, .mkSlice true 3 [(.bool false), (.bool false), (.bool false)] (.t 16) (.t 16)⟩, ⟨some 5, none, .mov (.t 17)⟩]) <|
  .seq (.seq (.ops [⟨some 18, none, .fieldAddr 3 (.t 2)⟩, ⟨some 19, none, .load1 (.t 18)⟩, ⟨some 20, none, .lenS (.t 19)⟩, ⟨some 21, none, .mov (.c (.int .i64 0))⟩]) <|
  .block 0 (.loop (.seq (.ops [⟨some 22, none, .bin .num .lss (.t 21) (.t 20)⟩]) <|
    .seq (.cond (.t 22) (.skip) (.exit 0)) <|
    .seq (.block 1 (.seq (.ops [⟨some 23, none, .mov (.t 21)⟩, ⟨some 24, none, .idxAddrS 10 (.t 19) (.t 21)⟩, ⟨some 25, none, .loadN 10 (.t 24)⟩, ⟨some 7, none, .alloc [(.str ⟨#[]⟩), (.int .i64 0), (.int .i64 0), (.int .i64 0), (.int .i64 0), (.int .i64 0), (.int .i64 0), (.bool false), (.bool false), (.bool false)]⟩, ⟨some 6, none, .mov (.t 23)⟩, ⟨none, none, .storeN 10 (.t 7) (.t 25)⟩]) <|
     .seq (.ops [⟨some 27, none, .loadN 4 (.t 3)⟩, ⟨some 28, none, .fieldAddr 0 (.t 7)⟩, ⟨some 29, none, .load1 (.t 28)⟩, ⟨some 30, none, .call .shared 16 [(.t 27), (.t 29)]⟩, ⟨some 26, none, .mov (.t 30)⟩, ⟨some 31, none, .extract 0 (.t 26)⟩, ⟨some 32, none, .extract 1 (.t 26)⟩, ⟨some 8, none, .mov (.t 31)⟩, ⟨some 9, none, .mov (.t 32)⟩]) <|
     .seq (.ops [⟨some 33, none, .mov (.t 9)⟩]) <|
     .cond (.t 33) (.seq (.ops [⟨some 34, none, .fieldAddr 3 (.t 3)⟩, ⟨some 35, none, .load1 (.t 34)⟩, ⟨some 36, none, .mov (.t 8)⟩, ⟨some 37, none, .idxAddrS 10 (.t 35) (.t 36)⟩, ⟨some 38, none, .loadN 10 (.t 37)⟩, ⟨some 10, none, .alloc [(.str ⟨#[]⟩), (.int .i64 0), (.int .i64 0), (.int .i64 0), (.int .i64 0), (.int .i64 0), (.int .i64 0), (.bool false), (.bool false), (.bool false)]⟩, ⟨none, none, .storeN 10 (.t 10) (.t 38)⟩]) <|
      .seq (.draw [(11, [(.bool false), (.bool false), (.bool false)]), (12, [(.bool false), (.bool false), (.bool false)])] [⟨some 39, none, .fieldAddr 1 (.t 7)⟩, ⟨some 40, none, .loadN 3 (.t 39)⟩, ⟨some 41, none, .fieldAddr 1 (.t 10)⟩, ⟨some 42, none, .loadN 3 (.t 41)⟩, ⟨some 43, none, .call .pure 40 [(.t 40), (.t 42)]⟩, ⟨some 44, none, .fieldAddr 4 (.t 7)⟩, ⟨some 45, none, .loadN 3 (.t 44)⟩, ⟨some 46, none, .fieldAddr 4 (.t 10)⟩, ⟨some 47, none, .loadN 3 (.t 46)⟩, ⟨some 48, none, .call .pure 40 [(.t 45), (.t 47)]⟩, ⟨none, none, .idle⟩, ⟨none, none, .idle⟩, ⟨none, none, .storeN 3 (.t 11) (.t 43)⟩, ⟨none, none, .storeN 3 (.t 12) (.t 48)⟩] []) <|
      .seq (.ops [⟨some 49, none, .mov (.c (.int .i64 0))⟩]) <|
      .block 2 (.loop (.seq (.ops [⟨some 50, none, .bin .num .lss (.t 49) (.c (.int .i64 3))⟩]) <|
        .seq (.cond (.t 50) (.skip) (.exit 2)) <|
        .seq (.block 3 (.seq (.ops [⟨some 51, none, .mov (.t 49)⟩, ⟨some 13, none, .mov (.t 51)⟩]) <|
         .ops [⟨some 52, none, .mov (.t 5)⟩, ⟨some 53, none, .mov (.t 6)⟩, ⟨some 54, none, .mov (.t 13)⟩, ⟨some 55, none, .mov (.t 13)⟩, ⟨some 56, none, .idxAddrA 3 1 (.t 11) (.t 55)⟩, ⟨some 57, none, .load1 (.t 56)⟩, ⟨some 58, none, .mov (.t 57)⟩, ⟨some 59, some (58, false), .mov (.t 13)⟩, ⟨some 60, some (58, false), .idxAddrA 3 1 (.t 12) (.t 59)⟩, ⟨some 61, some (58, false), .load1 (.t 60)⟩, ⟨some 62, none, .pick (.t 58) (.c (.bool true)) (.t 61)⟩, ⟨some 63, none, .idxAddrS 3 (.t 52) (.t 53)⟩, ⟨some 64, none, .idxAddrA 3 1 (.t 63) (.t 54)⟩, ⟨none, none, .store1 (.t 64) (.t 62)⟩])) <|
        .ops [⟨some 65, none, .bin .num .add (.t 49) (.c (.int .i64 1))⟩, ⟨some 49, none, .mov (.t 65)⟩]))) (.skip))) <|
    .ops [⟨some 66, none, .bin .num .add (.t 21) (.c (.int .i64 1))⟩, ⟨some 21, none, .mov (.t 66)⟩]))) <|
  .seq (.ops [⟨some 67, none, .mov (.t 5)⟩, ⟨some 4, none, .mov (.t 67)⟩]) <|
  .ret
def v25 : VFunc := ⟨68, [.tmp 4], c25⟩
/-- berthing/berthingref05.Changed -/
def c26 : VCode :=
  .seq (.ops [⟨some 2, none, .box (.t 0)⟩, ⟨some 3, none, .box (.t 1)⟩, ⟨some 4, none, .mov (.c (.sl .nil 0 []))⟩]) <|
  .seq (.ops [⟨some 5, none, .mov (.c (.sl .nil 0 []))⟩]) <|
  .seq (.seq (.ops [⟨some 11, none, .fieldAddr 3 (.t 2)⟩, ⟨some 12, none, .load1 (.t 11)⟩, ⟨some 13, none, .lenS (.t 12)⟩, ⟨some 14, none, .mov (.c (.int .i64 0))⟩]) <|
  .block 0 (.loop (.seq (.ops [⟨some 15, none, .bin .num .lss (.t 14) (.t 13)⟩]) <|
    .seq (.cond (.t 15) (.skip) (.exit 0)) <|
    .seq (.block 1 (.seq (.ops [⟨some 16, none, .idxAddrS 10 (.t 12) (.t 14)⟩, ⟨some 17, none, .loadN 10 (.t 16)⟩, ⟨some 7, none, .alloc [(.str ⟨#[]⟩), (.int .i64 0), (.int .i64 0), (.int .i64 0), (.int .i64 0), (.int .i64 0), (.int .i64 0), (.bool false), (.bool false), (.bool false)]⟩, ⟨none, none, .storeN 10 (.t 7) (.t 17)⟩]) <|
     .seq (.ops [⟨some 8, none, .alloc [(.bool false), (.bool false), (.bool false)]⟩]) <|
     .seq (.ops [⟨some 18, none, .loadN 4 (.t 3)⟩, ⟨some 19, none, .fieldAddr 0 (.t 7)⟩, ⟨some 20, none, .load1 (.t 19)⟩, ⟨some 21, none, .call .pure 17 [(.t 18), (.t 20)]⟩, ⟨some 9, none, .mov (.t 21)⟩]) <|
     .seq (.seq (.ops [⟨some 22, none, .mov (.t 9)⟩, ⟨some 23, none, .bin .num .geq (.t 22) (.c (.int .i64 0))⟩]) <|
     .cond (.t 23) (.seq (.ops [⟨some 24, none, .fieldAddr 3 (.t 3)⟩, ⟨some 25, none, .load1 (.t 24)⟩, ⟨some 26, none, .mov (.t 9)⟩, ⟨some 27, none, .idxAddrS 10 (.t 25) (.t 26)⟩, ⟨some 28, none, .loadN 10 (.t 27)⟩, ⟨some 10, none, .alloc [(.str ⟨#[]⟩), (.int .i64 0), (.int .i64 0), (.int .i64 0), (.int .i64 0), (.int .i64 0), (.int .i64 0), (.bool false), (.bool false), (.bool false)]⟩, ⟨none, none, .storeN 10 (.t 10) (.t 28)⟩]) <|
      .seq (.ops [⟨some 29, none, .fieldAddr 1 (.t 7)⟩, ⟨some 30, none, .fieldAddr 0 (.t 29)⟩, ⟨some 31, none, .load1 (.t 30)⟩, ⟨some 32, none, .fieldAddr 1 (.t 10)⟩, ⟨some 33, none, .fieldAddr 0 (.t 32)⟩, ⟨some 34, none, .load1 (.t 33)⟩, ⟨some 35, none, .bin .num .neq (.t 31) (.t 34)⟩, ⟨some 36, none, .mov (.t 35)⟩, ⟨some 37, some (36, false), .fieldAddr 4 (.t 7)⟩, ⟨some 38, some (36, false), .fieldAddr 0 (.t 37)⟩, ⟨some 39, some (36, false), .load1 (.t 38)⟩, ⟨some 40, some (36, false), .fieldAddr 4 (.t 10)⟩, ⟨some 41, some (36, false), .fieldAddr 0 (.t 40)⟩, ⟨some 42, some (36, false), .load1 (.t 41)⟩, ⟨some 43, some (36, false), .bin .num .neq (.t 39) (.t 42)⟩, ⟨some 44, none, .pick (.t 36) (.c (.bool true)) (.t 43)⟩, ⟨some 45, none, .idxAddrA 3 1 (.t 8) (.c (.int .i64 0))⟩, ⟨none, none, .store1 (.t 45) (.t 44)⟩]) <|
      .seq (.ops [⟨some 46, none, .fieldAddr 1 (.t 7)⟩, ⟨some 47, none, .fieldAddr 1 (.t 46)⟩, ⟨some 48, none, .load1 (.t 47)⟩, ⟨some 49, none, .fieldAddr 1 (.t 10)⟩, ⟨some 50, none, .fieldAddr 1 (.t 49)⟩, ⟨some 51, none, .load1 (.t 50)⟩, ⟨some 52, none, .bin .num .neq (.t 48) (.t 51)⟩, ⟨some 53, none, .mov (.t 52)⟩, ⟨some 54, some (53, false), .fieldAddr 4 (.t 7)⟩, ⟨some 55, some (53, false), .fieldAddr 1 (.t 54)⟩, ⟨some 56, some (53, false), .load1 (.t 55)⟩, ⟨some 57, some (53, false), .fieldAddr 4 (.t 10)⟩, ⟨some 58, some (53, false), .fieldAddr 1 (.t 57)⟩, ⟨some 59, some (53, false), .load1 (.t 58)⟩, ⟨some 60, some (53, false), .bin .num .neq (.t 56) (.t 59)⟩, ⟨some 61, none, .pick (.t 53) (.c (.bool true)) (.t 60)⟩, ⟨some 62, none, .idxAddrA 3 1 (.t 8) (.c (.int .i64 1))⟩, ⟨none, none, .store1 (.t 62) (.t 61)⟩]) <|
      .ops [⟨some 63, none, .fieldAddr 1 (.t 7)⟩, ⟨some 64, none, .fieldAddr 2 (.t 63)⟩, ⟨some 65, none, .load1 (.t 64)⟩, ⟨some 66, none, .fieldAddr 1 (.t 10)⟩, ⟨some 67, none, .fieldAddr 2 (.t 66)⟩, ⟨some 68, none, .load1 (.t 67)⟩, ⟨some 69, none, .bin .num .neq (.t 65) (.t 68)⟩, ⟨some 70, none, .mov (.t 69)⟩, ⟨some 71, some (70, false), .fieldAddr 4 (.t 7)⟩, ⟨some 72, some (70, false), .fieldAddr 2 (.t 71)⟩, ⟨some 73, some (70, false), .load1 (.t 72)⟩, ⟨some 74, some (70, false), .fieldAddr 4 (.t 10)⟩, ⟨some 75, some (70, false), .fieldAddr 2 (.t 74)⟩, ⟨some 76, some (70, false), .load1 (.t 75)⟩, ⟨some 77, some (70, false), .bin .num .neq (.t 73) (.t 76)⟩, ⟨some 78, none, .pick (.t 70) (.c (.bool true)) (.t 77)⟩, ⟨some 79, none, .idxAddrA 3 1 (.t 8) (.c (.int .i64 2))⟩, ⟨none, none, .store1 (.t 79) (.t 78)⟩]) (.skip)) <|
     .ops [⟨some 80, none, .mov (.t 5)⟩, ⟨some 81, none, .loadN 3 (.t 8)⟩, ⟨some 82, none, .buildSlice false 3 1 [(.bool false), (.bool false), (.bool false)] [(0, 3, (.t 81))]⟩, ⟨some 83, none, .append false false 3 3 (.t 80) (.t 82)⟩, ⟨some 5, none, .mov (.t 83)⟩])) <|
    .ops [⟨some 84, none, .bin .num .add (.t 14) (.c (.int .i64 1))⟩, ⟨some 14, none, .mov (.t 84)⟩]))) <|
  .seq (.ops [⟨some 85, none, .mov (.t 5)⟩, ⟨some 4, none, .mov (.t 85)⟩]) <|
  .ret
def v26 : VFunc := ⟨86, [.tmp 4], c26⟩
/-- berthing/spec.Restarts -/
def c27 : VCode :=
  .seq (.ops [⟨some 2, none, .box (.t 0)⟩, ⟨some 3, none, .box (.t 1)⟩, ⟨some 4, none, .mov (.c (.sl .nil 0 []))⟩]) <|
  .seq (.ops [⟨some 5, none, .mov (.c (.sl .nil 0 []))⟩]) <|
  .seq (.skip) <|
  .seq (.seq (.ops [⟨some 10, none, .loadN 4 (.t 2)⟩, ⟨some 11, none, .loadN 4 (.t 3)⟩, ⟨some 12, none, .call .pure 25 [(.t 10), (.t 11)]⟩, ⟨some 13, none, .lenS (.t 12)⟩, ⟨some 14, none, .mov (.c (.int .i64 0))⟩]) <|
  .block 0 (.loop (.seq (.ops [⟨some 15, none, .bin .num .lss (.t 14) (.t 13)⟩]) <|
    .seq (.cond (.t 15) (.skip) (.exit 0)) <|
    .seq (.block 1 (.seq (.ops [⟨some 16, none, .mov (.t 14)⟩, ⟨some 17, none, .idxAddrS 3 (.t 12) (.t 14)⟩, ⟨some 18, none, .loadN 3 (.t 17)⟩, ⟨some 7, none, .alloc [(.bool false), (.bool false), (.bool false)]⟩, ⟨some 6, none, .mov (.t 16)⟩, ⟨none, none, .storeN 3 (.t 7) (.t 18)⟩]) <|
     .seq (.ops [⟨some 19, none, .loadN 3 (.t 7)⟩, ⟨some 20, none, .mov (.c (.int .i64 0))⟩]) <|
     .block 2 (.loop (.seq (.ops [⟨some 21, none, .bin .num .lss (.t 20) (.c (.int .i64 3))⟩]) <|
       .seq (.cond (.t 21) (.skip) (.exit 2)) <|
       .seq (.block 3 (.seq (.ops [⟨some 22, none, .mov (.t 20)⟩, ⟨some 23, none, .idxA1 3 (.t 19) (.t 20)⟩, ⟨some 8, none, .mov (.t 22)⟩, ⟨some 9, none, .mov (.t 23)⟩]) <|
        .seq (.ops [⟨some 24, none, .mov (.t 9)⟩, ⟨some 25, none, .mov (.t 24)⟩, ⟨some 26, some (25, true), .fieldAddr 3 (.t 2)⟩, ⟨some 27, some (25, true), .load1 (.t 26)⟩, ⟨some 28, some (25, true), .mov (.t 6)⟩, ⟨some 29, some (25, true), .mov (.t 8)⟩, ⟨some 30, some (25, true), .idxAddrS 10 (.t 27) (.t 28)⟩, ⟨some 31, some (25, true), .fieldAddr 7 (.t 30)⟩, ⟨some 32, some (25, true), .idxAddrA 3 1 (.t 31) (.t 29)⟩, ⟨some 33, some (25, true), .load1 (.t 32)⟩, ⟨some 34, none, .pick (.t 25) (.t 33) (.c (.bool false))⟩]) <|
        .cond (.t 34) (.seq (.ops [⟨some 35, none, .mov (.t 5)⟩, ⟨some 36, none, .fieldAddr 3 (.t 2)⟩, ⟨some 37, none, .load1 (.t 36)⟩, ⟨some 38, none, .mov (.t 6)⟩, ⟨some 39, none, .idxAddrS 10 (.t 37) (.t 38)⟩, ⟨some 40, none, .fieldAddr 0 (.t 39)⟩, ⟨some 41, none, .load1 (.t 40)⟩, ⟨some 42, none, .buildSlice false 1 1 [(.str ⟨#[]⟩)] [(0, 1, (.t 41))]⟩, ⟨some 43, none, .append false false 1 16 (.t 35) (.t 42)⟩, ⟨some 5, none, .mov (.t 43)⟩]) <|
         .exit 1) (.skip))) <|
       .ops [⟨some 44, none, .bin .num .add (.t 20) (.c (.int .i64 1))⟩, ⟨some 20, none, .mov (.t 44)⟩])))) <|
    .ops [⟨some 45, none, .bin .num .add (.t 14) (.c (.int .i64 1))⟩, ⟨some 14, none, .mov (.t 45)⟩]))) <|
  .seq (.ops [⟨some 46, none, .mov (.t 5)⟩, ⟨some 4, none, .mov (.t 46)⟩]) <|
  .ret
def v27 : VFunc := ⟨47, [.tmp 4], c27⟩
/-- berthing/berthingref05.Restarts -/
def c28 : VCode :=
  .seq (.ops [⟨some 2, none, .box (.t 0)⟩, ⟨some 3, none, .box (.t 1)⟩, ⟨some 4, none, .mov (.c (.sl .nil 0 []))⟩]) <|
  .seq (.ops [⟨some 5, none, .mov (.c (.sl .nil 0 []))⟩]) <|
  .seq (.seq (.ops [⟨some 9, none, .loadN 4 (.t 2)⟩, ⟨some 10, none, .loadN 4 (.t 3)⟩, ⟨some 11, none, .call .pure 26 [(.t 9), (.t 10)]⟩, ⟨some 12, none, .lenS (.t 11)⟩, ⟨some 13, none, .mov (.c (.int .i64 0))⟩]) <|
  .block 0 (.loop (.seq (.ops [⟨some 14, none, .bin .num .lss (.t 13) (.t 12)⟩]) <|
    .seq (.cond (.t 14) (.skip) (.exit 0)) <|
    .seq (.block 1 (.seq (.ops [⟨some 15, none, .mov (.t 13)⟩, ⟨some 16, none, .idxAddrS 3 (.t 11) (.t 13)⟩, ⟨some 17, none, .loadN 3 (.t 16)⟩, ⟨some 7, none, .alloc [(.bool false), (.bool false), (.bool false)]⟩, ⟨some 6, none, .mov (.t 15)⟩, ⟨none, none, .storeN 3 (.t 7) (.t 17)⟩]) <|
     .seq (.ops [⟨some 18, none, .fieldAddr 3 (.t 2)⟩, ⟨some 19, none, .load1 (.t 18)⟩, ⟨some 20, none, .mov (.t 6)⟩, ⟨some 21, none, .idxAddrS 10 (.t 19) (.t 20)⟩, ⟨some 22, none, .loadN 10 (.t 21)⟩, ⟨some 8, none, .alloc [(.str ⟨#[]⟩), (.int .i64 0), (.int .i64 0), (.int .i64 0), (.int .i64 0), (.int .i64 0), (.int .i64 0), (.bool false), (.bool false), (.bool false)]⟩, ⟨none, none, .storeN 10 (.t 8) (.t 22)⟩]) <|
     .seq (.ops [⟨some 23, none, .idxAddrA 3 1 (.t 7) (.c (.int .i64 0))⟩, ⟨some 24, none, .load1 (.t 23)⟩, ⟨some 25, none, .mov (.t 24)⟩, ⟨some 26, some (25, true), .fieldAddr 7 (.t 8)⟩, ⟨some 27, some (25, true), .idxAddrA 3 1 (.t 26) (.c (.int .i64 0))⟩, ⟨some 28, some (25, true), .load1 (.t 27)⟩, ⟨some 29, none, .pick (.t 25) (.t 28) (.c (.bool false))⟩, ⟨some 30, none, .mov (.t 29)⟩, ⟨some 31, some (30, false), .idxAddrA 3 1 (.t 7) (.c (.int .i64 1))⟩, ⟨some 32, some (30, false), .load1 (.t 31)⟩, ⟨some 33, some (30, false), .mov (.t 32)⟩, ⟨some 34, some (33, true), .fieldAddr 7 (.t 8)⟩, ⟨some 35, some (33, true), .idxAddrA 3 1 (.t 34) (.c (.int .i64 1))⟩, ⟨some 36, some (33, true), .load1 (.t 35)⟩, ⟨some 37, some (30, false), .pick (.t 33) (.t 36) (.c (.bool false))⟩, ⟨some 38, none, .pick (.t 30) (.c (.bool true)) (.t 37)⟩, ⟨some 39, none, .mov (.t 38)⟩, ⟨some 40, some (39, false), .idxAddrA 3 1 (.t 7) (.c (.int .i64 2))⟩, ⟨some 41, some (39, false), .load1 (.t 40)⟩, ⟨some 42, some (39, false), .mov (.t 41)⟩, ⟨some 43, some (42, true), .fieldAddr 7 (.t 8)⟩, ⟨some 44, some (42, true), .idxAddrA 3 1 (.t 43) (.c (.int .i64 2))⟩, ⟨some 45, some (42, true), .load1 (.t 44)⟩, ⟨some 46, some (39, false), .pick (.t 42) (.t 45) (.c (.bool false))⟩, ⟨some 47, none, .pick (.t 39) (.c (.bool true)) (.t 46)⟩]) <|
     .cond (.t 47) (.ops [⟨some 48, none, .mov (.t 5)⟩, ⟨some 49, none, .fieldAddr 0 (.t 8)⟩, ⟨some 50, none, .load1 (.t 49)⟩, ⟨some 51, none, .buildSlice false 1 1 [(.str ⟨#[]⟩)] [(0, 1, (.t 50))]⟩, ⟨some 52, none, .append false false 1 16 (.t 48) (.t 51)⟩, ⟨some 5, none, .mov (.t 52)⟩]) (.skip))) <|
    .ops [⟨some 53, none, .bin .num .add (.t 13) (.c (.int .i64 1))⟩, ⟨some 13, none, .mov (.t 53)⟩]))) <|
  .seq (.ops [⟨some 54, none, .mov (.t 5)⟩, ⟨some 4, none, .mov (.t 54)⟩]) <|
  .ret
def v28 : VFunc := ⟨55, [.tmp 4], c28⟩
/-- berthing/spec.Resize -/
def c29 : VCode :=
  .seq (.ops [⟨some 2, none, .box (.t 0)⟩, ⟨some 4, none, .alloc [(.str ⟨#[]⟩), (.int .i64 0), (.int .i64 0), (.sl .nil 0 [])]⟩, ⟨some 5, none, .mov (.c (.int .i64 0))⟩]) <|
  .seq (.seq (.ops [⟨some 12, none, .loadN 4 (.t 2)⟩, ⟨some 13, none, .call .shared 18 [(.t 12)]⟩, ⟨some 14, none, .un .not (.t 13)⟩, ⟨some 15, none, .mov (.t 14)⟩, ⟨some 16, some (15, false), .mov (.t 1)⟩, ⟨some 17, some (15, false), .lenS (.t 16)⟩, ⟨some 18, some (15, false), .bin .num .eql (.t 17) (.c (.int .i64 0))⟩, ⟨some 19, none, .pick (.t 15) (.c (.bool true)) (.t 18)⟩]) <|
  .cond (.t 19) (.seq (.ops [⟨some 20, none, .build [(.str ⟨#[]⟩), (.int .i64 0), (.int .i64 0), (.sl .nil 0 [])] []⟩, ⟨none, none, .storeN 4 (.t 4) (.t 20)⟩, ⟨some 5, none, .mov (.c (.int .i64 2))⟩]) <|
   .ret) (.skip)) <|
  .seq (.ops [⟨some 21, none, .loadN 4 (.t 2)⟩, ⟨some 6, none, .alloc [(.str ⟨#[]⟩), (.int .i64 0), (.int .i64 0), (.sl .nil 0 [])]⟩, ⟨none, none, .storeN 4 (.t 6) (.t 21)⟩]) <|
  .seq (.ops [⟨some 22, none, .fieldAddr 3 (.t 2)⟩, ⟨some 23, none, .load1 (.t 22)⟩, ⟨some 24, none, .call .thaw 41 [(.t 23)]⟩, ⟨some 25, none, .fieldAddr 3 (.t 6)⟩, ⟨none, none, .store1 (.t 25) (.t 24)⟩]) <|
  .seq (.ops [⟨some 7, none, .alloc [(.bool false), (.bool false), (.bool false), (.bool false), (.bool false), (.bool false)]⟩]) <|
  .seq (.seq (.ops [⟨some 26, none, .mov (.t 1)⟩, ⟨some 27, none, .lenS (.t 26)⟩, ⟨some 28, none, .mov (.c (.int .i64 0))⟩]) <|
  .block 0 (.loop (.seq (.ops [⟨some 29, none, .bin .num .lss (.t 28) (.t 27)⟩]) <|
    .seq (.cond (.t 29) (.skip) (.exit 0)) <|
    .seq (.block 1 (.seq (.ops [⟨some 30, none, .idxAddrS 7 (.t 26) (.t 28)⟩, ⟨some 31, none, .loadN 7 (.t 30)⟩, ⟨some 9, none, .alloc [(.str ⟨#[]⟩), (.int .i64 0), (.int .i64 0), (.int .i64 0), (.int .i64 0), (.int .i64 0), (.int .i64 0)]⟩, ⟨none, none, .storeN 7 (.t 9) (.t 31)⟩]) <|
     .seq (.ops [⟨some 33, none, .loadN 4 (.t 2)⟩, ⟨some 34, none, .fieldAddr 0 (.t 9)⟩, ⟨some 35, none, .load1 (.t 34)⟩, ⟨some 36, none, .call .shared 16 [(.t 33), (.t 35)]⟩, ⟨some 32, none, .mov (.t 36)⟩, ⟨some 37, none, .extract 0 (.t 32)⟩, ⟨some 38, none, .extract 1 (.t 32)⟩, ⟨some 10, none, .mov (.t 37)⟩, ⟨some 11, none, .mov (.t 38)⟩]) <|
     .seq (.block 2 (.seq (.ops [⟨some 40, none, .mov (.t 11)⟩, ⟨some 41, none, .un .not (.t 40)⟩, ⟨some 39, none, .mov (.t 41)⟩]) <|
      .cond (.t 39) (.seq (.ops [⟨some 42, none, .build [(.str ⟨#[]⟩), (.int .i64 0), (.int .i64 0), (.sl .nil 0 [])] []⟩, ⟨none, none, .storeN 4 (.t 4) (.t 42)⟩, ⟨some 5, none, .mov (.c (.int .i64 21))⟩]) <|
       .ret) (.seq (.ops [⟨some 44, none, .mov (.t 10)⟩, ⟨some 45, none, .idxAddrA 6 1 (.t 7) (.t 44)⟩, ⟨some 46, none, .load1 (.t 45)⟩, ⟨some 43, none, .mov (.t 46)⟩]) <|
       .cond (.t 43) (.seq (.ops [⟨some 47, none, .build [(.str ⟨#[]⟩), (.int .i64 0), (.int .i64 0), (.sl .nil 0 [])] []⟩, ⟨none, none, .storeN 4 (.t 4) (.t 47)⟩, ⟨some 5, none, .mov (.c (.int .i64 22))⟩]) <|
        .ret) (.seq (.ops [⟨some 49, none, .fieldAddr 3 (.t 2)⟩, ⟨some 50, none, .load1 (.t 49)⟩, ⟨some 51, none, .mov (.t 10)⟩, ⟨some 52, none, .idxAddrS 10 (.t 50) (.t 51)⟩, ⟨some 53, none, .fieldAddr 4 (.t 52)⟩, ⟨some 54, none, .loadN 3 (.t 53)⟩, ⟨some 55, none, .fieldAddr 4 (.t 9)⟩, ⟨some 56, none, .loadN 3 (.t 55)⟩, ⟨some 57, none, .call .pure 42 [(.t 54), (.t 56)]⟩, ⟨some 48, none, .mov (.t 57)⟩]) <|
        .cond (.t 48) (.seq (.ops [⟨some 58, none, .build [(.str ⟨#[]⟩), (.int .i64 0), (.int .i64 0), (.sl .nil 0 [])] []⟩, ⟨none, none, .storeN 4 (.t 4) (.t 58)⟩, ⟨some 5, none, .mov (.c (.int .i64 28))⟩]) <|
         .ret) (.skip))))) <|
     .seq (.ops [⟨some 59, none, .mov (.t 10)⟩, ⟨some 60, none, .idxAddrA 6 1 (.t 7) (.t 59)⟩, ⟨none, none, .store1 (.t 60) (.c (.bool true))⟩]) <|
     .draw [] [⟨some 61, none, .fieldAddr 3 (.t 6)⟩, ⟨some 62, none, .load1 (.t 61)⟩, ⟨some 63, none, .mov (.t 10)⟩, ⟨some 64, none, .fieldAddr 3 (.t 6)⟩, ⟨some 65, none, .load1 (.t 64)⟩, ⟨some 66, none, .mov (.t 10)⟩, ⟨some 67, none, .fieldAddr 1 (.t 9)⟩, ⟨some 68, none, .loadN 3 (.t 67)⟩, ⟨some 69, none, .fieldAddr 4 (.t 9)⟩, ⟨some 70, none, .loadN 3 (.t 69)⟩, ⟨some 71, none, .idxAddrS 10 (.t 62) (.t 63)⟩, ⟨some 72, none, .fieldAddr 1 (.t 71)⟩, ⟨none, none, .storeN 3 (.t 72) (.t 68)⟩, ⟨some 73, none, .idxAddrS 10 (.t 65) (.t 66)⟩, ⟨some 74, none, .fieldAddr 4 (.t 73)⟩, ⟨none, none, .storeN 3 (.t 74) (.t 70)⟩] [(4, 12), (9, 12)])) <|
    .ops [⟨some 75, none, .bin .num .add (.t 28) (.c (.int .i64 1))⟩, ⟨some 28, none, .mov (.t 75)⟩]))) <|
  .seq (.block 3 (.seq (.ops [⟨some 77, none, .loadN 4 (.t 6)⟩, ⟨some 78, none, .call .shared 18 [(.t 77)]⟩, ⟨some 79, none, .un .not (.t 78)⟩, ⟨some 76, none, .mov (.t 79)⟩]) <|
   .cond (.t 76) (.seq (.ops [⟨some 80, none, .build [(.str ⟨#[]⟩), (.int .i64 0), (.int .i64 0), (.sl .nil 0 [])] []⟩, ⟨none, none, .storeN 4 (.t 4) (.t 80)⟩, ⟨some 5, none, .mov (.c (.int .i64 2))⟩]) <|
    .ret) (.seq (.draw [] [⟨some 82, none, .loadN 4 (.t 6)⟩, ⟨some 83, none, .call .shared 20 [(.t 82)]⟩, ⟨some 84, none, .loadN 4 (.t 2)⟩, ⟨some 85, none, .call .shared 20 [(.t 84)]⟩, ⟨some 86, none, .bin .num .neq (.t 83) (.t 85)⟩, ⟨some 81, none, .mov (.t 86)⟩] [(2, 1)]) <|
    .cond (.t 81) (.seq (.ops [⟨some 87, none, .build [(.str ⟨#[]⟩), (.int .i64 0), (.int .i64 0), (.sl .nil 0 [])] []⟩, ⟨none, none, .storeN 4 (.t 4) (.t 87)⟩, ⟨some 5, none, .mov (.c (.int .i64 28))⟩]) <|
     .ret) (.skip)))) <|
  .seq (.ops [⟨some 88, none, .loadN 4 (.t 6)⟩, ⟨none, none, .storeN 4 (.t 4) (.t 88)⟩, ⟨some 5, none, .mov (.c (.int .i64 0))⟩]) <|
  .ret
def v29 : VFunc := ⟨89, [.cellN 4 4, .tmp 5], c29⟩
/-- berthing/berthingref05.Resize -/
def c30 : VCode :=
  .seq (.ops [⟨some 2, none, .box (.t 0)⟩, ⟨some 4, none, .alloc [(.str ⟨#[]⟩), (.int .i64 0), (.int .i64 0), (.sl .nil 0 [])]⟩, ⟨some 5, none, .mov (.c (.int .i64 0))⟩]) <|
  .seq (.seq (.ops [⟨some 13, none, .loadN 4 (.t 2)⟩, ⟨some 14, none, .call .shared 19 [(.t 13)]⟩, ⟨some 15, none, .un .not (.t 14)⟩, ⟨some 16, none, .mov (.t 15)⟩, ⟨some 17, some (16, false), .mov (.t 1)⟩, ⟨some 18, some (16, false), .lenS (.t 17)⟩, ⟨some 19, some (16, false), .bin .num .eql (.t 18) (.c (.int .i64 0))⟩, ⟨some 20, none, .pick (.t 16) (.c (.bool true)) (.t 19)⟩]) <|
  .cond (.t 20) (.seq (.ops [⟨some 21, none, .build [(.str ⟨#[]⟩), (.int .i64 0), (.int .i64 0), (.sl .nil 0 [])] []⟩, ⟨none, none, .storeN 4 (.t 4) (.t 21)⟩, ⟨some 5, none, .mov (.c (.int .i64 2))⟩]) <|
   .ret) (.skip)) <|
  .seq (.ops [⟨some 22, none, .loadN 4 (.t 2)⟩, ⟨some 6, none, .alloc [(.str ⟨#[]⟩), (.int .i64 0), (.int .i64 0), (.sl .nil 0 [])]⟩, ⟨none, none, .storeN 4 (.t 6) (.t 22)⟩]) <|
  .seq (.ops [⟨some 23, none, .buildSlice false 10 0 [] []⟩, ⟨some 24, none, .fieldAddr 3 (.t 2)⟩, ⟨some 25, none, .load1 (.t 24)⟩, ⟨some 26, none, .append true false 10 72 (.t 23) (.t 25)⟩, ⟨some 27, none, .fieldAddr 3 (.t 6)⟩, ⟨none, none, .store1 (.t 27) (.t 26)⟩]) <|
  .seq (.seq (.ops [⟨some 28, none, .mov (.t 1)⟩, ⟨some 29, none, .lenS (.t 28)⟩, ⟨some 30, none, .mov (.c (.int .i64 0))⟩]) <|
  .block 0 (.loop (.seq (.ops [⟨some 31, none, .bin .num .lss (.t 30) (.t 29)⟩]) <|
    .seq (.cond (.t 31) (.skip) (.exit 0)) <|
    .seq (.block 1 (.seq (.ops [⟨some 32, none, .mov (.t 30)⟩, ⟨some 33, none, .idxAddrS 7 (.t 28) (.t 30)⟩, ⟨some 34, none, .loadN 7 (.t 33)⟩, ⟨some 8, none, .alloc [(.str ⟨#[]⟩), (.int .i64 0), (.int .i64 0), (.int .i64 0), (.int .i64 0), (.int .i64 0), (.int .i64 0)]⟩, ⟨some 7, none, .mov (.t 32)⟩, ⟨none, none, .storeN 7 (.t 8) (.t 34)⟩]) <|
     .seq (.ops [⟨some 35, none, .loadN 4 (.t 2)⟩, ⟨some 36, none, .fieldAddr 0 (.t 8)⟩, ⟨some 37, none, .load1 (.t 36)⟩, ⟨some 38, none, .call .pure 17 [(.t 35), (.t 37)]⟩, ⟨some 9, none, .mov (.t 38)⟩]) <|
     .seq (.seq (.ops [⟨some 39, none, .mov (.t 9)⟩, ⟨some 40, none, .bin .num .lss (.t 39) (.c (.int .i64 0))⟩]) <|
     .cond (.t 40) (.seq (.ops [⟨some 41, none, .build [(.str ⟨#[]⟩), (.int .i64 0), (.int .i64 0), (.sl .nil 0 [])] []⟩, ⟨none, none, .storeN 4 (.t 4) (.t 41)⟩, ⟨some 5, none, .mov (.c (.int .i64 21))⟩]) <|
      .ret) (.skip)) <|
     .seq (.seq (.ops [⟨some 42, none, .mov (.t 1)⟩, ⟨some 43, none, .mov (.t 7)⟩, ⟨some 44, none, .sliceS 7 (.t 42) none (some (.t 43)) none⟩, ⟨some 45, none, .lenS (.t 44)⟩, ⟨some 46, none, .mov (.c (.int .i64 0))⟩]) <|
     .block 2 (.loop (.seq (.ops [⟨some 47, none, .bin .num .lss (.t 46) (.t 45)⟩]) <|
       .seq (.cond (.t 47) (.skip) (.exit 2)) <|
       .seq (.block 3 (.seq (.ops [⟨some 48, none, .idxAddrS 7 (.t 44) (.t 46)⟩, ⟨some 49, none, .loadN 7 (.t 48)⟩, ⟨some 11, none, .alloc [(.str ⟨#[]⟩), (.int .i64 0), (.int .i64 0), (.int .i64 0), (.int .i64 0), (.int .i64 0), (.int .i64 0)]⟩, ⟨none, none, .storeN 7 (.t 11) (.t 49)⟩]) <|
        .seq (.ops [⟨some 50, none, .fieldAddr 0 (.t 11)⟩, ⟨some 51, none, .load1 (.t 50)⟩, ⟨some 52, none, .fieldAddr 0 (.t 8)⟩, ⟨some 53, none, .load1 (.t 52)⟩, ⟨some 54, none, .bin .num .eql (.t 51) (.t 53)⟩]) <|
        .cond (.t 54) (.seq (.ops [⟨some 55, none, .build [(.str ⟨#[]⟩), (.int .i64 0), (.int .i64 0), (.sl .nil 0 [])] []⟩, ⟨none, none, .storeN 4 (.t 4) (.t 55)⟩, ⟨some 5, none, .mov (.c (.int .i64 22))⟩]) <|
         .ret) (.skip))) <|
       .ops [⟨some 56, none, .bin .num .add (.t 46) (.c (.int .i64 1))⟩, ⟨some 46, none, .mov (.t 56)⟩]))) <|
     .seq (.ops [⟨some 57, none, .fieldAddr 3 (.t 2)⟩, ⟨some 58, none, .load1 (.t 57)⟩, ⟨some 59, none, .mov (.t 9)⟩, ⟨some 60, none, .idxAddrS 10 (.t 58) (.t 59)⟩, ⟨some 61, none, .fieldAddr 4 (.t 60)⟩, ⟨some 62, none, .loadN 3 (.t 61)⟩, ⟨some 12, none, .alloc [(.int .i64 0), (.int .i64 0), (.int .i64 0)]⟩, ⟨none, none, .storeN 3 (.t 12) (.t 62)⟩]) <|
     .seq (.seq (.ops [⟨some 63, none, .fieldAddr 0 (.t 12)⟩, ⟨some 64, none, .load1 (.t 63)⟩, ⟨some 65, none, .bin .num .gtr (.t 64) (.c (.int .i64 0))⟩, ⟨some 66, none, .fieldAddr 4 (.t 8)⟩, ⟨some 67, none, .fieldAddr 0 (.t 66)⟩, ⟨some 68, none, .load1 (.t 67)⟩, ⟨some 69, none, .bin .num .neq (.t 68) (.c (.int .i64 0))⟩, ⟨some 70, none, .bin .bool .neq (.t 65) (.t 69)⟩, ⟨some 71, none, .mov (.t 70)⟩, ⟨some 72, some (71, false), .fieldAddr 1 (.t 12)⟩, ⟨some 73, some (71, false), .load1 (.t 72)⟩, ⟨some 74, some (71, false), .bin .num .gtr (.t 73) (.c (.int .i64 0))⟩, ⟨some 75, some (71, false), .fieldAddr 4 (.t 8)⟩, ⟨some 76, some (71, false), .fieldAddr 1 (.t 75)⟩, ⟨some 77, some (71, false), .load1 (.t 76)⟩, ⟨some 78, some (71, false), .bin .num .neq (.t 77) (.c (.int .i64 0))⟩, ⟨some 79, some (71, false), .bin .bool .neq (.t 74) (.t 78)⟩, ⟨some 80, none, .pick (.t 71) (.c (.bool true)) (.t 79)⟩]) <|
     .cond (.t 80) (.seq (.ops [⟨some 81, none, .build [(.str ⟨#[]⟩), (.int .i64 0), (.int .i64 0), (.sl .nil 0 [])] []⟩, ⟨none, none, .storeN 4 (.t 4) (.t 81)⟩, ⟨some 5, none, .mov (.c (.int .i64 28))⟩]) <|
      .ret) (.skip)) <|
     .seq (.ops [⟨some 82, none, .fieldAddr 3 (.t 6)⟩, ⟨some 83, none, .load1 (.t 82)⟩, ⟨some 84, none, .mov (.t 9)⟩, ⟨some 85, none, .fieldAddr 1 (.t 8)⟩, ⟨some 86, none, .loadN 3 (.t 85)⟩, ⟨some 87, none, .idxAddrS 10 (.t 83) (.t 84)⟩, ⟨some 88, none, .fieldAddr 1 (.t 87)⟩, ⟨none, none, .storeN 3 (.t 88) (.t 86)⟩]) <|
     .ops [⟨some 89, none, .fieldAddr 3 (.t 6)⟩, ⟨some 90, none, .load1 (.t 89)⟩, ⟨some 91, none, .mov (.t 9)⟩, ⟨some 92, none, .fieldAddr 4 (.t 8)⟩, ⟨some 93, none, .loadN 3 (.t 92)⟩, ⟨some 94, none, .idxAddrS 10 (.t 90) (.t 91)⟩, ⟨some 95, none, .fieldAddr 4 (.t 94)⟩, ⟨none, none, .storeN 3 (.t 95) (.t 93)⟩])) <|
    .ops [⟨some 96, none, .bin .num .add (.t 30) (.c (.int .i64 1))⟩, ⟨some 30, none, .mov (.t 96)⟩]))) <|
  .seq (.seq (.ops [⟨some 97, none, .loadN 4 (.t 6)⟩, ⟨some 98, none, .call .shared 19 [(.t 97)]⟩, ⟨some 99, none, .un .not (.t 98)⟩]) <|
  .cond (.t 99) (.seq (.ops [⟨some 100, none, .build [(.str ⟨#[]⟩), (.int .i64 0), (.int .i64 0), (.sl .nil 0 [])] []⟩, ⟨none, none, .storeN 4 (.t 4) (.t 100)⟩, ⟨some 5, none, .mov (.c (.int .i64 2))⟩]) <|
   .ret) (.skip)) <|
  .seq (.seq (.draw [] [⟨some 101, none, .loadN 4 (.t 6)⟩, ⟨some 102, none, .call .shared 21 [(.t 101)]⟩, ⟨some 103, none, .loadN 4 (.t 2)⟩, ⟨some 104, none, .call .shared 21 [(.t 103)]⟩, ⟨some 105, none, .bin .num .neq (.t 102) (.t 104)⟩] [(2, 1)]) <|
  .cond (.t 105) (.seq (.ops [⟨some 106, none, .build [(.str ⟨#[]⟩), (.int .i64 0), (.int .i64 0), (.sl .nil 0 [])] []⟩, ⟨none, none, .storeN 4 (.t 4) (.t 106)⟩, ⟨some 5, none, .mov (.c (.int .i64 28))⟩]) <|
   .ret) (.skip)) <|
  .seq (.ops [⟨some 107, none, .loadN 4 (.t 6)⟩, ⟨none, none, .storeN 4 (.t 4) (.t 107)⟩, ⟨some 5, none, .mov (.c (.int .i64 0))⟩]) <|
  .ret
def v30 : VFunc := ⟨108, [.cellN 4 4, .tmp 5], c30⟩
/-- berthing/vector.Right -/
def c31 : VCode :=
  .seq (.ops [⟨some 1, none, .box (.t 0)⟩, ⟨some 2, none, .mov (.c (.bool false))⟩]) <|
  .seq (.seq (.ops [⟨some 5, none, .loadN 3 (.t 1)⟩, ⟨some 6, none, .call .pure 43 [(.t 5)]⟩, ⟨some 7, none, .mov (.c (.int .i64 0))⟩]) <|
  .block 0 (.loop (.seq (.ops [⟨some 8, none, .bin .num .lss (.t 7) (.c (.int .i64 3))⟩]) <|
    .seq (.cond (.t 8) (.skip) (.exit 0)) <|
    .seq (.block 1 (.seq (.ops [⟨some 9, none, .mov (.t 7)⟩, ⟨some 10, none, .idxA1 3 (.t 6) (.t 7)⟩, ⟨some 3, none, .mov (.t 9)⟩, ⟨some 4, none, .mov (.t 10)⟩]) <|
     .seq (.ops [⟨some 11, none, .mov (.t 3)⟩, ⟨some 12, none, .mov (.t 4)⟩, ⟨some 13, none, .call .pure 44 [(.t 11), (.t 12)]⟩, ⟨some 14, none, .un .not (.t 13)⟩]) <|
     .cond (.t 14) (.seq (.ops [⟨some 2, none, .mov (.c (.bool false))⟩]) <|
      .ret) (.skip))) <|
    .ops [⟨some 15, none, .bin .num .add (.t 7) (.c (.int .i64 1))⟩, ⟨some 7, none, .mov (.t 15)⟩]))) <|
  .seq (.ops [⟨some 16, none, .fieldAddr 2 (.t 1)⟩, ⟨some 17, none, .load1 (.t 16)⟩, ⟨some 18, none, .bin .num .and (.t 17) (.c (.int .i64 2097151))⟩, ⟨some 19, none, .bin .num .eql (.t 18) (.c (.int .i64 0))⟩, ⟨some 2, none, .mov (.t 19)⟩]) <|
  .ret
def v31 : VFunc := ⟨20, [.tmp 2], c31⟩
/-- berthing/vector.At -/
def c32 : VCode :=
  .seq (.ops [⟨some 2, none, .box (.t 0)⟩, ⟨some 4, none, .mov (.c (.int .i64 0))⟩]) <|
  .seq (.seq (.ops [⟨some 5, none, .mov (.t 1)⟩, ⟨some 6, none, .bin .num .lss (.t 5) (.c (.int .i64 0))⟩, ⟨some 7, none, .mov (.t 6)⟩, ⟨some 8, some (7, false), .mov (.t 1)⟩, ⟨some 9, some (7, false), .bin .num .gtr (.t 8) (.c (.int .i64 2))⟩, ⟨some 10, none, .pick (.t 7) (.c (.bool true)) (.t 9)⟩]) <|
  .cond (.t 10) (.seq (.ops [⟨some 4, none, .mov (.c (.int .i64 0))⟩]) <|
   .ret) (.skip)) <|
  .seq (.ops [⟨some 11, none, .loadN 3 (.t 2)⟩, ⟨some 12, none, .call .pure 43 [(.t 11)]⟩, ⟨some 13, none, .mov (.t 1)⟩, ⟨some 14, none, .idxA1 3 (.t 12) (.t 13)⟩, ⟨some 4, none, .mov (.t 14)⟩]) <|
  .ret
def v32 : VFunc := ⟨15, [.tmp 4], c32⟩
/-- berthing/berthingref04.Right -/
def c33 : VCode :=
  .seq (.ops [⟨some 1, none, .box (.t 0)⟩, ⟨some 2, none, .mov (.c (.bool false))⟩]) <|
  .seq (.ops [⟨some 3, none, .fieldAddr 0 (.t 1)⟩, ⟨some 4, none, .load1 (.t 3)⟩, ⟨some 5, none, .bin .num .geq (.t 4) (.c (.int .i64 0))⟩, ⟨some 6, none, .mov (.t 5)⟩, ⟨some 7, some (6, true), .fieldAddr 0 (.t 1)⟩, ⟨some 8, some (6, true), .load1 (.t 7)⟩, ⟨some 9, some (6, true), .bin .num .leq (.t 8) (.c (.int .i64 1099511627776))⟩, ⟨some 10, none, .pick (.t 6) (.t 9) (.c (.bool false))⟩, ⟨some 11, none, .mov (.t 10)⟩, ⟨some 12, some (11, true), .fieldAddr 1 (.t 1)⟩, ⟨some 13, some (11, true), .load1 (.t 12)⟩, ⟨some 14, some (11, true), .bin .num .geq (.t 13) (.c (.int .i64 0))⟩, ⟨some 15, none, .pick (.t 11) (.t 14) (.c (.bool false))⟩, ⟨some 16, none, .mov (.t 15)⟩, ⟨some 17, some (16, true), .fieldAddr 1 (.t 1)⟩, ⟨some 18, some (16, true), .load1 (.t 17)⟩, ⟨some 19, some (16, true), .bin .num .leq (.t 18) (.c (.int .i64 1125899906842624))⟩, ⟨some 20, none, .pick (.t 16) (.t 19) (.c (.bool false))⟩, ⟨some 21, none, .mov (.t 20)⟩, ⟨some 22, some (21, true), .fieldAddr 2 (.t 1)⟩, ⟨some 23, some (21, true), .load1 (.t 22)⟩, ⟨some 24, some (21, true), .bin .num .geq (.t 23) (.c (.int .i64 0))⟩, ⟨some 25, none, .pick (.t 21) (.t 24) (.c (.bool false))⟩, ⟨some 26, none, .mov (.t 25)⟩, ⟨some 27, some (26, true), .fieldAddr 2 (.t 1)⟩, ⟨some 28, some (26, true), .load1 (.t 27)⟩, ⟨some 29, some (26, true), .bin .num .leq (.t 28) (.c (.int .i64 1125899906842624))⟩, ⟨some 30, none, .pick (.t 26) (.t 29) (.c (.bool false))⟩, ⟨some 31, none, .mov (.t 30)⟩, ⟨some 32, some (31, true), .fieldAddr 2 (.t 1)⟩, ⟨some 33, some (31, true), .load1 (.t 32)⟩, ⟨some 34, some (31, true), .bin .num .rem (.t 33) (.c (.int .i64 2097152))⟩, ⟨some 35, some (31, true), .bin .num .eql (.t 34) (.c (.int .i64 0))⟩, ⟨some 36, none, .pick (.t 31) (.t 35) (.c (.bool false))⟩, ⟨some 2, none, .mov (.t 36)⟩]) <|
  .ret
def v33 : VFunc := ⟨37, [.tmp 2], c33⟩
/-- berthing/berthingref04.Sum -/
def c34 : VCode :=
  .seq (.ops [⟨some 2, none, .alloc [(.int .i64 0), (.int .i64 0), (.int .i64 0)]⟩, ⟨some 3, none, .mov (.c (.bool false))⟩]) <|
  .seq (.ops [⟨some 8, none, .build [(.int .i64 0), (.int .i64 0), (.int .i64 0)] []⟩, ⟨some 4, none, .alloc [(.int .i64 0), (.int .i64 0), (.int .i64 0)]⟩, ⟨none, none, .storeN 3 (.t 4) (.t 8)⟩, ⟨some 5, none, .mov (.c (.bool true))⟩]) <|
  .seq (.seq (.ops [⟨some 9, none, .mov (.t 0)⟩, ⟨some 10, none, .lenS (.t 9)⟩, ⟨some 11, none, .mov (.c (.int .i64 0))⟩]) <|
  .block 0 (.loop (.seq (.ops [⟨some 12, none, .bin .num .lss (.t 11) (.t 10)⟩]) <|
    .seq (.cond (.t 12) (.skip) (.exit 0)) <|
    .seq (.block 1 (.seq (.ops [⟨some 13, none, .idxAddrS 3 (.t 9) (.t 11)⟩, ⟨some 14, none, .loadN 3 (.t 13)⟩, ⟨some 7, none, .alloc [(.int .i64 0), (.int .i64 0), (.int .i64 0)]⟩, ⟨none, none, .storeN 3 (.t 7) (.t 14)⟩]) <|
     .seq (.ops [⟨some 15, none, .mov (.t 5)⟩]) <|
     .cond (.t 15) (.ops [⟨some 17, none, .loadN 3 (.t 4)⟩, ⟨some 18, none, .loadN 3 (.t 7)⟩, ⟨some 19, none, .call .pure 45 [(.t 17), (.t 18)]⟩, ⟨some 16, none, .mov (.t 19)⟩, ⟨some 20, none, .extract 0 (.t 16)⟩, ⟨some 21, none, .extract 1 (.t 16)⟩, ⟨none, none, .storeN 3 (.t 4) (.t 20)⟩, ⟨some 5, none, .mov (.t 21)⟩]) (.skip))) <|
    .ops [⟨some 22, none, .bin .num .add (.t 11) (.c (.int .i64 1))⟩, ⟨some 11, none, .mov (.t 22)⟩]))) <|
  .seq (.ops [⟨some 23, none, .loadN 3 (.t 4)⟩, ⟨some 24, none, .mov (.t 5)⟩, ⟨none, none, .storeN 3 (.t 2) (.t 23)⟩, ⟨some 3, none, .mov (.t 24)⟩]) <|
  .ret
def v34 : VFunc := ⟨25, [.cellN 3 2, .tmp 3], c34⟩
/-- slices.IndexFunc[[]berthing/api.Container,berthing/api.Container] -/
def c35 : VCode :=
  .seq (.ops [⟨some 4, none, .mov (.c (.int .i64 0))⟩]) <|
  .seq (.seq (.ops [⟨some 6, none, .mov (.t 0)⟩, ⟨some 7, none, .lenS (.t 6)⟩, ⟨some 8, none, .mov (.c (.int .i64 0))⟩]) <|
  .block 0 (.loop (.seq (.ops [⟨some 9, none, .bin .num .lss (.t 8) (.t 7)⟩]) <|
    .seq (.cond (.t 9) (.skip) (.exit 0)) <|
    .seq (.block 1 (.seq (.ops [⟨some 10, none, .mov (.t 8)⟩, ⟨some 5, none, .mov (.t 10)⟩]) <|
     .seq (.ops [⟨some 11, none, .mov (.t 1)⟩, ⟨some 12, none, .mov (.t 0)⟩, ⟨some 13, none, .mov (.t 5)⟩, ⟨some 14, none, .idxAddrS 10 (.t 12) (.t 13)⟩, ⟨some 15, none, .loadN 10 (.t 14)⟩, ⟨some 16, none, .callV (.t 11) [(.t 15)]⟩]) <|
     .cond (.t 16) (.seq (.ops [⟨some 17, none, .mov (.t 5)⟩, ⟨some 4, none, .mov (.t 17)⟩]) <|
      .ret) (.skip))) <|
    .ops [⟨some 18, none, .bin .num .add (.t 8) (.c (.int .i64 1))⟩, ⟨some 8, none, .mov (.t 18)⟩]))) <|
  .seq (.ops [⟨some 4, none, .mov (.c (.int .i64 (-1)))⟩]) <|
  .ret
def v35 : VFunc := ⟨19, [.tmp 4], c35⟩
/-- berthing/spec.Find$1 -/
def c36 : VCode :=
  .seq (.ops [⟨some 2, none, .box (.t 0)⟩, ⟨some 3, none, .mov (.c (.bool false))⟩]) <|
  .seq (.ops [⟨some 4, none, .fieldAddr 0 (.t 2)⟩, ⟨some 5, none, .load1 (.t 4)⟩, ⟨some 6, none, .load1 (.t 1)⟩, ⟨some 7, none, .bin .num .eql (.t 5) (.t 6)⟩, ⟨some 3, none, .mov (.t 7)⟩]) <|
  .ret
def v36 : VFunc := ⟨8, [.tmp 3], c36⟩
/-- berthing/spec.sums -/
def c37 : VCode :=
  .seq (.ops [⟨some 1, none, .box (.t 0)⟩, ⟨some 2, none, .alloc [(.int .i64 0), (.int .i64 0), (.int .i64 0)]⟩, ⟨some 3, none, .alloc [(.int .i64 0), (.int .i64 0), (.int .i64 0)]⟩, ⟨some 4, none, .mov (.c (.bool false))⟩]) <|
  .seq (.ops [⟨some 5, none, .mov (.c (.sl .nil 0 []))⟩, ⟨some 6, none, .mov (.c (.sl .nil 0 []))⟩]) <|
  .seq (.seq (.ops [⟨some 13, none, .fieldAddr 3 (.t 1)⟩, ⟨some 14, none, .load1 (.t 13)⟩, ⟨some 15, none, .lenS (.t 14)⟩, ⟨some 16, none, .mov (.c (.int .i64 0))⟩]) <|
  .block 0 (.loop (.seq (.ops [⟨some 17, none, .bin .num .lss (.t 16) (.t 15)⟩]) <|
    .seq (.cond (.t 17) (.skip) (.exit 0)) <|
    .seq (.block 1 (.seq (.ops [⟨some 18, none, .idxAddrS 10 (.t 14) (.t 16)⟩, ⟨some 19, none, .loadN 10 (.t 18)⟩, ⟨some 8, none, .alloc [(.str ⟨#[]⟩), (.int .i64 0), (.int .i64 0), (.int .i64 0), (.int .i64 0), (.int .i64 0), (.int .i64 0), (.bool false), (.bool false), (.bool false)]⟩, ⟨none, none, .storeN 10 (.t 8) (.t 19)⟩]) <|
     .draw [] [⟨some 20, none, .mov (.t 5)⟩, ⟨some 21, none, .fieldAddr 1 (.t 8)⟩, ⟨some 22, none, .loadN 3 (.t 21)⟩, ⟨some 23, none, .buildSlice false 3 1 [(.int .i64 0), (.int .i64 0), (.int .i64 0)] [(0, 3, (.t 22))]⟩, ⟨some 24, none, .append false false 3 24 (.t 20) (.t 23)⟩, ⟨some 25, none, .mov (.t 6)⟩, ⟨some 26, none, .fieldAddr 4 (.t 8)⟩, ⟨some 27, none, .loadN 3 (.t 26)⟩, ⟨some 28, none, .buildSlice false 3 1 [(.int .i64 0), (.int .i64 0), (.int .i64 0)] [(0, 3, (.t 27))]⟩, ⟨some 29, none, .append false false 3 24 (.t 25) (.t 28)⟩, ⟨some 5, none, .mov (.t 24)⟩, ⟨some 6, none, .mov (.t 29)⟩] [(7, 4)])) <|
    .ops [⟨some 30, none, .bin .num .add (.t 16) (.c (.int .i64 1))⟩, ⟨some 16, none, .mov (.t 30)⟩]))) <|
  .seq (.ops [⟨some 32, none, .mov (.t 5)⟩, ⟨some 33, none, .call .pure 38 [(.t 32)]⟩, ⟨some 31, none, .mov (.t 33)⟩, ⟨some 34, none, .extract 0 (.t 31)⟩, ⟨some 35, none, .extract 1 (.t 31)⟩, ⟨some 9, none, .alloc [(.int .i64 0), (.int .i64 0), (.int .i64 0)]⟩, ⟨none, none, .storeN 3 (.t 9) (.t 34)⟩, ⟨some 10, none, .mov (.t 35)⟩]) <|
  .seq (.ops [⟨some 37, none, .mov (.t 6)⟩, ⟨some 38, none, .call .pure 38 [(.t 37)]⟩, ⟨some 36, none, .mov (.t 38)⟩, ⟨some 39, none, .extract 0 (.t 36)⟩, ⟨some 40, none, .extract 1 (.t 36)⟩, ⟨some 11, none, .alloc [(.int .i64 0), (.int .i64 0), (.int .i64 0)]⟩, ⟨none, none, .storeN 3 (.t 11) (.t 39)⟩, ⟨some 12, none, .mov (.t 40)⟩]) <|
  .seq (.draw [] [⟨some 41, none, .loadN 3 (.t 9)⟩, ⟨some 42, none, .loadN 3 (.t 11)⟩, ⟨some 43, none, .mov (.t 10)⟩, ⟨some 44, none, .mov (.t 43)⟩, ⟨some 45, some (44, true), .mov (.t 12)⟩, ⟨some 46, none, .pick (.t 44) (.t 45) (.c (.bool false))⟩, ⟨none, none, .storeN 3 (.t 2) (.t 41)⟩, ⟨none, none, .storeN 3 (.t 3) (.t 42)⟩, ⟨some 4, none, .mov (.t 46)⟩] [(1, 6)]) <|
  .ret
def v37 : VFunc := ⟨47, [.cellN 3 2, .cellN 3 3, .tmp 4], c37⟩
/-- berthing/vector.Sum -/
def c38 : VCode :=
  .seq (.ops [⟨some 2, none, .alloc [(.int .i64 0), (.int .i64 0), (.int .i64 0)]⟩, ⟨some 3, none, .mov (.c (.bool false))⟩]) <|
  .seq (.ops [⟨some 4, none, .alloc [(.int .i64 0), (.int .i64 0), (.int .i64 0)]⟩]) <|
  .seq (.seq (.ops [⟨some 9, none, .mov (.t 0)⟩, ⟨some 10, none, .lenS (.t 9)⟩, ⟨some 11, none, .mov (.c (.int .i64 0))⟩]) <|
  .block 0 (.loop (.seq (.ops [⟨some 12, none, .bin .num .lss (.t 11) (.t 10)⟩]) <|
    .seq (.cond (.t 12) (.skip) (.exit 0)) <|
    .seq (.block 1 (.seq (.ops [⟨some 13, none, .idxAddrS 3 (.t 9) (.t 11)⟩, ⟨some 14, none, .loadN 3 (.t 13)⟩, ⟨some 6, none, .alloc [(.int .i64 0), (.int .i64 0), (.int .i64 0)]⟩, ⟨none, none, .storeN 3 (.t 6) (.t 14)⟩]) <|
     .seq (.ops [⟨some 16, none, .loadN 3 (.t 4)⟩, ⟨some 17, none, .loadN 3 (.t 6)⟩, ⟨some 18, none, .call .pure 46 [(.t 16), (.t 17)]⟩, ⟨some 15, none, .mov (.t 18)⟩, ⟨some 19, none, .extract 0 (.t 15)⟩, ⟨some 20, none, .extract 1 (.t 15)⟩, ⟨some 7, none, .alloc [(.int .i64 0), (.int .i64 0), (.int .i64 0)]⟩, ⟨none, none, .storeN 3 (.t 7) (.t 19)⟩, ⟨some 8, none, .mov (.t 20)⟩]) <|
     .seq (.seq (.ops [⟨some 21, none, .mov (.t 8)⟩, ⟨some 22, none, .un .not (.t 21)⟩]) <|
     .cond (.t 22) (.seq (.ops [⟨some 23, none, .build [(.int .i64 0), (.int .i64 0), (.int .i64 0)] []⟩, ⟨none, none, .storeN 3 (.t 2) (.t 23)⟩, ⟨some 3, none, .mov (.c (.bool false))⟩]) <|
      .ret) (.skip)) <|
     .ops [⟨some 24, none, .loadN 3 (.t 7)⟩, ⟨none, none, .storeN 3 (.t 4) (.t 24)⟩])) <|
    .ops [⟨some 25, none, .bin .num .add (.t 11) (.c (.int .i64 1))⟩, ⟨some 11, none, .mov (.t 25)⟩]))) <|
  .seq (.ops [⟨some 26, none, .loadN 3 (.t 4)⟩, ⟨none, none, .storeN 3 (.t 2) (.t 26)⟩, ⟨some 3, none, .mov (.c (.bool true))⟩]) <|
  .ret
def v38 : VFunc := ⟨27, [.cellN 3 2, .tmp 3], c38⟩
/-- slices.Equal[[]berthing/api.Container,berthing/api.Container] -/
def c39 : VCode :=
  .seq (.ops [⟨some 4, none, .mov (.c (.bool false))⟩]) <|
  .seq (.seq (.ops [⟨some 6, none, .mov (.t 0)⟩, ⟨some 7, none, .lenS (.t 6)⟩, ⟨some 8, none, .mov (.t 1)⟩, ⟨some 9, none, .lenS (.t 8)⟩, ⟨some 10, none, .bin .num .neq (.t 7) (.t 9)⟩]) <|
  .cond (.t 10) (.seq (.ops [⟨some 4, none, .mov (.c (.bool false))⟩]) <|
   .ret) (.skip)) <|
  .seq (.seq (.ops [⟨some 11, none, .mov (.t 0)⟩, ⟨some 12, none, .lenS (.t 11)⟩, ⟨some 13, none, .mov (.c (.int .i64 0))⟩]) <|
  .block 0 (.loop (.seq (.ops [⟨some 14, none, .bin .num .lss (.t 13) (.t 12)⟩]) <|
    .seq (.cond (.t 14) (.skip) (.exit 0)) <|
    .seq (.block 1 (.seq (.ops [⟨some 15, none, .mov (.t 13)⟩, ⟨some 5, none, .mov (.t 15)⟩]) <|
     .seq (.ops [⟨some 16, none, .mov (.t 0)⟩, ⟨some 17, none, .mov (.t 5)⟩, ⟨some 18, none, .idxAddrS 10 (.t 16) (.t 17)⟩, ⟨some 19, none, .loadN 10 (.t 18)⟩, ⟨some 20, none, .mov (.t 1)⟩, ⟨some 21, none, .mov (.t 5)⟩, ⟨some 22, none, .idxAddrS 10 (.t 20) (.t 21)⟩, ⟨some 23, none, .loadN 10 (.t 22)⟩, ⟨some 24, none, .bin (.agg [.s, .i, .i, .i, .i, .i, .i, .b, .b, .b]) .neq (.t 19) (.t 23)⟩]) <|
     .cond (.t 24) (.seq (.ops [⟨some 4, none, .mov (.c (.bool false))⟩]) <|
      .ret) (.skip))) <|
    .ops [⟨some 25, none, .bin .num .add (.t 13) (.c (.int .i64 1))⟩, ⟨some 13, none, .mov (.t 25)⟩]))) <|
  .seq (.ops [⟨some 4, none, .mov (.c (.bool true))⟩]) <|
  .ret
def v39 : VFunc := ⟨26, [.tmp 4], c39⟩
/-- berthing/vector.Unlike -/
def c40 : VCode :=
  .seq (.ops [⟨some 2, none, .box (.t 0)⟩, ⟨some 3, none, .box (.t 1)⟩, ⟨some 4, none, .alloc [(.bool false), (.bool false), (.bool false)]⟩]) <|
  .seq (.ops [⟨some 5, none, .fieldAddr 0 (.t 2)⟩, ⟨some 6, none, .load1 (.t 5)⟩, ⟨some 7, none, .fieldAddr 0 (.t 3)⟩, ⟨some 8, none, .load1 (.t 7)⟩, ⟨some 9, none, .bin .num .neq (.t 6) (.t 8)⟩, ⟨some 10, none, .fieldAddr 1 (.t 2)⟩, ⟨some 11, none, .load1 (.t 10)⟩, ⟨some 12, none, .fieldAddr 1 (.t 3)⟩, ⟨some 13, none, .load1 (.t 12)⟩, ⟨some 14, none, .bin .num .neq (.t 11) (.t 13)⟩, ⟨some 15, none, .fieldAddr 2 (.t 2)⟩, ⟨some 16, none, .load1 (.t 15)⟩, ⟨some 17, none, .fieldAddr 2 (.t 3)⟩, ⟨some 18, none, .load1 (.t 17)⟩, ⟨some 19, none, .bin .num .neq (.t 16) (.t 18)⟩, ⟨some 20, none, .build [(.bool false), (.bool false), (.bool false)] [(0, 1, (.t 9)), (1, 1, (.t 14)), (2, 1, (.t 19))]⟩, ⟨none, none, .storeN 3 (.t 4) (.t 20)⟩]) <|
  .ret
def v40 : VFunc := ⟨21, [.cellN 3 4], c40⟩
/-- slices.Clone[[]berthing/api.Container,berthing/api.Container] -/
def c41 : VCode :=
  .seq (.ops [⟨some 2, none, .mov (.c (.sl .nil 0 []))⟩]) <|
  .seq (.seq (.ops [⟨some 3, none, .mov (.t 0)⟩, ⟨some 4, none, .bin .sl .eql (.t 3) (.c (.sl .nil 0 []))⟩]) <|
  .cond (.t 4) (.seq (.ops [⟨some 2, none, .mov (.c (.sl .nil 0 []))⟩]) <|
   .ret) (.skip)) <|
  .seq (.ops [⟨some 5, none, .buildSlice false 10 0 [] []⟩, ⟨some 6, none, .mov (.t 0)⟩, ⟨some 7, none, .append false false 10 72 (.t 5) (.t 6)⟩, ⟨some 2, none, .mov (.t 7)⟩]) <|
  .ret
def v41 : VFunc := ⟨8, [.tmp 2], c41⟩
/-- berthing/spec.given -/
def c42 : VCode :=
  .seq (.ops [⟨some 2, none, .box (.t 0)⟩, ⟨some 3, none, .box (.t 1)⟩, ⟨some 4, none, .mov (.c (.bool false))⟩]) <|
  .seq (.ops [⟨some 5, none, .fieldAddr 0 (.t 2)⟩, ⟨some 6, none, .load1 (.t 5)⟩, ⟨some 7, none, .bin .num .eql (.t 6) (.c (.int .i64 0))⟩, ⟨some 8, none, .fieldAddr 0 (.t 3)⟩, ⟨some 9, none, .load1 (.t 8)⟩, ⟨some 10, none, .bin .num .eql (.t 9) (.c (.int .i64 0))⟩, ⟨some 11, none, .bin .bool .neq (.t 7) (.t 10)⟩, ⟨some 12, none, .mov (.t 11)⟩, ⟨some 13, some (12, false), .fieldAddr 1 (.t 2)⟩, ⟨some 14, some (12, false), .load1 (.t 13)⟩, ⟨some 15, some (12, false), .bin .num .eql (.t 14) (.c (.int .i64 0))⟩, ⟨some 16, some (12, false), .fieldAddr 1 (.t 3)⟩, ⟨some 17, some (12, false), .load1 (.t 16)⟩, ⟨some 18, some (12, false), .bin .num .eql (.t 17) (.c (.int .i64 0))⟩, ⟨some 19, some (12, false), .bin .bool .neq (.t 15) (.t 18)⟩, ⟨some 20, none, .pick (.t 12) (.c (.bool true)) (.t 19)⟩, ⟨some 4, none, .mov (.t 20)⟩]) <|
  .ret
def v42 : VFunc := ⟨21, [.tmp 4], c42⟩
/-- berthing/vector.parts -/
def c43 : VCode :=
  .seq (.ops [⟨some 1, none, .box (.t 0)⟩, ⟨some 2, none, .alloc [(.int .i64 0), (.int .i64 0), (.int .i64 0)]⟩]) <|
  .seq (.ops [⟨some 3, none, .fieldAddr 0 (.t 1)⟩, ⟨some 4, none, .load1 (.t 3)⟩, ⟨some 5, none, .fieldAddr 1 (.t 1)⟩, ⟨some 6, none, .load1 (.t 5)⟩, ⟨some 7, none, .fieldAddr 2 (.t 1)⟩, ⟨some 8, none, .load1 (.t 7)⟩, ⟨some 9, none, .build [(.int .i64 0), (.int .i64 0), (.int .i64 0)] [(0, 1, (.t 4)), (1, 1, (.t 6)), (2, 1, (.t 8))]⟩, ⟨none, none, .storeN 3 (.t 2) (.t 9)⟩]) <|
  .ret
def v43 : VFunc := ⟨10, [.cellN 3 2], c43⟩
/-- berthing/vector.fits -/
def c44 : VCode :=
  .seq (.ops [⟨some 4, none, .mov (.c (.bool false))⟩]) <|
  .seq (.seq (.ops [⟨some 5, none, .mov (.t 0)⟩, ⟨some 6, none, .bin .num .eql (.t 5) (.c (.int .i64 0))⟩]) <|
  .cond (.t 6) (.seq (.ops [⟨some 7, none, .mov (.t 1)⟩, ⟨some 8, none, .bin .num .geq (.t 7) (.c (.int .i64 0))⟩, ⟨some 9, none, .mov (.t 8)⟩, ⟨some 10, some (9, true), .mov (.t 1)⟩, ⟨some 11, some (9, true), .bin .num .leq (.t 10) (.c (.int .i64 1099511627776))⟩, ⟨some 12, none, .pick (.t 9) (.t 11) (.c (.bool false))⟩, ⟨some 4, none, .mov (.t 12)⟩]) <|
   .ret) (.skip)) <|
  .seq (.ops [⟨some 13, none, .mov (.t 1)⟩, ⟨some 14, none, .bin .num .geq (.t 13) (.c (.int .i64 0))⟩, ⟨some 15, none, .mov (.t 14)⟩, ⟨some 16, some (15, true), .mov (.t 1)⟩, ⟨some 17, some (15, true), .bin .num .leq (.t 16) (.c (.int .i64 1125899906842624))⟩, ⟨some 18, none, .pick (.t 15) (.t 17) (.c (.bool false))⟩, ⟨some 4, none, .mov (.t 18)⟩]) <|
  .ret
def v44 : VFunc := ⟨19, [.tmp 4], c44⟩
/-- berthing/berthingref04.Add -/
def c45 : VCode :=
  .seq (.ops [⟨some 2, none, .box (.t 0)⟩, ⟨some 3, none, .box (.t 1)⟩, ⟨some 4, none, .alloc [(.int .i64 0), (.int .i64 0), (.int .i64 0)]⟩, ⟨some 5, none, .mov (.c (.bool false))⟩]) <|
  .seq (.seq (.ops [⟨some 7, none, .loadN 3 (.t 2)⟩, ⟨some 8, none, .call .pure 33 [(.t 7)]⟩, ⟨some 9, none, .un .not (.t 8)⟩, ⟨some 10, none, .mov (.t 9)⟩, ⟨some 11, some (10, false), .loadN 3 (.t 3)⟩, ⟨some 12, some (10, false), .call .pure 33 [(.t 11)]⟩, ⟨some 13, some (10, false), .un .not (.t 12)⟩, ⟨some 14, none, .pick (.t 10) (.c (.bool true)) (.t 13)⟩]) <|
  .cond (.t 14) (.seq (.ops [⟨some 15, none, .build [(.int .i64 0), (.int .i64 0), (.int .i64 0)] []⟩, ⟨none, none, .storeN 3 (.t 4) (.t 15)⟩, ⟨some 5, none, .mov (.c (.bool false))⟩]) <|
   .ret) (.skip)) <|
  .seq (.ops [⟨some 16, none, .fieldAddr 0 (.t 2)⟩, ⟨some 17, none, .load1 (.t 16)⟩, ⟨some 18, none, .fieldAddr 0 (.t 3)⟩, ⟨some 19, none, .load1 (.t 18)⟩, ⟨some 20, none, .bin .num .add (.t 17) (.t 19)⟩, ⟨some 21, none, .fieldAddr 1 (.t 2)⟩, ⟨some 22, none, .load1 (.t 21)⟩, ⟨some 23, none, .fieldAddr 1 (.t 3)⟩, ⟨some 24, none, .load1 (.t 23)⟩, ⟨some 25, none, .bin .num .add (.t 22) (.t 24)⟩, ⟨some 26, none, .fieldAddr 2 (.t 2)⟩, ⟨some 27, none, .load1 (.t 26)⟩, ⟨some 28, none, .fieldAddr 2 (.t 3)⟩, ⟨some 29, none, .load1 (.t 28)⟩, ⟨some 30, none, .bin .num .add (.t 27) (.t 29)⟩, ⟨some 31, none, .build [(.int .i64 0), (.int .i64 0), (.int .i64 0)] [(0, 1, (.t 20)), (1, 1, (.t 25)), (2, 1, (.t 30))]⟩, ⟨some 6, none, .alloc [(.int .i64 0), (.int .i64 0), (.int .i64 0)]⟩, ⟨none, none, .storeN 3 (.t 6) (.t 31)⟩]) <|
  .seq (.seq (.ops [⟨some 32, none, .loadN 3 (.t 6)⟩, ⟨some 33, none, .call .pure 33 [(.t 32)]⟩, ⟨some 34, none, .un .not (.t 33)⟩]) <|
  .cond (.t 34) (.seq (.ops [⟨some 35, none, .build [(.int .i64 0), (.int .i64 0), (.int .i64 0)] []⟩, ⟨none, none, .storeN 3 (.t 4) (.t 35)⟩, ⟨some 5, none, .mov (.c (.bool false))⟩]) <|
   .ret) (.skip)) <|
  .seq (.ops [⟨some 36, none, .loadN 3 (.t 6)⟩, ⟨none, none, .storeN 3 (.t 4) (.t 36)⟩, ⟨some 5, none, .mov (.c (.bool true))⟩]) <|
  .ret
def v45 : VFunc := ⟨37, [.cellN 3 4, .tmp 5], c45⟩
/-- berthing/vector.Add -/
def c46 : VCode :=
  .seq (.ops [⟨some 2, none, .box (.t 0)⟩, ⟨some 3, none, .box (.t 1)⟩, ⟨some 4, none, .alloc [(.int .i64 0), (.int .i64 0), (.int .i64 0)]⟩, ⟨some 5, none, .mov (.c (.bool false))⟩]) <|
  .seq (.ops [⟨some 6, none, .loadN 3 (.t 2)⟩, ⟨some 7, none, .loadN 3 (.t 3)⟩, ⟨some 8, none, .call .pure 47 [(.t 6), (.t 7), (.f 48)]⟩, ⟨some 9, none, .extract 0 (.t 8)⟩, ⟨some 10, none, .extract 1 (.t 8)⟩, ⟨none, none, .storeN 3 (.t 4) (.t 9)⟩, ⟨some 5, none, .mov (.t 10)⟩]) <|
  .ret
def v46 : VFunc := ⟨11, [.cellN 3 4, .tmp 5], c46⟩
/-- berthing/vector.both -/
def c47 : VCode :=
  .seq (.ops [⟨some 3, none, .box (.t 0)⟩, ⟨some 4, none, .box (.t 1)⟩, ⟨some 6, none, .alloc [(.int .i64 0), (.int .i64 0), (.int .i64 0)]⟩, ⟨some 7, none, .mov (.c (.bool false))⟩]) <|
  .seq (.seq (.ops [⟨some 12, none, .loadN 3 (.t 3)⟩, ⟨some 13, none, .call .pure 31 [(.t 12)]⟩, ⟨some 14, none, .un .not (.t 13)⟩, ⟨some 15, none, .mov (.t 14)⟩, ⟨some 16, some (15, false), .loadN 3 (.t 4)⟩, ⟨some 17, some (15, false), .call .pure 31 [(.t 16)]⟩, ⟨some 18, some (15, false), .un .not (.t 17)⟩, ⟨some 19, none, .pick (.t 15) (.c (.bool true)) (.t 18)⟩]) <|
  .cond (.t 19) (.seq (.ops [⟨some 20, none, .build [(.int .i64 0), (.int .i64 0), (.int .i64 0)] []⟩, ⟨none, none, .storeN 3 (.t 6) (.t 20)⟩, ⟨some 7, none, .mov (.c (.bool false))⟩]) <|
   .ret) (.skip)) <|
  .seq (.draw [(8, [(.int .i64 0), (.int .i64 0), (.int .i64 0)]), (9, [(.int .i64 0), (.int .i64 0), (.int .i64 0)])] [⟨some 21, none, .loadN 3 (.t 3)⟩, ⟨some 22, none, .call .pure 43 [(.t 21)]⟩, ⟨some 23, none, .loadN 3 (.t 4)⟩, ⟨some 24, none, .call .pure 43 [(.t 23)]⟩, ⟨none, none, .idle⟩, ⟨none, none, .idle⟩, ⟨none, none, .storeN 3 (.t 8) (.t 22)⟩, ⟨none, none, .storeN 3 (.t 9) (.t 24)⟩] []) <|
  .seq (.seq (.ops [⟨some 25, none, .mov (.c (.int .i64 0))⟩]) <|
  .block 0 (.loop (.seq (.ops [⟨some 26, none, .bin .num .lss (.t 25) (.c (.int .i64 3))⟩]) <|
    .seq (.cond (.t 26) (.skip) (.exit 0)) <|
    .seq (.block 1 (.seq (.ops [⟨some 27, none, .mov (.t 25)⟩, ⟨some 10, none, .mov (.t 27)⟩]) <|
     .ops [⟨some 29, none, .mov (.t 10)⟩, ⟨some 30, none, .mov (.t 2)⟩, ⟨some 31, none, .mov (.t 10)⟩, ⟨some 32, none, .idxAddrA 3 1 (.t 8) (.t 31)⟩, ⟨some 33, none, .load1 (.t 32)⟩, ⟨some 34, none, .mov (.t 10)⟩, ⟨some 35, none, .idxAddrA 3 1 (.t 9) (.t 34)⟩, ⟨some 36, none, .load1 (.t 35)⟩, ⟨some 37, none, .callV (.t 30) [(.t 33), (.t 36)]⟩, ⟨some 28, none, .mov (.t 37)⟩, ⟨some 38, none, .extract 0 (.t 28)⟩, ⟨some 39, none, .extract 1 (.t 28)⟩, ⟨some 40, none, .idxAddrA 3 1 (.t 8) (.t 29)⟩, ⟨none, none, .store1 (.t 40) (.t 38)⟩])) <|
    .ops [⟨some 41, none, .bin .num .add (.t 25) (.c (.int .i64 1))⟩, ⟨some 25, none, .mov (.t 41)⟩]))) <|
  .seq (.seq (.ops [⟨some 42, none, .loadN 3 (.t 8)⟩, ⟨some 43, none, .call .pure 49 [(.t 42)]⟩, ⟨some 11, none, .alloc [(.int .i64 0), (.int .i64 0), (.int .i64 0)]⟩, ⟨none, none, .storeN 3 (.t 11) (.t 43)⟩]) <|
  .seq (.ops [⟨some 44, none, .loadN 3 (.t 11)⟩, ⟨some 45, none, .call .pure 31 [(.t 44)]⟩]) <|
  .cond (.t 45) (.seq (.ops [⟨some 46, none, .loadN 3 (.t 11)⟩, ⟨none, none, .storeN 3 (.t 6) (.t 46)⟩, ⟨some 7, none, .mov (.c (.bool true))⟩]) <|
   .ret) (.skip)) <|
  .seq (.ops [⟨some 47, none, .build [(.int .i64 0), (.int .i64 0), (.int .i64 0)] []⟩, ⟨none, none, .storeN 3 (.t 6) (.t 47)⟩, ⟨some 7, none, .mov (.c (.bool false))⟩]) <|
  .ret
def v47 : VFunc := ⟨48, [.cellN 3 6, .tmp 7], c47⟩
/-- berthing/checked.Add -/
def c48 : VCode :=
  .seq (.ops [⟨some 4, none, .mov (.c (.int .i64 0))⟩, ⟨some 5, none, .mov (.c (.bool false))⟩]) <|
  .seq (.ops [⟨some 7, none, .mov (.t 0)⟩, ⟨some 8, none, .conv .u64 (.t 7)⟩, ⟨some 9, none, .mov (.t 1)⟩, ⟨some 10, none, .conv .u64 (.t 9)⟩, ⟨some 11, none, .bin .num .add (.t 8) (.t 10)⟩, ⟨some 12, none, .conv .i64 (.t 11)⟩, ⟨some 6, none, .mov (.t 12)⟩]) <|
  .seq (.seq (.ops [⟨some 13, none, .mov (.t 0)⟩, ⟨some 14, none, .mov (.t 6)⟩, ⟨some 15, none, .bin .num .xor (.t 13) (.t 14)⟩, ⟨some 16, none, .mov (.t 1)⟩, ⟨some 17, none, .mov (.t 6)⟩, ⟨some 18, none, .bin .num .xor (.t 16) (.t 17)⟩, ⟨some 19, none, .bin .num .and (.t 15) (.t 18)⟩, ⟨some 20, none, .bin .num .lss (.t 19) (.c (.int .i64 0))⟩]) <|
  .cond (.t 20) (.seq (.ops [⟨some 4, none, .mov (.c (.int .i64 0))⟩, ⟨some 5, none, .mov (.c (.bool false))⟩]) <|
   .ret) (.skip)) <|
  .seq (.ops [⟨some 21, none, .mov (.t 6)⟩, ⟨some 4, none, .mov (.t 21)⟩, ⟨some 5, none, .mov (.c (.bool true))⟩]) <|
  .ret
def v48 : VFunc := ⟨22, [.tmp 4, .tmp 5], c48⟩
/-- berthing/vector.of -/
def c49 : VCode :=
  .seq (.ops [⟨some 1, none, .box (.t 0)⟩, ⟨some 2, none, .alloc [(.int .i64 0), (.int .i64 0), (.int .i64 0)]⟩]) <|
  .seq (.ops [⟨some 3, none, .idxAddrA 3 1 (.t 1) (.c (.int .i64 0))⟩, ⟨some 4, none, .load1 (.t 3)⟩, ⟨some 5, none, .idxAddrA 3 1 (.t 1) (.c (.int .i64 1))⟩, ⟨some 6, none, .load1 (.t 5)⟩, ⟨some 7, none, .idxAddrA 3 1 (.t 1) (.c (.int .i64 2))⟩, ⟨some 8, none, .load1 (.t 7)⟩, ⟨some 9, none, .build [(.int .i64 0), (.int .i64 0), (.int .i64 0)] [(0, 1, (.t 4)), (1, 1, (.t 6)), (2, 1, (.t 8))]⟩, ⟨none, none, .storeN 3 (.t 2) (.t 9)⟩]) <|
  .ret
def v49 : VFunc := ⟨10, [.cellN 3 2], c49⟩
def ft : FuncId → Option VFunc := fun f => bif Nat.beq f 3 then some v3 else bif Nat.beq f 4 then some v4 else bif Nat.beq f 5 then some v5 else bif Nat.beq f 6 then some v6 else bif Nat.beq f 7 then some v7 else bif Nat.beq f 8 then some v8 else bif Nat.beq f 9 then some v9 else bif Nat.beq f 10 then some v10 else bif Nat.beq f 11 then some v11 else bif Nat.beq f 12 then some v12 else bif Nat.beq f 13 then some v13 else bif Nat.beq f 14 then some v14 else bif Nat.beq f 15 then some v15 else bif Nat.beq f 16 then some v16 else bif Nat.beq f 17 then some v17 else bif Nat.beq f 18 then some v18 else bif Nat.beq f 19 then some v19 else bif Nat.beq f 20 then some v20 else bif Nat.beq f 21 then some v21 else bif Nat.beq f 22 then some v22 else bif Nat.beq f 23 then some v23 else bif Nat.beq f 24 then some v24 else bif Nat.beq f 25 then some v25 else bif Nat.beq f 26 then some v26 else bif Nat.beq f 27 then some v27 else bif Nat.beq f 28 then some v28 else bif Nat.beq f 29 then some v29 else bif Nat.beq f 30 then some v30 else bif Nat.beq f 31 then some v31 else bif Nat.beq f 32 then some v32 else bif Nat.beq f 33 then some v33 else bif Nat.beq f 34 then some v34 else bif Nat.beq f 35 then some v35 else bif Nat.beq f 36 then some v36 else bif Nat.beq f 37 then some v37 else bif Nat.beq f 38 then some v38 else bif Nat.beq f 39 then some v39 else bif Nat.beq f 40 then some v40 else bif Nat.beq f 41 then some v41 else bif Nat.beq f 42 then some v42 else bif Nat.beq f 43 then some v43 else bif Nat.beq f 44 then some v44 else bif Nat.beq f 45 then some v45 else bif Nat.beq f 46 then some v46 else bif Nat.beq f 47 then some v47 else bif Nat.beq f 48 then some v48 else bif Nat.beq f 49 then some v49 else none
def env : Env := ⟨ft, md⟩
theorem is3 : FnComp ⟨Try.prog, md⟩ 3 v3 := ⟨Try.f3, _, fun t => ⟨false, md⟩, Try.func3, rfl, by kernel_rfl, by kernel_rfl, by kernel_rfl⟩
theorem is4 : FnComp ⟨Try.prog, md⟩ 4 v4 := ⟨Try.f4, _, fun t => ⟨false, md⟩, Try.func4, rfl, by kernel_rfl, by kernel_rfl, by kernel_rfl⟩
theorem is5 : FnComp ⟨Try.prog, md⟩ 5 v5 := ⟨Try.f5, _, fun t => ⟨false, md⟩, Try.func5, rfl, by kernel_rfl, by kernel_rfl, by kernel_rfl⟩
theorem is6 : FnComp ⟨Try.prog, md⟩ 6 v6 := ⟨Try.f6, _, fun t => ⟨false, md⟩, Try.func6, rfl, by kernel_rfl, by kernel_rfl, by kernel_rfl⟩
theorem is7 : FnComp ⟨Try.prog, md⟩ 7 v7 := ⟨Try.f7, _, fun t => ⟨false, md⟩, Try.func7, rfl, by kernel_rfl, by kernel_rfl, by kernel_rfl⟩
theorem is8 : FnComp ⟨Try.prog, md⟩ 8 v8 := ⟨Try.f8, _, fun t => ⟨false, md⟩, Try.func8, rfl, by kernel_rfl, by kernel_rfl, by kernel_rfl⟩
theorem is9 : FnComp ⟨Try.prog, md⟩ 9 v9 := ⟨Try.f9, _, fun t => ⟨false, md⟩, Try.func9, rfl, by kernel_rfl, by kernel_rfl, by kernel_rfl⟩
theorem is10 : FnComp ⟨Try.prog, md⟩ 10 v10 := ⟨Try.f10, _, fun t => ⟨false, md⟩, Try.func10, rfl, by kernel_rfl, by kernel_rfl, by kernel_rfl⟩
theorem is11 : FnComp ⟨Try.prog, md⟩ 11 v11 := ⟨Try.f11, _, fun t => ⟨false, md⟩, Try.func11, rfl, by kernel_rfl, by kernel_rfl, by kernel_rfl⟩
theorem is12 : FnComp ⟨Try.prog, md⟩ 12 v12 := ⟨Try.f12, _, fun t => ⟨false, md⟩, Try.func12, rfl, by kernel_rfl, by kernel_rfl, by kernel_rfl⟩
theorem is13 : FnComp ⟨Try.prog, md⟩ 13 v13 := ⟨Try.f13, _, fun t => ⟨false, md⟩, Try.func13, rfl, by kernel_rfl, by kernel_rfl, by kernel_rfl⟩
theorem is14 : FnComp ⟨Try.prog, md⟩ 14 v14 := ⟨Try.f14, _, fun t => ⟨false, md⟩, Try.func14, rfl, by kernel_rfl, by kernel_rfl, by kernel_rfl⟩
theorem is15 : FnComp ⟨Try.prog, md⟩ 15 v15 := ⟨Try.f15, _, fun t => ⟨false, md⟩, Try.func15, rfl, by kernel_rfl, by kernel_rfl, by kernel_rfl⟩
theorem is16 : FnComp ⟨Try.prog, md⟩ 16 v16 := ⟨Try.f16, _, fun t => ⟨false, md⟩, Try.func16, rfl, by kernel_rfl, by kernel_rfl, by kernel_rfl⟩
theorem is17 : FnComp ⟨Try.prog, md⟩ 17 v17 := ⟨Try.f17, _, fun t => ⟨false, md⟩, Try.func17, rfl, by kernel_rfl, by kernel_rfl, by kernel_rfl⟩
theorem is18 : FnComp ⟨Try.prog, md⟩ 18 v18 := ⟨Try.f18, _, fun t => ⟨false, md⟩, Try.func18, rfl, by kernel_rfl, by kernel_rfl, by kernel_rfl⟩
theorem is19 : FnComp ⟨Try.prog, md⟩ 19 v19 := ⟨Try.f19, _, fun t => ⟨false, md⟩, Try.func19, rfl, by kernel_rfl, by kernel_rfl, by kernel_rfl⟩
theorem is20 : FnComp ⟨Try.prog, md⟩ 20 v20 := ⟨Try.f20, _, fun t => ⟨false, md⟩, Try.func20, rfl, by kernel_rfl, by kernel_rfl, by kernel_rfl⟩
theorem is21 : FnComp ⟨Try.prog, md⟩ 21 v21 := ⟨Try.f21, _, fun t => ⟨false, md⟩, Try.func21, rfl, by kernel_rfl, by kernel_rfl, by kernel_rfl⟩
theorem is22 : FnComp ⟨Try.prog, md⟩ 22 v22 := ⟨Try.f22, _, fun t => ⟨false, md⟩, Try.func22, rfl, by kernel_rfl, by kernel_rfl, by kernel_rfl⟩
theorem is23 : FnComp ⟨Try.prog, md⟩ 23 v23 := ⟨Try.f23, _, fun t => ⟨false, md⟩, Try.func23, rfl, by kernel_rfl, by kernel_rfl, by kernel_rfl⟩
theorem is24 : FnComp ⟨Try.prog, md⟩ 24 v24 := ⟨Try.f24, _, fun t => ⟨false, md⟩, Try.func24, rfl, by kernel_rfl, by kernel_rfl, by kernel_rfl⟩
theorem is25 : FnComp ⟨Try.prog, md⟩ 25 v25 := ⟨Try.f25, _, fun t => ⟨Nat.beq t 17 || false, md⟩, Try.func25, rfl, by kernel_rfl, by kernel_rfl, by kernel_rfl⟩
theorem is26 : FnComp ⟨Try.prog, md⟩ 26 v26 := ⟨Try.f26, _, fun t => ⟨false, md⟩, Try.func26, rfl, by kernel_rfl, by kernel_rfl, by kernel_rfl⟩
theorem is27 : FnComp ⟨Try.prog, md⟩ 27 v27 := ⟨Try.f27, _, fun t => ⟨false, md⟩, Try.func27, rfl, by kernel_rfl, by kernel_rfl, by kernel_rfl⟩
theorem is28 : FnComp ⟨Try.prog, md⟩ 28 v28 := ⟨Try.f28, _, fun t => ⟨false, md⟩, Try.func28, rfl, by kernel_rfl, by kernel_rfl, by kernel_rfl⟩
theorem is29 : FnComp ⟨Try.prog, md⟩ 29 v29 := ⟨Try.f29, _, fun t => ⟨Nat.beq t 24 || false, md⟩, Try.func29, rfl, by kernel_rfl, by kernel_rfl, by kernel_rfl⟩
theorem is30 : FnComp ⟨Try.prog, md⟩ 30 v30 := ⟨Try.f30, _, fun t => ⟨Nat.beq t 26 || false, md⟩, Try.func30, rfl, by kernel_rfl, by kernel_rfl, by kernel_rfl⟩
theorem is31 : FnComp ⟨Try.prog, md⟩ 31 v31 := ⟨Try.f31, _, fun t => ⟨false, md⟩, Try.func31, rfl, by kernel_rfl, by kernel_rfl, by kernel_rfl⟩
theorem is32 : FnComp ⟨Try.prog, md⟩ 32 v32 := ⟨Try.f32, _, fun t => ⟨false, md⟩, Try.func32, rfl, by kernel_rfl, by kernel_rfl, by kernel_rfl⟩
theorem is33 : FnComp ⟨Try.prog, md⟩ 33 v33 := ⟨Try.f33, _, fun t => ⟨false, md⟩, Try.func33, rfl, by kernel_rfl, by kernel_rfl, by kernel_rfl⟩
theorem is34 : FnComp ⟨Try.prog, md⟩ 34 v34 := ⟨Try.f34, _, fun t => ⟨false, md⟩, Try.func34, rfl, by kernel_rfl, by kernel_rfl, by kernel_rfl⟩
theorem is35 : FnComp ⟨Try.prog, md⟩ 35 v35 := ⟨Try.f35, _, fun t => ⟨false, md⟩, Try.func35, rfl, by kernel_rfl, by kernel_rfl, by kernel_rfl⟩
theorem is36 : FnComp ⟨Try.prog, md⟩ 36 v36 := ⟨Try.f36, _, fun t => ⟨false, md⟩, Try.func36, rfl, by kernel_rfl, by kernel_rfl, by kernel_rfl⟩
theorem is37 : FnComp ⟨Try.prog, md⟩ 37 v37 := ⟨Try.f37, _, fun t => ⟨false, md⟩, Try.func37, rfl, by kernel_rfl, by kernel_rfl, by kernel_rfl⟩
theorem is38 : FnComp ⟨Try.prog, md⟩ 38 v38 := ⟨Try.f38, _, fun t => ⟨false, md⟩, Try.func38, rfl, by kernel_rfl, by kernel_rfl, by kernel_rfl⟩
theorem is39 : FnComp ⟨Try.prog, md⟩ 39 v39 := ⟨Try.f39, _, fun t => ⟨false, md⟩, Try.func39, rfl, by kernel_rfl, by kernel_rfl, by kernel_rfl⟩
theorem is40 : FnComp ⟨Try.prog, md⟩ 40 v40 := ⟨Try.f40, _, fun t => ⟨false, md⟩, Try.func40, rfl, by kernel_rfl, by kernel_rfl, by kernel_rfl⟩
theorem is41 : FnComp ⟨Try.prog, md⟩ 41 v41 := ⟨Try.f41, _, fun t => ⟨false, md⟩, Try.func41, rfl, by kernel_rfl, by kernel_rfl, by kernel_rfl⟩
theorem is42 : FnComp ⟨Try.prog, md⟩ 42 v42 := ⟨Try.f42, _, fun t => ⟨false, md⟩, Try.func42, rfl, by kernel_rfl, by kernel_rfl, by kernel_rfl⟩
theorem is43 : FnComp ⟨Try.prog, md⟩ 43 v43 := ⟨Try.f43, _, fun t => ⟨false, md⟩, Try.func43, rfl, by kernel_rfl, by kernel_rfl, by kernel_rfl⟩
theorem is44 : FnComp ⟨Try.prog, md⟩ 44 v44 := ⟨Try.f44, _, fun t => ⟨false, md⟩, Try.func44, rfl, by kernel_rfl, by kernel_rfl, by kernel_rfl⟩
theorem is45 : FnComp ⟨Try.prog, md⟩ 45 v45 := ⟨Try.f45, _, fun t => ⟨false, md⟩, Try.func45, rfl, by kernel_rfl, by kernel_rfl, by kernel_rfl⟩
theorem is46 : FnComp ⟨Try.prog, md⟩ 46 v46 := ⟨Try.f46, _, fun t => ⟨false, md⟩, Try.func46, rfl, by kernel_rfl, by kernel_rfl, by kernel_rfl⟩
theorem is47 : FnComp ⟨Try.prog, md⟩ 47 v47 := ⟨Try.f47, _, fun t => ⟨false, md⟩, Try.func47, rfl, by kernel_rfl, by kernel_rfl, by kernel_rfl⟩
theorem is48 : FnComp ⟨Try.prog, md⟩ 48 v48 := ⟨Try.f48, _, fun t => ⟨false, md⟩, Try.func48, rfl, by kernel_rfl, by kernel_rfl, by kernel_rfl⟩
theorem is49 : FnComp ⟨Try.prog, md⟩ 49 v49 := ⟨Try.f49, _, fun t => ⟨false, md⟩, Try.func49, rfl, by kernel_rfl, by kernel_rfl, by kernel_rfl⟩

theorem envOK : EnvOK ⟨Try.prog, md⟩ env := ⟨rfl, by kernel_rfl, fun f vf h => by
  change ft f = some vf at h
  unfold ft at h
  rcases ft_cons h with ⟨h1, h2⟩ | h
  · rw [h1, h2]; exact is3
  rcases ft_cons h with ⟨h1, h2⟩ | h
  · rw [h1, h2]; exact is4
  rcases ft_cons h with ⟨h1, h2⟩ | h
  · rw [h1, h2]; exact is5
  rcases ft_cons h with ⟨h1, h2⟩ | h
  · rw [h1, h2]; exact is6
  rcases ft_cons h with ⟨h1, h2⟩ | h
  · rw [h1, h2]; exact is7
  rcases ft_cons h with ⟨h1, h2⟩ | h
  · rw [h1, h2]; exact is8
  rcases ft_cons h with ⟨h1, h2⟩ | h
  · rw [h1, h2]; exact is9
  rcases ft_cons h with ⟨h1, h2⟩ | h
  · rw [h1, h2]; exact is10
  rcases ft_cons h with ⟨h1, h2⟩ | h
  · rw [h1, h2]; exact is11
  rcases ft_cons h with ⟨h1, h2⟩ | h
  · rw [h1, h2]; exact is12
  rcases ft_cons h with ⟨h1, h2⟩ | h
  · rw [h1, h2]; exact is13
  rcases ft_cons h with ⟨h1, h2⟩ | h
  · rw [h1, h2]; exact is14
  rcases ft_cons h with ⟨h1, h2⟩ | h
  · rw [h1, h2]; exact is15
  rcases ft_cons h with ⟨h1, h2⟩ | h
  · rw [h1, h2]; exact is16
  rcases ft_cons h with ⟨h1, h2⟩ | h
  · rw [h1, h2]; exact is17
  rcases ft_cons h with ⟨h1, h2⟩ | h
  · rw [h1, h2]; exact is18
  rcases ft_cons h with ⟨h1, h2⟩ | h
  · rw [h1, h2]; exact is19
  rcases ft_cons h with ⟨h1, h2⟩ | h
  · rw [h1, h2]; exact is20
  rcases ft_cons h with ⟨h1, h2⟩ | h
  · rw [h1, h2]; exact is21
  rcases ft_cons h with ⟨h1, h2⟩ | h
  · rw [h1, h2]; exact is22
  rcases ft_cons h with ⟨h1, h2⟩ | h
  · rw [h1, h2]; exact is23
  rcases ft_cons h with ⟨h1, h2⟩ | h
  · rw [h1, h2]; exact is24
  rcases ft_cons h with ⟨h1, h2⟩ | h
  · rw [h1, h2]; exact is25
  rcases ft_cons h with ⟨h1, h2⟩ | h
  · rw [h1, h2]; exact is26
  rcases ft_cons h with ⟨h1, h2⟩ | h
  · rw [h1, h2]; exact is27
  rcases ft_cons h with ⟨h1, h2⟩ | h
  · rw [h1, h2]; exact is28
  rcases ft_cons h with ⟨h1, h2⟩ | h
  · rw [h1, h2]; exact is29
  rcases ft_cons h with ⟨h1, h2⟩ | h
  · rw [h1, h2]; exact is30
  rcases ft_cons h with ⟨h1, h2⟩ | h
  · rw [h1, h2]; exact is31
  rcases ft_cons h with ⟨h1, h2⟩ | h
  · rw [h1, h2]; exact is32
  rcases ft_cons h with ⟨h1, h2⟩ | h
  · rw [h1, h2]; exact is33
  rcases ft_cons h with ⟨h1, h2⟩ | h
  · rw [h1, h2]; exact is34
  rcases ft_cons h with ⟨h1, h2⟩ | h
  · rw [h1, h2]; exact is35
  rcases ft_cons h with ⟨h1, h2⟩ | h
  · rw [h1, h2]; exact is36
  rcases ft_cons h with ⟨h1, h2⟩ | h
  · rw [h1, h2]; exact is37
  rcases ft_cons h with ⟨h1, h2⟩ | h
  · rw [h1, h2]; exact is38
  rcases ft_cons h with ⟨h1, h2⟩ | h
  · rw [h1, h2]; exact is39
  rcases ft_cons h with ⟨h1, h2⟩ | h
  · rw [h1, h2]; exact is40
  rcases ft_cons h with ⟨h1, h2⟩ | h
  · rw [h1, h2]; exact is41
  rcases ft_cons h with ⟨h1, h2⟩ | h
  · rw [h1, h2]; exact is42
  rcases ft_cons h with ⟨h1, h2⟩ | h
  · rw [h1, h2]; exact is43
  rcases ft_cons h with ⟨h1, h2⟩ | h
  · rw [h1, h2]; exact is44
  rcases ft_cons h with ⟨h1, h2⟩ | h
  · rw [h1, h2]; exact is45
  rcases ft_cons h with ⟨h1, h2⟩ | h
  · rw [h1, h2]; exact is46
  rcases ft_cons h with ⟨h1, h2⟩ | h
  · rw [h1, h2]; exact is47
  rcases ft_cons h with ⟨h1, h2⟩ | h
  · rw [h1, h2]; exact is48
  rcases ft_cons h with ⟨h1, h2⟩ | h
  · rw [h1, h2]; exact is49
  cases h⟩
end Go.Proofs.Ytnnhkkocdgegfaa
