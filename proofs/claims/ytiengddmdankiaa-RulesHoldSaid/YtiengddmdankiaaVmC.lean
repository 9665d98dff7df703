/-
  The functions of this seat as code of the abstract machine, and that they are so. Printed by a program.
-/
import Derived.Test.YtiengddmdankiaaV7
import Derived.Test.YtiengddmdankiaaChecked
import Derived.KernelRfl
set_option linter.all false
set_option linter.unusedVariables false
set_option linter.unusedSimpArgs false
set_option linter.unusedSectionVars false
namespace Go.Proofs.Ytiengddmdankiaa
open Go Go.VM

def md : FuncId → VM.Mode := fun f => bif Nat.beq f 23 then .shared else bif Nat.beq f 24 then .shared else bif Nat.beq f 27 then .shared else .pure
/-- berthing/berthinglaw17.RulesTell -/
def c3 : VCode :=
  .seq (.ops [⟨some 1, none, .box (.t 0)⟩, ⟨some 2, none, .mov (.c (.bool false))⟩]) <|
  .seq (.seq (.ops [⟨some 4, none, .call 6 []⟩, ⟨some 5, none, .un .not (.t 4)⟩]) <|
  .cond (.t 5) (.seq (.ops [⟨some 2, none, .mov (.c (.bool false))⟩]) <|
   .ret) (.skip)) <|
  .seq (.seq (.ops [⟨some 6, none, .fieldAddr 10 (.t 1)⟩, ⟨some 7, none, .load1 (.t 6)⟩, ⟨some 8, none, .lenS (.t 7)⟩, ⟨some 9, none, .bin .num .gtr (.t 8) (.c (.int .i64 50))⟩]) <|
  .cond (.t 9) (.seq (.ops [⟨some 2, none, .mov (.c (.bool true))⟩]) <|
   .ret) (.skip)) <|
  .seq (.ops [⟨some 10, none, .fieldAddr 12 (.t 1)⟩, ⟨some 11, none, .load1 (.t 10)⟩, ⟨some 12, none, .bin .num .eql (.t 11) (.c (.int .i64 0))⟩, ⟨some 13, none, .mov (.t 12)⟩, ⟨some 14, some (13, false), .fieldAddr 12 (.t 1)⟩, ⟨some 15, some (13, false), .load1 (.t 14)⟩, ⟨some 16, some (13, false), .bin .num .geq (.t 15) (.c (.int .i64 2))⟩, ⟨some 17, some (13, false), .mov (.t 16)⟩, ⟨some 18, some (17, true), .fieldAddr 12 (.t 1)⟩, ⟨some 19, some (17, true), .load1 (.t 18)⟩, ⟨some 20, some (17, true), .bin .num .leq (.t 19) (.c (.int .i64 4))⟩, ⟨some 21, some (13, false), .pick (.t 17) (.t 20) (.c (.bool false))⟩, ⟨some 22, none, .pick (.t 13) (.c (.bool true)) (.t 21)⟩, ⟨some 3, none, .mov (.t 22)⟩]) <|
  .seq (.ops [⟨some 23, none, .fieldAddr 12 (.t 1)⟩, ⟨some 24, none, .load1 (.t 23)⟩, ⟨some 25, none, .fieldAddr 13 (.t 1)⟩, ⟨some 26, none, .load1 (.t 25)⟩, ⟨some 27, none, .call 7 [(.t 24), (.t 26)]⟩, ⟨some 28, none, .fieldAddr 12 (.t 1)⟩, ⟨some 29, none, .load1 (.t 28)⟩, ⟨some 30, none, .fieldAddr 13 (.t 1)⟩, ⟨some 31, none, .load1 (.t 30)⟩, ⟨some 32, none, .call 8 [(.t 29), (.t 31)]⟩, ⟨some 33, none, .bin .bool .eql (.t 27) (.t 32)⟩, ⟨some 34, none, .mov (.t 33)⟩, ⟨some 35, some (34, true), .fieldAddr 12 (.t 1)⟩, ⟨some 36, some (34, true), .load1 (.t 35)⟩, ⟨some 37, some (34, true), .call 9 [(.t 36)]⟩, ⟨some 38, some (34, true), .mov (.t 3)⟩, ⟨some 39, some (34, true), .bin .bool .eql (.t 37) (.t 38)⟩, ⟨some 40, none, .pick (.t 34) (.t 39) (.c (.bool false))⟩, ⟨some 41, none, .mov (.t 40)⟩, ⟨some 42, some (41, true), .fieldAddr 0 (.t 1)⟩, ⟨some 43, some (41, true), .loadN 5 (.t 42)⟩, ⟨some 44, some (41, true), .fieldAddr 5 (.t 1)⟩, ⟨some 45, some (41, true), .loadN 5 (.t 44)⟩, ⟨some 46, some (41, true), .fieldAddr 10 (.t 1)⟩, ⟨some 47, some (41, true), .load1 (.t 46)⟩, ⟨some 48, some (41, true), .fieldAddr 11 (.t 1)⟩, ⟨some 49, some (41, true), .load1 (.t 48)⟩, ⟨some 50, some (41, true), .fieldAddr 12 (.t 1)⟩, ⟨some 51, some (41, true), .load1 (.t 50)⟩, ⟨some 52, some (41, true), .fieldAddr 13 (.t 1)⟩, ⟨some 53, some (41, true), .load1 (.t 52)⟩, ⟨some 54, some (41, true), .call 10 [(.t 43), (.t 45), (.t 47), (.t 49), (.t 51), (.t 53)]⟩, ⟨some 55, some (41, true), .fieldAddr 0 (.t 1)⟩, ⟨some 56, some (41, true), .loadN 5 (.t 55)⟩, ⟨some 57, some (41, true), .fieldAddr 5 (.t 1)⟩, ⟨some 58, some (41, true), .loadN 5 (.t 57)⟩, ⟨some 59, some (41, true), .fieldAddr 10 (.t 1)⟩, ⟨some 60, some (41, true), .load1 (.t 59)⟩, ⟨some 61, some (41, true), .fieldAddr 11 (.t 1)⟩, ⟨some 62, some (41, true), .load1 (.t 61)⟩, ⟨some 63, some (41, true), .fieldAddr 12 (.t 1)⟩, ⟨some 64, some (41, true), .load1 (.t 63)⟩, ⟨some 65, some (41, true), .fieldAddr 13 (.t 1)⟩, ⟨some 66, some (41, true), .load1 (.t 65)⟩, ⟨some 67, some (41, true), .call 11 [(.t 56), (.t 58), (.t 60), (.t 62), (.t 64), (.t 66)]⟩, ⟨some 68, some (41, true), .bin .num .eql (.t 54) (.t 67)⟩, ⟨some 69, none, .pick (.t 41) (.t 68) (.c (.bool false))⟩, ⟨some 70, none, .mov (.t 69)⟩, ⟨some 71, some (70, true), .fieldAddr 0 (.t 1)⟩, ⟨some 72, some (70, true), .loadN 5 (.t 71)⟩, ⟨some 73, some (70, true), .fieldAddr 5 (.t 1)⟩, ⟨some 74, some (70, true), .loadN 5 (.t 73)⟩, ⟨some 75, some (70, true), .call 12 [(.t 72), (.t 74)]⟩, ⟨some 76, some (70, true), .fieldAddr 0 (.t 1)⟩, ⟨some 77, some (70, true), .loadN 5 (.t 76)⟩, ⟨some 78, some (70, true), .fieldAddr 5 (.t 1)⟩, ⟨some 79, some (70, true), .loadN 5 (.t 78)⟩, ⟨some 80, some (70, true), .call 13 [(.t 77), (.t 79)]⟩, ⟨some 81, some (70, true), .bin .num .eql (.t 75) (.t 80)⟩, ⟨some 82, none, .pick (.t 70) (.t 81) (.c (.bool false))⟩, ⟨some 83, none, .mov (.t 82)⟩, ⟨some 84, some (83, true), .fieldAddr 0 (.t 1)⟩, ⟨some 85, some (83, true), .loadN 5 (.t 84)⟩, ⟨some 86, some (83, true), .fieldAddr 5 (.t 1)⟩, ⟨some 87, some (83, true), .loadN 5 (.t 86)⟩, ⟨some 88, some (83, true), .fieldAddr 10 (.t 1)⟩, ⟨some 89, some (83, true), .load1 (.t 88)⟩, ⟨some 90, some (83, true), .fieldAddr 11 (.t 1)⟩, ⟨some 91, some (83, true), .load1 (.t 90)⟩, ⟨some 92, some (83, true), .call 14 [(.t 85), (.t 87), (.t 89), (.t 91)]⟩, ⟨some 93, some (83, true), .fieldAddr 0 (.t 1)⟩, ⟨some 94, some (83, true), .loadN 5 (.t 93)⟩, ⟨some 95, some (83, true), .fieldAddr 5 (.t 1)⟩, ⟨some 96, some (83, true), .loadN 5 (.t 95)⟩, ⟨some 97, some (83, true), .fieldAddr 10 (.t 1)⟩, ⟨some 98, some (83, true), .load1 (.t 97)⟩, ⟨some 99, some (83, true), .fieldAddr 11 (.t 1)⟩, ⟨some 100, some (83, true), .load1 (.t 99)⟩, ⟨some 101, some (83, true), .call 15 [(.t 94), (.t 96), (.t 98), (.t 100)]⟩, ⟨some 102, some (83, true), .bin .bool .eql (.t 92) (.t 101)⟩, ⟨some 103, none, .pick (.t 83) (.t 102) (.c (.bool false))⟩, ⟨some 2, none, .mov (.t 103)⟩]) <|
  .ret
def v3 : VFunc := ⟨104, [.tmp 2], c3⟩
/-- berthing/berthinglaw17.RulesHold -/
def c4 : VCode :=
  .seq (.ops [⟨some 1, none, .box (.t 0)⟩, ⟨some 2, none, .mov (.c (.bool false))⟩]) <|
  .seq (.seq (.ops [⟨some 4, none, .call 6 []⟩, ⟨some 5, none, .un .not (.t 4)⟩]) <|
  .cond (.t 5) (.seq (.ops [⟨some 2, none, .mov (.c (.bool false))⟩]) <|
   .ret) (.skip)) <|
  .seq (.seq (.ops [⟨some 6, none, .fieldAddr 10 (.t 1)⟩, ⟨some 7, none, .load1 (.t 6)⟩, ⟨some 8, none, .lenS (.t 7)⟩, ⟨some 9, none, .bin .num .gtr (.t 8) (.c (.int .i64 50))⟩, ⟨some 10, none, .mov (.t 9)⟩, ⟨some 11, some (10, false), .fieldAddr 0 (.t 1)⟩, ⟨some 12, some (10, false), .loadN 5 (.t 11)⟩, ⟨some 13, some (10, false), .fieldAddr 5 (.t 1)⟩, ⟨some 14, some (10, false), .loadN 5 (.t 13)⟩, ⟨some 15, some (10, false), .fieldAddr 10 (.t 1)⟩, ⟨some 16, some (10, false), .load1 (.t 15)⟩, ⟨some 17, some (10, false), .fieldAddr 11 (.t 1)⟩, ⟨some 18, some (10, false), .load1 (.t 17)⟩, ⟨some 19, some (10, false), .call 14 [(.t 12), (.t 14), (.t 16), (.t 18)]⟩, ⟨some 20, some (10, false), .un .not (.t 19)⟩, ⟨some 21, none, .pick (.t 10) (.c (.bool true)) (.t 20)⟩]) <|
  .cond (.t 21) (.seq (.ops [⟨some 2, none, .mov (.c (.bool true))⟩]) <|
   .ret) (.skip)) <|
  .seq (.ops [⟨some 22, none, .fieldAddr 0 (.t 1)⟩, ⟨some 23, none, .loadN 5 (.t 22)⟩, ⟨some 24, none, .fieldAddr 5 (.t 1)⟩, ⟨some 25, none, .loadN 5 (.t 24)⟩, ⟨some 26, none, .fieldAddr 10 (.t 1)⟩, ⟨some 27, none, .load1 (.t 26)⟩, ⟨some 28, none, .fieldAddr 11 (.t 1)⟩, ⟨some 29, none, .load1 (.t 28)⟩, ⟨some 30, none, .fieldAddr 12 (.t 1)⟩, ⟨some 31, none, .load1 (.t 30)⟩, ⟨some 32, none, .fieldAddr 13 (.t 1)⟩, ⟨some 33, none, .load1 (.t 32)⟩, ⟨some 34, none, .call 10 [(.t 23), (.t 25), (.t 27), (.t 29), (.t 31), (.t 33)]⟩, ⟨some 3, none, .mov (.t 34)⟩]) <|
  .seq (.ops [⟨some 35, none, .mov (.t 3)⟩, ⟨some 36, none, .bin .num .neq (.t 35) (.c (.int .i64 0))⟩, ⟨some 37, none, .mov (.t 36)⟩, ⟨some 38, some (37, false), .fieldAddr 12 (.t 1)⟩, ⟨some 39, some (37, false), .load1 (.t 38)⟩, ⟨some 40, some (37, false), .fieldAddr 13 (.t 1)⟩, ⟨some 41, some (37, false), .load1 (.t 40)⟩, ⟨some 42, some (37, false), .call 7 [(.t 39), (.t 41)]⟩, ⟨some 43, some (37, false), .mov (.t 42)⟩, ⟨some 44, some (43, true), .fieldAddr 0 (.t 1)⟩, ⟨some 45, some (43, true), .loadN 5 (.t 44)⟩, ⟨some 46, some (43, true), .fieldAddr 5 (.t 1)⟩, ⟨some 47, some (43, true), .loadN 5 (.t 46)⟩, ⟨some 48, some (43, true), .fieldAddr 12 (.t 1)⟩, ⟨some 49, some (43, true), .load1 (.t 48)⟩, ⟨some 50, some (43, true), .fieldAddr 13 (.t 1)⟩, ⟨some 51, some (43, true), .load1 (.t 50)⟩, ⟨some 52, some (43, true), .call 16 [(.t 47), (.t 49), (.t 51)]⟩, ⟨some 53, some (43, true), .fieldAddr 10 (.t 1)⟩, ⟨some 54, some (43, true), .load1 (.t 53)⟩, ⟨some 55, some (43, true), .fieldAddr 11 (.t 1)⟩, ⟨some 56, some (43, true), .load1 (.t 55)⟩, ⟨some 57, some (43, true), .call 14 [(.t 45), (.t 52), (.t 54), (.t 56)]⟩, ⟨some 58, some (37, false), .pick (.t 43) (.t 57) (.c (.bool false))⟩, ⟨some 59, none, .pick (.t 37) (.c (.bool true)) (.t 58)⟩, ⟨some 2, none, .mov (.t 59)⟩]) <|
  .ret
def v4 : VFunc := ⟨60, [.tmp 2], c4⟩
/-- berthing/berthinglaw17.RulesMake -/
def c5 : VCode :=
  .seq (.ops [⟨some 1, none, .box (.t 0)⟩, ⟨some 2, none, .mov (.c (.bool false))⟩]) <|
  .seq (.seq (.ops [⟨some 3, none, .call 6 []⟩, ⟨some 4, none, .un .not (.t 3)⟩]) <|
  .cond (.t 4) (.seq (.ops [⟨some 2, none, .mov (.c (.bool false))⟩]) <|
   .ret) (.skip)) <|
  .seq (.ops [⟨some 5, none, .fieldAddr 0 (.t 1)⟩, ⟨some 6, none, .loadN 5 (.t 5)⟩, ⟨some 7, none, .fieldAddr 5 (.t 1)⟩, ⟨some 8, none, .loadN 5 (.t 7)⟩, ⟨some 9, none, .call 12 [(.t 6), (.t 8)]⟩, ⟨some 10, none, .bin .num .eql (.t 9) (.c (.int .i64 0))⟩, ⟨some 11, none, .fieldAddr 5 (.t 1)⟩, ⟨some 12, none, .loadN 5 (.t 11)⟩, ⟨some 13, none, .call 17 [(.t 12)]⟩, ⟨some 14, none, .mov (.t 13)⟩, ⟨some 15, some (14, true), .fieldAddr 0 (.t 1)⟩, ⟨some 16, some (14, true), .loadN 5 (.t 15)⟩, ⟨some 17, some (14, true), .fieldAddr 5 (.t 1)⟩, ⟨some 18, some (14, true), .loadN 5 (.t 17)⟩, ⟨some 19, some (14, true), .call 14 [(.t 16), (.t 18), (.c (.sl .nil 0 [])), (.c (.int .i64 0))]⟩, ⟨some 20, none, .pick (.t 14) (.t 19) (.c (.bool false))⟩, ⟨some 21, none, .bin .bool .eql (.t 10) (.t 20)⟩, ⟨some 2, none, .mov (.t 21)⟩]) <|
  .ret
def v5 : VFunc := ⟨22, [.tmp 2], c5⟩
/-- berthing/berthinglaw17.first -/
def c6 : VCode :=
  .seq (.ops [⟨some 0, none, .mov (.c (.bool false))⟩]) <|
  .seq (.ops [⟨some 4, none, .build [(.int .i64 0), (.int .i64 0), (.int .i64 0), (.int .i64 0), (.int .i64 0)] [(0, 1, (.c (.int .i64 10))), (1, 1, (.c (.int .i64 1))), (2, 1, (.c (.int .i64 5))), (3, 1, (.c (.int .i64 9))), (4, 1, (.c (.int .i64 0)))]⟩, ⟨some 1, none, .alloc [(.int .i64 0), (.int .i64 0), (.int .i64 0), (.int .i64 0), (.int .i64 0)]⟩, ⟨none, none, .storeN 5 (.t 1) (.t 4)⟩]) <|
  .seq (.ops [⟨some 5, none, .build [(.int .i64 0), (.int .i64 0), (.int .i64 0), (.int .i64 0), (.int .i64 0)] [(0, 1, (.c (.int .i64 4))), (1, 1, (.c (.int .i64 1))), (2, 1, (.c (.int .i64 2))), (3, 1, (.c (.int .i64 6)))]⟩, ⟨some 2, none, .alloc [(.int .i64 0), (.int .i64 0), (.int .i64 0), (.int .i64 0), (.int .i64 0)]⟩, ⟨none, none, .storeN 5 (.t 2) (.t 5)⟩]) <|
  .seq (.ops [⟨some 6, none, .build [(.int .i64 0), (.int .i64 0), (.int .i64 0), (.int .i64 0), (.int .i64 0)] [(0, 1, (.c (.int .i64 3))), (1, 1, (.c (.int .i64 1))), (3, 1, (.c (.int .i64 1)))]⟩, ⟨some 7, none, .buildSlice false 5 1 [(.int .i64 0), (.int .i64 0), (.int .i64 0), (.int .i64 0), (.int .i64 0)] [(0, 5, (.t 6))]⟩, ⟨some 3, none, .mov (.t 7)⟩]) <|
  .seq (.ops [⟨some 8, none, .loadN 5 (.t 1)⟩, ⟨some 9, none, .loadN 5 (.t 2)⟩, ⟨some 10, none, .mov (.t 3)⟩, ⟨some 11, none, .call 10 [(.t 8), (.t 9), (.t 10), (.c (.int .i64 5)), (.c (.int .i64 0)), (.c (.int .i64 11))]⟩, ⟨some 12, none, .bin .num .eql (.t 11) (.c (.int .i64 23))⟩, ⟨some 13, none, .mov (.t 12)⟩, ⟨some 14, some (13, true), .loadN 5 (.t 1)⟩, ⟨some 15, some (13, true), .loadN 5 (.t 2)⟩, ⟨some 16, some (13, true), .mov (.t 3)⟩, ⟨some 17, some (13, true), .call 10 [(.t 14), (.t 15), (.t 16), (.c (.int .i64 5)), (.c (.int .i64 0)), (.c (.int .i64 2))]⟩, ⟨some 18, some (13, true), .bin .num .eql (.t 17) (.c (.int .i64 23))⟩, ⟨some 19, none, .pick (.t 13) (.t 18) (.c (.bool false))⟩, ⟨some 20, none, .mov (.t 19)⟩, ⟨some 21, some (20, true), .loadN 5 (.t 1)⟩, ⟨some 22, some (20, true), .loadN 5 (.t 2)⟩, ⟨some 23, some (20, true), .mov (.t 3)⟩, ⟨some 24, some (20, true), .call 10 [(.t 21), (.t 22), (.t 23), (.c (.int .i64 5)), (.c (.int .i64 0)), (.c (.int .i64 10))]⟩, ⟨some 25, some (20, true), .bin .num .eql (.t 24) (.c (.int .i64 0))⟩, ⟨some 26, none, .pick (.t 20) (.t 25) (.c (.bool false))⟩, ⟨some 27, none, .mov (.t 26)⟩, ⟨some 28, some (27, true), .loadN 5 (.t 1)⟩, ⟨some 29, some (27, true), .loadN 5 (.t 2)⟩, ⟨some 30, some (27, true), .mov (.t 3)⟩, ⟨some 31, some (27, true), .call 10 [(.t 28), (.t 29), (.t 30), (.c (.int .i64 5)), (.c (.int .i64 3)), (.c (.int .i64 4))]⟩, ⟨some 32, some (27, true), .bin .num .eql (.t 31) (.c (.int .i64 24))⟩, ⟨some 33, none, .pick (.t 27) (.t 32) (.c (.bool false))⟩, ⟨some 34, none, .mov (.t 33)⟩, ⟨some 35, some (34, true), .loadN 5 (.t 1)⟩, ⟨some 36, some (34, true), .loadN 5 (.t 2)⟩, ⟨some 37, some (34, true), .mov (.t 3)⟩, ⟨some 38, some (34, true), .call 10 [(.t 35), (.t 36), (.t 37), (.c (.int .i64 5)), (.c (.int .i64 1)), (.c (.int .i64 0))]⟩, ⟨some 39, some (34, true), .bin .num .eql (.t 38) (.c (.int .i64 2))⟩, ⟨some 40, none, .pick (.t 34) (.t 39) (.c (.bool false))⟩, ⟨some 41, none, .mov (.t 40)⟩, ⟨some 42, some (41, true), .loadN 5 (.t 1)⟩, ⟨some 43, some (41, true), .loadN 5 (.t 2)⟩, ⟨some 44, some (41, true), .call 12 [(.t 42), (.t 43)]⟩, ⟨some 45, some (41, true), .bin .num .eql (.t 44) (.c (.int .i64 0))⟩, ⟨some 46, none, .pick (.t 41) (.t 45) (.c (.bool false))⟩, ⟨some 47, none, .mov (.t 46)⟩, ⟨some 48, some (47, true), .loadN 5 (.t 1)⟩, ⟨some 49, some (47, true), .loadN 5 (.t 2)⟩, ⟨some 50, some (47, true), .mov (.t 3)⟩, ⟨some 51, some (47, true), .call 14 [(.t 48), (.t 49), (.t 50), (.c (.int .i64 5))]⟩, ⟨some 52, none, .pick (.t 47) (.t 51) (.c (.bool false))⟩, ⟨some 53, none, .mov (.t 52)⟩, ⟨some 54, some (53, true), .loadN 5 (.t 1)⟩, ⟨some 55, some (53, true), .loadN 5 (.t 2)⟩, ⟨some 56, some (53, true), .mov (.t 3)⟩, ⟨some 57, some (53, true), .call 14 [(.t 54), (.t 55), (.t 56), (.c (.int .i64 7))]⟩, ⟨some 58, some (53, true), .un .not (.t 57)⟩, ⟨some 59, none, .pick (.t 53) (.t 58) (.c (.bool false))⟩, ⟨some 60, none, .mov (.t 59)⟩, ⟨some 61, some (60, true), .call 9 [(.c (.int .i64 4))]⟩, ⟨some 62, none, .pick (.t 60) (.t 61) (.c (.bool false))⟩, ⟨some 63, none, .mov (.t 62)⟩, ⟨some 64, some (63, true), .call 9 [(.c (.int .i64 1))]⟩, ⟨some 65, some (63, true), .un .not (.t 64)⟩, ⟨some 66, none, .pick (.t 63) (.t 65) (.c (.bool false))⟩, ⟨some 67, none, .mov (.t 66)⟩, ⟨some 68, some (67, true), .call 7 [(.c (.int .i64 0)), (.c (.int .i64 4611686018427387904))]⟩, ⟨some 69, none, .pick (.t 67) (.t 68) (.c (.bool false))⟩, ⟨some 0, none, .mov (.t 69)⟩]) <|
  .ret
def v6 : VFunc := ⟨70, [.tmp 0], c6⟩
/-- berthing/rules.Number -/
def c7 : VCode :=
  .seq (.ops [⟨some 4, none, .mov (.c (.bool false))⟩]) <|
  .seq (.seq (.ops [⟨some 5, none, .mov (.t 0)⟩]) <|
  .block 0 (.seq (.ops [⟨some 7, none, .bin .num .eql (.t 5) (.c (.int .i64 1))⟩, ⟨some 6, none, .mov (.t 7)⟩]) <|
   .cond (.t 6) (.seq (.ops [⟨some 8, none, .mov (.t 1)⟩, ⟨some 9, none, .bin .num .geq (.t 8) (.c (.int .i64 1))⟩, ⟨some 10, none, .mov (.t 9)⟩, ⟨some 11, some (10, true), .mov (.t 1)⟩, ⟨some 12, some (10, true), .bin .num .leq (.t 11) (.c (.int .i64 10000))⟩, ⟨some 13, none, .pick (.t 10) (.t 12) (.c (.bool false))⟩, ⟨some 4, none, .mov (.t 13)⟩]) <|
    .ret) (.seq (.seq (.ops [⟨some 15, none, .bin .num .eql (.t 5) (.c (.int .i64 0))⟩, ⟨some 14, none, .mov (.t 15)⟩]) <|
    .cond (.t 14) (.skip) (.ops [⟨some 16, none, .bin .num .eql (.t 5) (.c (.int .i64 3))⟩, ⟨some 14, none, .mov (.t 16)⟩])) <|
    .cond (.t 14) (.seq (.ops [⟨some 17, none, .mov (.t 1)⟩, ⟨some 18, none, .bin .num .eql (.t 17) (.c (.int .i64 4611686018427387904))⟩, ⟨some 19, none, .mov (.t 18)⟩, ⟨some 20, some (19, false), .mov (.t 1)⟩, ⟨some 21, some (19, false), .bin .num .geq (.t 20) (.c (.int .i64 0))⟩, ⟨some 22, some (19, false), .mov (.t 21)⟩, ⟨some 23, some (22, true), .mov (.t 1)⟩, ⟨some 24, some (22, true), .bin .num .leq (.t 23) (.c (.int .i64 9007199254740992))⟩, ⟨some 25, some (19, false), .pick (.t 22) (.t 24) (.c (.bool false))⟩, ⟨some 26, none, .pick (.t 19) (.c (.bool true)) (.t 25)⟩, ⟨some 4, none, .mov (.t 26)⟩]) <|
     .ret) (.seq (.seq (.ops [⟨some 28, none, .bin .num .eql (.t 5) (.c (.int .i64 2))⟩, ⟨some 27, none, .mov (.t 28)⟩]) <|
     .cond (.t 27) (.skip) (.ops [⟨some 29, none, .bin .num .eql (.t 5) (.c (.int .i64 4))⟩, ⟨some 27, none, .mov (.t 29)⟩])) <|
     .cond (.t 27) (.seq (.ops [⟨some 30, none, .mov (.t 1)⟩, ⟨some 31, none, .bin .num .geq (.t 30) (.c (.int .i64 0))⟩, ⟨some 32, none, .mov (.t 31)⟩, ⟨some 33, some (32, true), .mov (.t 1)⟩, ⟨some 34, some (32, true), .bin .num .leq (.t 33) (.c (.int .i64 9007199254740992))⟩, ⟨some 35, none, .pick (.t 32) (.t 34) (.c (.bool false))⟩, ⟨some 4, none, .mov (.t 35)⟩]) <|
      .ret) (.skip))))) <|
  .seq (.ops [⟨some 4, none, .mov (.c (.bool false))⟩]) <|
  .ret
def v7 : VFunc := ⟨36, [.tmp 4], c7⟩
/-- berthing/berthingref17.Number -/
def c8 : VCode :=
  .seq (.ops [⟨some 4, none, .mov (.c (.bool false))⟩]) <|
  .seq (.seq (.ops [⟨some 6, none, .mov (.t 0)⟩, ⟨some 7, none, .bin .num .eql (.t 6) (.c (.int .i64 1))⟩]) <|
  .cond (.t 7) (.seq (.ops [⟨some 8, none, .mov (.t 1)⟩, ⟨some 9, none, .bin .num .gtr (.t 8) (.c (.int .i64 0))⟩, ⟨some 10, none, .mov (.t 9)⟩, ⟨some 11, some (10, true), .mov (.t 1)⟩, ⟨some 12, some (10, true), .bin .num .lss (.t 11) (.c (.int .i64 10001))⟩, ⟨some 13, none, .pick (.t 10) (.t 12) (.c (.bool false))⟩, ⟨some 4, none, .mov (.t 13)⟩]) <|
   .ret) (.skip)) <|
  .seq (.ops [⟨some 14, none, .mov (.t 1)⟩, ⟨some 15, none, .bin .num .geq (.t 14) (.c (.int .i64 0))⟩, ⟨some 16, none, .mov (.t 15)⟩, ⟨some 17, some (16, true), .mov (.t 1)⟩, ⟨some 18, some (16, true), .bin .num .leq (.t 17) (.c (.int .i64 9007199254740992))⟩, ⟨some 19, none, .pick (.t 16) (.t 18) (.c (.bool false))⟩, ⟨some 5, none, .mov (.t 19)⟩]) <|
  .seq (.seq (.ops [⟨some 20, none, .mov (.t 0)⟩, ⟨some 21, none, .bin .num .eql (.t 20) (.c (.int .i64 0))⟩, ⟨some 22, none, .mov (.t 21)⟩, ⟨some 23, some (22, false), .mov (.t 0)⟩, ⟨some 24, some (22, false), .bin .num .eql (.t 23) (.c (.int .i64 3))⟩, ⟨some 25, none, .pick (.t 22) (.c (.bool true)) (.t 24)⟩]) <|
  .cond (.t 25) (.seq (.ops [⟨some 26, none, .mov (.t 5)⟩, ⟨some 27, none, .mov (.t 26)⟩, ⟨some 28, some (27, false), .mov (.t 1)⟩, ⟨some 29, some (27, false), .bin .num .eql (.t 28) (.c (.int .i64 4611686018427387904))⟩, ⟨some 30, none, .pick (.t 27) (.c (.bool true)) (.t 29)⟩, ⟨some 4, none, .mov (.t 30)⟩]) <|
   .ret) (.skip)) <|
  .seq (.ops [⟨some 31, none, .mov (.t 0)⟩, ⟨some 32, none, .bin .num .eql (.t 31) (.c (.int .i64 2))⟩, ⟨some 33, none, .mov (.t 32)⟩, ⟨some 34, some (33, false), .mov (.t 0)⟩, ⟨some 35, some (33, false), .bin .num .eql (.t 34) (.c (.int .i64 4))⟩, ⟨some 36, none, .pick (.t 33) (.c (.bool true)) (.t 35)⟩, ⟨some 37, none, .mov (.t 36)⟩, ⟨some 38, some (37, true), .mov (.t 5)⟩, ⟨some 39, none, .pick (.t 37) (.t 38) (.c (.bool false))⟩, ⟨some 4, none, .mov (.t 39)⟩]) <|
  .ret
def v8 : VFunc := ⟨40, [.tmp 4], c8⟩
/-- berthing/rules.Bound -/
def c9 : VCode :=
  .seq (.ops [⟨some 2, none, .mov (.c (.bool false))⟩]) <|
  .seq (.ops [⟨some 3, none, .mov (.t 0)⟩, ⟨some 4, none, .bin .num .eql (.t 3) (.c (.int .i64 0))⟩, ⟨some 5, none, .mov (.t 4)⟩, ⟨some 6, some (5, false), .mov (.t 0)⟩, ⟨some 7, some (5, false), .bin .num .eql (.t 6) (.c (.int .i64 2))⟩, ⟨some 8, none, .pick (.t 5) (.c (.bool true)) (.t 7)⟩, ⟨some 9, none, .mov (.t 8)⟩, ⟨some 10, some (9, false), .mov (.t 0)⟩, ⟨some 11, some (9, false), .bin .num .eql (.t 10) (.c (.int .i64 3))⟩, ⟨some 12, none, .pick (.t 9) (.c (.bool true)) (.t 11)⟩, ⟨some 13, none, .mov (.t 12)⟩, ⟨some 14, some (13, false), .mov (.t 0)⟩, ⟨some 15, some (13, false), .bin .num .eql (.t 14) (.c (.int .i64 4))⟩, ⟨some 16, none, .pick (.t 13) (.c (.bool true)) (.t 15)⟩, ⟨some 2, none, .mov (.t 16)⟩]) <|
  .ret
def v9 : VFunc := ⟨17, [.tmp 2], c9⟩
/-- berthing/rules.Write -/
def c10 : VCode :=
  .seq (.ops [⟨some 6, none, .box (.t 0)⟩, ⟨some 7, none, .box (.t 1)⟩, ⟨some 12, none, .mov (.c (.int .i64 0))⟩]) <|
  .seq (.block 0 (.seq (.ops [⟨some 14, none, .mov (.t 4)⟩, ⟨some 15, none, .mov (.t 5)⟩, ⟨some 16, none, .call 7 [(.t 14), (.t 15)]⟩, ⟨some 17, none, .un .not (.t 16)⟩, ⟨some 13, none, .mov (.t 17)⟩]) <|
   .cond (.t 13) (.seq (.ops [⟨some 12, none, .mov (.c (.int .i64 2))⟩]) <|
    .ret) (.seq (.ops [⟨some 19, none, .mov (.t 4)⟩, ⟨some 20, none, .call 9 [(.t 19)]⟩, ⟨some 21, none, .mov (.t 20)⟩, ⟨some 22, some (21, true), .loadN 5 (.t 6)⟩, ⟨some 23, some (21, true), .mov (.t 2)⟩, ⟨some 24, some (21, true), .mov (.t 4)⟩, ⟨some 25, some (21, true), .mov (.t 5)⟩, ⟨some 26, some (21, true), .call 18 [(.t 22), (.t 23), (.t 24), (.t 25)]⟩, ⟨some 27, some (21, true), .un .not (.t 26)⟩, ⟨some 28, none, .pick (.t 21) (.t 27) (.c (.bool false))⟩, ⟨some 18, none, .mov (.t 28)⟩]) <|
    .cond (.t 18) (.seq (.ops [⟨some 12, none, .mov (.c (.int .i64 23))⟩]) <|
     .ret) (.seq (.ops [⟨some 30, none, .mov (.t 4)⟩, ⟨some 31, none, .bin .num .eql (.t 30) (.c (.int .i64 2))⟩, ⟨some 32, none, .mov (.t 31)⟩, ⟨some 33, some (32, true), .mov (.t 5)⟩, ⟨some 34, some (32, true), .fieldAddr 3 (.t 7)⟩, ⟨some 35, some (32, true), .load1 (.t 34)⟩, ⟨some 36, some (32, true), .bin .num .gtr (.t 33) (.t 35)⟩, ⟨some 37, none, .pick (.t 32) (.t 36) (.c (.bool false))⟩, ⟨some 38, none, .mov (.t 37)⟩, ⟨some 39, some (38, false), .mov (.t 4)⟩, ⟨some 40, some (38, false), .bin .num .eql (.t 39) (.c (.int .i64 3))⟩, ⟨some 41, some (38, false), .mov (.t 40)⟩, ⟨some 42, some (41, true), .mov (.t 5)⟩, ⟨some 43, some (41, true), .fieldAddr 2 (.t 7)⟩, ⟨some 44, some (41, true), .load1 (.t 43)⟩, ⟨some 45, some (41, true), .bin .num .lss (.t 42) (.t 44)⟩, ⟨some 46, some (38, false), .pick (.t 41) (.t 45) (.c (.bool false))⟩, ⟨some 47, none, .pick (.t 38) (.c (.bool true)) (.t 46)⟩, ⟨some 29, none, .mov (.t 47)⟩]) <|
     .cond (.t 29) (.seq (.ops [⟨some 12, none, .mov (.c (.int .i64 23))⟩]) <|
      .ret) (.seq (.ops [⟨some 49, none, .mov (.t 4)⟩, ⟨some 50, none, .bin .num .eql (.t 49) (.c (.int .i64 3))⟩, ⟨some 51, none, .mov (.t 50)⟩, ⟨some 52, some (51, true), .mov (.t 5)⟩, ⟨some 53, some (51, true), .mov (.t 3)⟩, ⟨some 54, some (51, true), .bin .num .lss (.t 52) (.t 53)⟩, ⟨some 55, none, .pick (.t 51) (.t 54) (.c (.bool false))⟩, ⟨some 48, none, .mov (.t 55)⟩]) <|
      .cond (.t 48) (.seq (.ops [⟨some 12, none, .mov (.c (.int .i64 24))⟩]) <|
       .ret) (.skip)))))) <|
  .seq (.ops [⟨some 12, none, .mov (.c (.int .i64 0))⟩]) <|
  .ret
def v10 : VFunc := ⟨56, [.tmp 12], c10⟩
/-- berthing/berthingref17.Write -/
def c11 : VCode :=
  .seq (.ops [⟨some 6, none, .box (.t 0)⟩, ⟨some 7, none, .box (.t 1)⟩, ⟨some 12, none, .mov (.c (.int .i64 0))⟩]) <|
  .seq (.seq (.ops [⟨some 13, none, .mov (.t 4)⟩, ⟨some 14, none, .mov (.t 5)⟩, ⟨some 15, none, .call 8 [(.t 13), (.t 14)]⟩, ⟨some 16, none, .un .not (.t 15)⟩]) <|
  .cond (.t 16) (.seq (.ops [⟨some 12, none, .mov (.c (.int .i64 2))⟩]) <|
   .ret) (.skip)) <|
  .seq (.seq (.ops [⟨some 17, none, .mov (.t 4)⟩, ⟨some 18, none, .bin .num .neq (.t 17) (.c (.int .i64 1))⟩, ⟨some 19, none, .mov (.t 18)⟩, ⟨some 20, some (19, true), .loadN 5 (.t 6)⟩, ⟨some 21, some (19, true), .mov (.t 2)⟩, ⟨some 22, some (19, true), .mov (.t 4)⟩, ⟨some 23, some (19, true), .mov (.t 5)⟩, ⟨some 24, some (19, true), .call 19 [(.t 20), (.t 21), (.t 22), (.t 23)]⟩, ⟨some 25, none, .pick (.t 19) (.t 24) (.c (.bool false))⟩]) <|
  .cond (.t 25) (.seq (.ops [⟨some 12, none, .mov (.c (.int .i64 23))⟩]) <|
   .ret) (.skip)) <|
  .seq (.seq (.ops [⟨some 26, none, .mov (.t 4)⟩, ⟨some 27, none, .bin .num .eql (.t 26) (.c (.int .i64 2))⟩, ⟨some 28, none, .mov (.t 27)⟩, ⟨some 29, some (28, true), .mov (.t 5)⟩, ⟨some 30, some (28, true), .fieldAddr 3 (.t 7)⟩, ⟨some 31, some (28, true), .load1 (.t 30)⟩, ⟨some 32, some (28, true), .bin .num .gtr (.t 29) (.t 31)⟩, ⟨some 33, none, .pick (.t 28) (.t 32) (.c (.bool false))⟩, ⟨some 34, none, .mov (.t 33)⟩, ⟨some 35, some (34, false), .mov (.t 4)⟩, ⟨some 36, some (34, false), .bin .num .eql (.t 35) (.c (.int .i64 3))⟩, ⟨some 37, some (34, false), .mov (.t 36)⟩, ⟨some 38, some (37, true), .mov (.t 5)⟩, ⟨some 39, some (37, true), .fieldAddr 2 (.t 7)⟩, ⟨some 40, some (37, true), .load1 (.t 39)⟩, ⟨some 41, some (37, true), .bin .num .lss (.t 38) (.t 40)⟩, ⟨some 42, some (34, false), .pick (.t 37) (.t 41) (.c (.bool false))⟩, ⟨some 43, none, .pick (.t 34) (.c (.bool true)) (.t 42)⟩]) <|
  .cond (.t 43) (.seq (.ops [⟨some 12, none, .mov (.c (.int .i64 23))⟩]) <|
   .ret) (.skip)) <|
  .seq (.seq (.ops [⟨some 44, none, .mov (.t 4)⟩, ⟨some 45, none, .bin .num .eql (.t 44) (.c (.int .i64 3))⟩, ⟨some 46, none, .mov (.t 45)⟩, ⟨some 47, some (46, true), .mov (.t 5)⟩, ⟨some 48, some (46, true), .mov (.t 3)⟩, ⟨some 49, some (46, true), .bin .num .lss (.t 47) (.t 48)⟩, ⟨some 50, none, .pick (.t 46) (.t 49) (.c (.bool false))⟩]) <|
  .cond (.t 50) (.seq (.ops [⟨some 12, none, .mov (.c (.int .i64 24))⟩]) <|
   .ret) (.skip)) <|
  .seq (.ops [⟨some 12, none, .mov (.c (.int .i64 0))⟩]) <|
  .ret
def v11 : VFunc := ⟨51, [.tmp 12], c11⟩
/-- berthing/rules.Make -/
def c12 : VCode :=
  .seq (.ops [⟨some 2, none, .box (.t 0)⟩, ⟨some 3, none, .box (.t 1)⟩, ⟨some 4, none, .mov (.c (.int .i64 0))⟩]) <|
  .seq (.seq (.ops [⟨some 6, none, .loadN 5 (.t 3)⟩, ⟨some 7, none, .call 20 [(.t 6)]⟩, ⟨some 8, none, .un .not (.t 7)⟩]) <|
  .cond (.t 8) (.seq (.ops [⟨some 4, none, .mov (.c (.int .i64 2))⟩]) <|
   .ret) (.skip)) <|
  .seq (.seq (.ops [⟨some 5, none, .mov (.c (.int .i64 0))⟩]) <|
  .block 0 (.loop (.seq (.seq (.ops [⟨some 9, none, .mov (.t 5)⟩, ⟨some 10, none, .bin .num .leq (.t 9) (.c (.int .i64 4))⟩]) <|
    .cond (.t 10) (.skip) (.exit 0)) <|
    .seq (.block 1 (.seq (.ops [⟨some 13, none, .mov (.t 5)⟩, ⟨some 14, none, .call 9 [(.t 13)]⟩, ⟨some 15, none, .mov (.t 14)⟩, ⟨some 16, some (15, true), .loadN 5 (.t 2)⟩, ⟨some 17, some (15, true), .mov (.t 5)⟩, ⟨some 18, some (15, true), .loadN 5 (.t 3)⟩, ⟨some 19, some (15, true), .mov (.t 5)⟩, ⟨some 20, some (15, true), .call 21 [(.t 18), (.t 19)]⟩, ⟨some 21, some (15, true), .call 18 [(.t 16), (.c (.sl .nil 0 [])), (.t 17), (.t 20)]⟩, ⟨some 22, some (15, true), .un .not (.t 21)⟩, ⟨some 23, none, .pick (.t 15) (.t 22) (.c (.bool false))⟩]) <|
     .cond (.t 23) (.seq (.ops [⟨some 4, none, .mov (.c (.int .i64 23))⟩]) <|
      .ret) (.skip))) <|
    .ops [⟨some 11, none, .mov (.t 5)⟩, ⟨some 12, none, .bin .num .add (.t 11) (.c (.int .i64 1))⟩, ⟨some 5, none, .mov (.t 12)⟩]))) <|
  .seq (.ops [⟨some 4, none, .mov (.c (.int .i64 0))⟩]) <|
  .ret
def v12 : VFunc := ⟨24, [.tmp 4], c12⟩
/-- berthing/berthingref17.Make -/
def c13 : VCode :=
  .seq (.ops [⟨some 2, none, .box (.t 0)⟩, ⟨some 3, none, .box (.t 1)⟩, ⟨some 4, none, .mov (.c (.int .i64 0))⟩]) <|
  .seq (.seq (.ops [⟨some 5, none, .loadN 5 (.t 3)⟩, ⟨some 6, none, .call 17 [(.t 5)]⟩, ⟨some 7, none, .un .not (.t 6)⟩]) <|
  .cond (.t 7) (.seq (.ops [⟨some 4, none, .mov (.c (.int .i64 2))⟩]) <|
   .ret) (.skip)) <|
  .seq (.seq (.ops [⟨some 8, none, .fieldAddr 0 (.t 3)⟩, ⟨some 9, none, .load1 (.t 8)⟩, ⟨some 10, none, .fieldAddr 0 (.t 2)⟩, ⟨some 11, none, .load1 (.t 10)⟩, ⟨some 12, none, .bin .num .gtr (.t 9) (.t 11)⟩, ⟨some 13, none, .mov (.t 12)⟩, ⟨some 14, some (13, false), .fieldAddr 2 (.t 3)⟩, ⟨some 15, some (13, false), .load1 (.t 14)⟩, ⟨some 16, some (13, false), .fieldAddr 2 (.t 2)⟩, ⟨some 17, some (13, false), .load1 (.t 16)⟩, ⟨some 18, some (13, false), .bin .num .gtr (.t 15) (.t 17)⟩, ⟨some 19, none, .pick (.t 13) (.c (.bool true)) (.t 18)⟩, ⟨some 20, none, .mov (.t 19)⟩, ⟨some 21, some (20, false), .fieldAddr 3 (.t 3)⟩, ⟨some 22, some (20, false), .load1 (.t 21)⟩, ⟨some 23, some (20, false), .fieldAddr 3 (.t 2)⟩, ⟨some 24, some (20, false), .load1 (.t 23)⟩, ⟨some 25, some (20, false), .bin .num .gtr (.t 22) (.t 24)⟩, ⟨some 26, none, .pick (.t 20) (.c (.bool true)) (.t 25)⟩, ⟨some 27, none, .mov (.t 26)⟩, ⟨some 28, some (27, false), .fieldAddr 4 (.t 3)⟩, ⟨some 29, some (27, false), .load1 (.t 28)⟩, ⟨some 30, some (27, false), .fieldAddr 4 (.t 2)⟩, ⟨some 31, some (27, false), .load1 (.t 30)⟩, ⟨some 32, some (27, false), .bin .num .gtr (.t 29) (.t 31)⟩, ⟨some 33, none, .pick (.t 27) (.c (.bool true)) (.t 32)⟩]) <|
  .cond (.t 33) (.seq (.ops [⟨some 4, none, .mov (.c (.int .i64 23))⟩]) <|
   .ret) (.skip)) <|
  .seq (.ops [⟨some 4, none, .mov (.c (.int .i64 0))⟩]) <|
  .ret
def v13 : VFunc := ⟨34, [.tmp 4], c13⟩
/-- berthing/rules.Holds -/
def c14 : VCode :=
  .seq (.ops [⟨some 4, none, .box (.t 0)⟩, ⟨some 5, none, .box (.t 1)⟩, ⟨some 8, none, .mov (.c (.bool false))⟩]) <|
  .seq (.seq (.ops [⟨some 9, none, .mov (.c (.int .i64 0))⟩]) <|
  .block 0 (.loop (.seq (.seq (.ops [⟨some 10, none, .mov (.t 9)⟩, ⟨some 11, none, .bin .num .leq (.t 10) (.c (.int .i64 4))⟩]) <|
    .cond (.t 11) (.skip) (.exit 0)) <|
    .seq (.block 1 (.seq (.ops [⟨some 14, none, .mov (.t 9)⟩, ⟨some 15, none, .call 9 [(.t 14)]⟩, ⟨some 16, none, .mov (.t 15)⟩, ⟨some 17, some (16, true), .loadN 5 (.t 4)⟩, ⟨some 18, some (16, true), .mov (.t 2)⟩, ⟨some 19, some (16, true), .mov (.t 9)⟩, ⟨some 20, some (16, true), .loadN 5 (.t 5)⟩, ⟨some 21, some (16, true), .mov (.t 9)⟩, ⟨some 22, some (16, true), .call 21 [(.t 20), (.t 21)]⟩, ⟨some 23, some (16, true), .call 18 [(.t 17), (.t 18), (.t 19), (.t 22)]⟩, ⟨some 24, some (16, true), .un .not (.t 23)⟩, ⟨some 25, none, .pick (.t 16) (.t 24) (.c (.bool false))⟩]) <|
     .cond (.t 25) (.seq (.ops [⟨some 8, none, .mov (.c (.bool false))⟩]) <|
      .ret) (.skip))) <|
    .ops [⟨some 12, none, .mov (.t 9)⟩, ⟨some 13, none, .bin .num .add (.t 12) (.c (.int .i64 1))⟩, ⟨some 9, none, .mov (.t 13)⟩]))) <|
  .seq (.ops [⟨some 26, none, .fieldAddr 2 (.t 5)⟩, ⟨some 27, none, .load1 (.t 26)⟩, ⟨some 28, none, .fieldAddr 3 (.t 5)⟩, ⟨some 29, none, .load1 (.t 28)⟩, ⟨some 30, none, .bin .num .leq (.t 27) (.t 29)⟩, ⟨some 31, none, .mov (.t 30)⟩, ⟨some 32, some (31, true), .fieldAddr 3 (.t 5)⟩, ⟨some 33, some (31, true), .load1 (.t 32)⟩, ⟨some 34, some (31, true), .mov (.t 3)⟩, ⟨some 35, some (31, true), .bin .num .geq (.t 33) (.t 34)⟩, ⟨some 36, none, .pick (.t 31) (.t 35) (.c (.bool false))⟩, ⟨some 8, none, .mov (.t 36)⟩]) <|
  .ret
def v14 : VFunc := ⟨37, [.tmp 8], c14⟩
/-- berthing/berthingref17.Holds -/
def c15 : VCode :=
  .seq (.ops [⟨some 4, none, .box (.t 0)⟩, ⟨some 5, none, .box (.t 1)⟩, ⟨some 8, none, .mov (.c (.bool false))⟩]) <|
  .seq (.ops [⟨some 12, none, .fieldAddr 2 (.t 5)⟩, ⟨some 13, none, .load1 (.t 12)⟩, ⟨some 14, none, .fieldAddr 3 (.t 5)⟩, ⟨some 15, none, .load1 (.t 14)⟩, ⟨some 16, none, .bin .num .leq (.t 13) (.t 15)⟩, ⟨some 17, none, .mov (.t 16)⟩, ⟨some 18, some (17, true), .fieldAddr 3 (.t 5)⟩, ⟨some 19, some (17, true), .load1 (.t 18)⟩, ⟨some 20, some (17, true), .mov (.t 3)⟩, ⟨some 21, some (17, true), .bin .num .geq (.t 19) (.t 20)⟩, ⟨some 22, none, .pick (.t 17) (.t 21) (.c (.bool false))⟩, ⟨some 9, none, .mov (.t 22)⟩]) <|
  .seq (.seq (.ops [⟨some 23, none, .buildSlice false 1 4 [(.int .i64 0), (.int .i64 0), (.int .i64 0), (.int .i64 0)] [(0, 1, (.c (.int .i64 0))), (1, 1, (.c (.int .i64 2))), (2, 1, (.c (.int .i64 3))), (3, 1, (.c (.int .i64 4)))]⟩, ⟨some 24, none, .lenS (.t 23)⟩, ⟨some 25, none, .mov (.c (.int .i64 0))⟩]) <|
  .block 0 (.loop (.seq (.ops [⟨some 26, none, .bin .num .lss (.t 25) (.t 24)⟩]) <|
    .seq (.cond (.t 26) (.skip) (.exit 0)) <|
    .seq (.block 1 (.seq (.ops [⟨some 27, none, .idxAddrS 1 (.t 23) (.t 25)⟩, ⟨some 28, none, .load1 (.t 27)⟩, ⟨some 11, none, .mov (.t 28)⟩]) <|
     .ops [⟨some 29, none, .mov (.t 9)⟩, ⟨some 30, none, .mov (.t 29)⟩, ⟨some 31, some (30, true), .loadN 5 (.t 4)⟩, ⟨some 32, some (30, true), .mov (.t 2)⟩, ⟨some 33, some (30, true), .mov (.t 11)⟩, ⟨some 34, some (30, true), .loadN 5 (.t 5)⟩, ⟨some 35, some (30, true), .mov (.t 11)⟩, ⟨some 36, some (30, true), .call 22 [(.t 34), (.t 35)]⟩, ⟨some 37, some (30, true), .call 19 [(.t 31), (.t 32), (.t 33), (.t 36)]⟩, ⟨some 38, some (30, true), .un .not (.t 37)⟩, ⟨some 39, none, .pick (.t 30) (.t 38) (.c (.bool false))⟩, ⟨some 9, none, .mov (.t 39)⟩])) <|
    .ops [⟨some 40, none, .bin .num .add (.t 25) (.c (.int .i64 1))⟩, ⟨some 25, none, .mov (.t 40)⟩]))) <|
  .seq (.ops [⟨some 41, none, .mov (.t 9)⟩, ⟨some 8, none, .mov (.t 41)⟩]) <|
  .ret
def v15 : VFunc := ⟨42, [.tmp 8], c15⟩
/-- berthing/berthingref06.With -/
def c16 : VCode :=
  .seq (.ops [⟨some 3, none, .box (.t 0)⟩, ⟨some 6, none, .alloc [(.int .i64 0), (.int .i64 0), (.int .i64 0), (.int .i64 0), (.int .i64 0)]⟩]) <|
  .seq (.seq (.ops [⟨some 7, none, .mov (.t 1)⟩]) <|
  .block 0 (.seq (.ops [⟨some 9, none, .bin .num .eql (.t 7) (.c (.int .i64 0))⟩, ⟨some 8, none, .mov (.t 9)⟩]) <|
   .cond (.t 8) (.ops [⟨some 10, none, .mov (.t 2)⟩, ⟨some 11, none, .fieldAddr 0 (.t 3)⟩, ⟨none, none, .store1 (.t 11) (.t 10)⟩]) (.seq (.ops [⟨some 13, none, .bin .num .eql (.t 7) (.c (.int .i64 1))⟩, ⟨some 12, none, .mov (.t 13)⟩]) <|
    .cond (.t 12) (.ops [⟨some 14, none, .mov (.t 2)⟩, ⟨some 15, none, .fieldAddr 1 (.t 3)⟩, ⟨none, none, .store1 (.t 15) (.t 14)⟩]) (.seq (.ops [⟨some 17, none, .bin .num .eql (.t 7) (.c (.int .i64 2))⟩, ⟨some 16, none, .mov (.t 17)⟩]) <|
     .cond (.t 16) (.ops [⟨some 18, none, .mov (.t 2)⟩, ⟨some 19, none, .fieldAddr 2 (.t 3)⟩, ⟨none, none, .store1 (.t 19) (.t 18)⟩]) (.seq (.ops [⟨some 21, none, .bin .num .eql (.t 7) (.c (.int .i64 3))⟩, ⟨some 20, none, .mov (.t 21)⟩]) <|
      .cond (.t 20) (.ops [⟨some 22, none, .mov (.t 2)⟩, ⟨some 23, none, .fieldAddr 3 (.t 3)⟩, ⟨none, none, .store1 (.t 23) (.t 22)⟩]) (.seq (.ops [⟨some 25, none, .bin .num .eql (.t 7) (.c (.int .i64 4))⟩, ⟨some 24, none, .mov (.t 25)⟩]) <|
       .cond (.t 24) (.ops [⟨some 26, none, .mov (.t 2)⟩, ⟨some 27, none, .fieldAddr 4 (.t 3)⟩, ⟨none, none, .store1 (.t 27) (.t 26)⟩]) (.skip))))))) <|
  .seq (.ops [⟨some 28, none, .loadN 5 (.t 3)⟩, ⟨none, none, .storeN 5 (.t 6) (.t 28)⟩]) <|
  .ret
def v16 : VFunc := ⟨29, [.cellN 5 6], c16⟩
/-- berthing/berthingref06.Right -/
def c17 : VCode :=
  .seq (.ops [⟨some 1, none, .box (.t 0)⟩, ⟨some 2, none, .mov (.c (.bool false))⟩]) <|
  .seq (.ops [⟨some 3, none, .mov (.c (.int .i64 9007199254740992))⟩]) <|
  .seq (.ops [⟨some 6, none, .fieldAddr 0 (.t 1)⟩, ⟨some 7, none, .load1 (.t 6)⟩, ⟨some 8, none, .bin .num .geq (.t 7) (.c (.int .i64 0))⟩, ⟨some 9, none, .mov (.t 8)⟩, ⟨some 10, some (9, true), .fieldAddr 0 (.t 1)⟩, ⟨some 11, some (9, true), .load1 (.t 10)⟩, ⟨some 12, some (9, true), .mov (.t 3)⟩, ⟨some 13, some (9, true), .bin .num .leq (.t 11) (.t 12)⟩, ⟨some 14, none, .pick (.t 9) (.t 13) (.c (.bool false))⟩, ⟨some 15, none, .mov (.t 14)⟩, ⟨some 16, some (15, false), .fieldAddr 0 (.t 1)⟩, ⟨some 17, some (15, false), .load1 (.t 16)⟩, ⟨some 18, some (15, false), .bin .num .eql (.t 17) (.c (.int .i64 4611686018427387904))⟩, ⟨some 19, none, .pick (.t 15) (.c (.bool true)) (.t 18)⟩, ⟨some 4, none, .mov (.t 19)⟩]) <|
  .seq (.ops [⟨some 20, none, .fieldAddr 3 (.t 1)⟩, ⟨some 21, none, .load1 (.t 20)⟩, ⟨some 22, none, .bin .num .geq (.t 21) (.c (.int .i64 0))⟩, ⟨some 23, none, .mov (.t 22)⟩, ⟨some 24, some (23, true), .fieldAddr 3 (.t 1)⟩, ⟨some 25, some (23, true), .load1 (.t 24)⟩, ⟨some 26, some (23, true), .mov (.t 3)⟩, ⟨some 27, some (23, true), .bin .num .leq (.t 25) (.t 26)⟩, ⟨some 28, none, .pick (.t 23) (.t 27) (.c (.bool false))⟩, ⟨some 29, none, .mov (.t 28)⟩, ⟨some 30, some (29, false), .fieldAddr 3 (.t 1)⟩, ⟨some 31, some (29, false), .load1 (.t 30)⟩, ⟨some 32, some (29, false), .bin .num .eql (.t 31) (.c (.int .i64 4611686018427387904))⟩, ⟨some 33, none, .pick (.t 29) (.c (.bool true)) (.t 32)⟩, ⟨some 5, none, .mov (.t 33)⟩]) <|
  .seq (.ops [⟨some 34, none, .mov (.t 4)⟩, ⟨some 35, none, .mov (.t 34)⟩, ⟨some 36, some (35, true), .mov (.t 5)⟩, ⟨some 37, none, .pick (.t 35) (.t 36) (.c (.bool false))⟩, ⟨some 38, none, .mov (.t 37)⟩, ⟨some 39, some (38, true), .fieldAddr 1 (.t 1)⟩, ⟨some 40, some (38, true), .load1 (.t 39)⟩, ⟨some 41, some (38, true), .bin .num .gtr (.t 40) (.c (.int .i64 0))⟩, ⟨some 42, none, .pick (.t 38) (.t 41) (.c (.bool false))⟩, ⟨some 43, none, .mov (.t 42)⟩, ⟨some 44, some (43, true), .fieldAddr 1 (.t 1)⟩, ⟨some 45, some (43, true), .load1 (.t 44)⟩, ⟨some 46, some (43, true), .bin .num .lss (.t 45) (.c (.int .i64 10001))⟩, ⟨some 47, none, .pick (.t 43) (.t 46) (.c (.bool false))⟩, ⟨some 48, none, .mov (.t 47)⟩, ⟨some 49, some (48, true), .fieldAddr 2 (.t 1)⟩, ⟨some 50, some (48, true), .load1 (.t 49)⟩, ⟨some 51, some (48, true), .bin .num .geq (.t 50) (.c (.int .i64 0))⟩, ⟨some 52, none, .pick (.t 48) (.t 51) (.c (.bool false))⟩, ⟨some 53, none, .mov (.t 52)⟩, ⟨some 54, some (53, true), .fieldAddr 2 (.t 1)⟩, ⟨some 55, some (53, true), .load1 (.t 54)⟩, ⟨some 56, some (53, true), .mov (.t 3)⟩, ⟨some 57, some (53, true), .bin .num .leq (.t 55) (.t 56)⟩, ⟨some 58, none, .pick (.t 53) (.t 57) (.c (.bool false))⟩, ⟨some 59, none, .mov (.t 58)⟩, ⟨some 60, some (59, true), .fieldAddr 4 (.t 1)⟩, ⟨some 61, some (59, true), .load1 (.t 60)⟩, ⟨some 62, some (59, true), .bin .num .geq (.t 61) (.c (.int .i64 0))⟩, ⟨some 63, none, .pick (.t 59) (.t 62) (.c (.bool false))⟩, ⟨some 64, none, .mov (.t 63)⟩, ⟨some 65, some (64, true), .fieldAddr 4 (.t 1)⟩, ⟨some 66, some (64, true), .load1 (.t 65)⟩, ⟨some 67, some (64, true), .mov (.t 3)⟩, ⟨some 68, some (64, true), .bin .num .leq (.t 66) (.t 67)⟩, ⟨some 69, none, .pick (.t 64) (.t 68) (.c (.bool false))⟩, ⟨some 70, none, .mov (.t 69)⟩, ⟨some 71, some (70, true), .fieldAddr 3 (.t 1)⟩, ⟨some 72, some (70, true), .load1 (.t 71)⟩, ⟨some 73, some (70, true), .fieldAddr 2 (.t 1)⟩, ⟨some 74, some (70, true), .load1 (.t 73)⟩, ⟨some 75, some (70, true), .bin .num .geq (.t 72) (.t 74)⟩, ⟨some 76, none, .pick (.t 70) (.t 75) (.c (.bool false))⟩, ⟨some 2, none, .mov (.t 76)⟩]) <|
  .ret
def v17 : VFunc := ⟨77, [.tmp 2], c17⟩
/-- berthing/rules.between -/
def c18 : VCode :=
  .seq (.ops [⟨some 4, none, .box (.t 0)⟩, ⟨some 6, none, .box (.t 2)⟩, ⟨some 7, none, .box (.t 3)⟩, ⟨some 8, none, .mov (.c (.bool false))⟩]) <|
  .seq (.ops [⟨some 9, none, .load1 (.t 7)⟩, ⟨some 10, none, .loadN 5 (.t 4)⟩, ⟨some 11, none, .load1 (.t 6)⟩, ⟨some 12, none, .call 21 [(.t 10), (.t 11)]⟩, ⟨some 13, none, .bin .num .leq (.t 9) (.t 12)⟩, ⟨some 14, none, .mov (.t 13)⟩, ⟨some 15, some (14, true), .mov (.t 1)⟩, ⟨some 16, some (14, true), .mkFn 24 [] [(.t 6), (.t 7)]⟩, ⟨some 17, some (14, true), .call 23 [(.t 15), (.t 16)]⟩, ⟨some 18, some (14, true), .un .not (.t 17)⟩, ⟨some 19, none, .pick (.t 14) (.t 18) (.c (.bool false))⟩, ⟨some 8, none, .mov (.t 19)⟩]) <|
  .ret
def v18 : VFunc := ⟨20, [.tmp 8], c18⟩
/-- berthing/berthingref17.wrong -/
def c19 : VCode :=
  .seq (.ops [⟨some 4, none, .box (.t 0)⟩, ⟨some 8, none, .mov (.c (.bool false))⟩]) <|
  .seq (.seq (.ops [⟨some 11, none, .mov (.t 1)⟩, ⟨some 12, none, .lenS (.t 11)⟩, ⟨some 13, none, .mov (.c (.int .i64 0))⟩]) <|
  .block 0 (.loop (.seq (.ops [⟨some 14, none, .bin .num .lss (.t 13) (.t 12)⟩]) <|
    .seq (.cond (.t 14) (.skip) (.exit 0)) <|
    .seq (.block 1 (.seq (.ops [⟨some 15, none, .idxAddrS 5 (.t 11) (.t 13)⟩, ⟨some 16, none, .loadN 5 (.t 15)⟩, ⟨some 10, none, .alloc [(.int .i64 0), (.int .i64 0), (.int .i64 0), (.int .i64 0), (.int .i64 0)]⟩, ⟨none, none, .storeN 5 (.t 10) (.t 16)⟩]) <|
     .seq (.ops [⟨some 17, none, .loadN 5 (.t 10)⟩, ⟨some 18, none, .mov (.t 2)⟩, ⟨some 19, none, .call 22 [(.t 17), (.t 18)]⟩, ⟨some 20, none, .mov (.t 3)⟩, ⟨some 21, none, .bin .num .gtr (.t 19) (.t 20)⟩]) <|
     .cond (.t 21) (.seq (.ops [⟨some 8, none, .mov (.c (.bool true))⟩]) <|
      .ret) (.skip))) <|
    .ops [⟨some 22, none, .bin .num .add (.t 13) (.c (.int .i64 1))⟩, ⟨some 13, none, .mov (.t 22)⟩]))) <|
  .seq (.ops [⟨some 23, none, .mov (.t 3)⟩, ⟨some 24, none, .loadN 5 (.t 4)⟩, ⟨some 25, none, .mov (.t 2)⟩, ⟨some 26, none, .call 22 [(.t 24), (.t 25)]⟩, ⟨some 27, none, .bin .num .gtr (.t 23) (.t 26)⟩, ⟨some 8, none, .mov (.t 27)⟩]) <|
  .ret
def v19 : VFunc := ⟨28, [.tmp 8], c19⟩
/-- berthing/knobs.Right -/
def c20 : VCode :=
  .seq (.ops [⟨some 1, none, .box (.t 0)⟩, ⟨some 2, none, .mov (.c (.bool false))⟩]) <|
  .seq (.ops [⟨some 3, none, .fieldAddr 0 (.t 1)⟩, ⟨some 4, none, .load1 (.t 3)⟩, ⟨some 5, none, .call 25 [(.t 4)]⟩, ⟨some 6, none, .mov (.t 5)⟩, ⟨some 7, some (6, false), .fieldAddr 0 (.t 1)⟩, ⟨some 8, some (6, false), .load1 (.t 7)⟩, ⟨some 9, some (6, false), .bin .num .eql (.t 8) (.c (.int .i64 4611686018427387904))⟩, ⟨some 10, none, .pick (.t 6) (.c (.bool true)) (.t 9)⟩, ⟨some 11, none, .mov (.t 10)⟩, ⟨some 12, some (11, true), .fieldAddr 3 (.t 1)⟩, ⟨some 13, some (11, true), .load1 (.t 12)⟩, ⟨some 14, some (11, true), .call 25 [(.t 13)]⟩, ⟨some 15, some (11, true), .mov (.t 14)⟩, ⟨some 16, some (15, false), .fieldAddr 3 (.t 1)⟩, ⟨some 17, some (15, false), .load1 (.t 16)⟩, ⟨some 18, some (15, false), .bin .num .eql (.t 17) (.c (.int .i64 4611686018427387904))⟩, ⟨some 19, some (11, true), .pick (.t 15) (.c (.bool true)) (.t 18)⟩, ⟨some 20, none, .pick (.t 11) (.t 19) (.c (.bool false))⟩, ⟨some 21, none, .mov (.t 20)⟩, ⟨some 22, some (21, true), .fieldAddr 1 (.t 1)⟩, ⟨some 23, some (21, true), .load1 (.t 22)⟩, ⟨some 24, some (21, true), .bin .num .geq (.t 23) (.c (.int .i64 1))⟩, ⟨some 25, none, .pick (.t 21) (.t 24) (.c (.bool false))⟩, ⟨some 26, none, .mov (.t 25)⟩, ⟨some 27, some (26, true), .fieldAddr 1 (.t 1)⟩, ⟨some 28, some (26, true), .load1 (.t 27)⟩, ⟨some 29, some (26, true), .bin .num .leq (.t 28) (.c (.int .i64 10000))⟩, ⟨some 30, none, .pick (.t 26) (.t 29) (.c (.bool false))⟩, ⟨some 31, none, .mov (.t 30)⟩, ⟨some 32, some (31, true), .fieldAddr 2 (.t 1)⟩, ⟨some 33, some (31, true), .load1 (.t 32)⟩, ⟨some 34, some (31, true), .call 25 [(.t 33)]⟩, ⟨some 35, none, .pick (.t 31) (.t 34) (.c (.bool false))⟩, ⟨some 36, none, .mov (.t 35)⟩, ⟨some 37, some (36, true), .fieldAddr 4 (.t 1)⟩, ⟨some 38, some (36, true), .load1 (.t 37)⟩, ⟨some 39, some (36, true), .call 25 [(.t 38)]⟩, ⟨some 40, none, .pick (.t 36) (.t 39) (.c (.bool false))⟩, ⟨some 41, none, .mov (.t 40)⟩, ⟨some 42, some (41, true), .fieldAddr 2 (.t 1)⟩, ⟨some 43, some (41, true), .load1 (.t 42)⟩, ⟨some 44, some (41, true), .fieldAddr 3 (.t 1)⟩, ⟨some 45, some (41, true), .load1 (.t 44)⟩, ⟨some 46, some (41, true), .bin .num .leq (.t 43) (.t 45)⟩, ⟨some 47, none, .pick (.t 41) (.t 46) (.c (.bool false))⟩, ⟨some 2, none, .mov (.t 47)⟩]) <|
  .ret
def v20 : VFunc := ⟨48, [.tmp 2], c20⟩
/-- berthing/knobs.At -/
def c21 : VCode :=
  .seq (.ops [⟨some 2, none, .box (.t 0)⟩, ⟨some 4, none, .mov (.c (.int .i64 0))⟩]) <|
  .seq (.seq (.ops [⟨some 5, none, .mov (.t 1)⟩, ⟨some 6, none, .bin .num .lss (.t 5) (.c (.int .i64 0))⟩, ⟨some 7, none, .mov (.t 6)⟩, ⟨some 8, some (7, false), .mov (.t 1)⟩, ⟨some 9, some (7, false), .bin .num .gtr (.t 8) (.c (.int .i64 4))⟩, ⟨some 10, none, .pick (.t 7) (.c (.bool true)) (.t 9)⟩]) <|
  .cond (.t 10) (.seq (.ops [⟨some 4, none, .mov (.c (.int .i64 0))⟩]) <|
   .ret) (.skip)) <|
  .seq (.ops [⟨some 11, none, .loadN 5 (.t 2)⟩, ⟨some 12, none, .call 26 [(.t 11)]⟩, ⟨some 13, none, .mov (.t 1)⟩, ⟨some 14, none, .idxA1 5 (.t 12) (.t 13)⟩, ⟨some 4, none, .mov (.t 14)⟩]) <|
  .ret
def v21 : VFunc := ⟨15, [.tmp 4], c21⟩
/-- berthing/berthingref06.At -/
def c22 : VCode :=
  .seq (.ops [⟨some 2, none, .box (.t 0)⟩, ⟨some 4, none, .mov (.c (.int .i64 0))⟩]) <|
  .seq (.seq (.ops [⟨some 5, none, .mov (.t 1)⟩]) <|
  .block 0 (.seq (.ops [⟨some 7, none, .bin .num .eql (.t 5) (.c (.int .i64 0))⟩, ⟨some 6, none, .mov (.t 7)⟩]) <|
   .cond (.t 6) (.seq (.ops [⟨some 8, none, .fieldAddr 0 (.t 2)⟩, ⟨some 9, none, .load1 (.t 8)⟩, ⟨some 4, none, .mov (.t 9)⟩]) <|
    .ret) (.seq (.ops [⟨some 11, none, .bin .num .eql (.t 5) (.c (.int .i64 1))⟩, ⟨some 10, none, .mov (.t 11)⟩]) <|
    .cond (.t 10) (.seq (.ops [⟨some 12, none, .fieldAddr 1 (.t 2)⟩, ⟨some 13, none, .load1 (.t 12)⟩, ⟨some 4, none, .mov (.t 13)⟩]) <|
     .ret) (.seq (.ops [⟨some 15, none, .bin .num .eql (.t 5) (.c (.int .i64 2))⟩, ⟨some 14, none, .mov (.t 15)⟩]) <|
     .cond (.t 14) (.seq (.ops [⟨some 16, none, .fieldAddr 2 (.t 2)⟩, ⟨some 17, none, .load1 (.t 16)⟩, ⟨some 4, none, .mov (.t 17)⟩]) <|
      .ret) (.seq (.ops [⟨some 19, none, .bin .num .eql (.t 5) (.c (.int .i64 3))⟩, ⟨some 18, none, .mov (.t 19)⟩]) <|
      .cond (.t 18) (.seq (.ops [⟨some 20, none, .fieldAddr 3 (.t 2)⟩, ⟨some 21, none, .load1 (.t 20)⟩, ⟨some 4, none, .mov (.t 21)⟩]) <|
       .ret) (.seq (.ops [⟨some 23, none, .bin .num .eql (.t 5) (.c (.int .i64 4))⟩, ⟨some 22, none, .mov (.t 23)⟩]) <|
       .cond (.t 22) (.seq (.ops [⟨some 24, none, .fieldAddr 4 (.t 2)⟩, ⟨some 25, none, .load1 (.t 24)⟩, ⟨some 4, none, .mov (.t 25)⟩]) <|
        .ret) (.skip))))))) <|
  .seq (.ops [⟨some 4, none, .mov (.c (.int .i64 0))⟩]) <|
  .ret
def v22 : VFunc := ⟨26, [.tmp 4], c22⟩
/-- slices.ContainsFunc[[]berthing/api.Knobs,berthing/api.Knobs] -/
def c23 : VCode :=
  .seq (.ops [⟨some 4, none, .mov (.c (.bool false))⟩]) <|
  .seq (.ops [⟨some 5, none, .mov (.t 0)⟩, ⟨some 6, none, .mov (.t 1)⟩, ⟨some 7, none, .call 27 [(.t 5), (.t 6)]⟩, ⟨some 8, none, .bin .num .geq (.t 7) (.c (.int .i64 0))⟩, ⟨some 4, none, .mov (.t 8)⟩]) <|
  .ret
def v23 : VFunc := ⟨9, [.tmp 4], c23⟩
/-- berthing/rules.between$1 -/
def c24 : VCode :=
  .seq (.ops [⟨some 3, none, .box (.t 0)⟩, ⟨some 4, none, .mov (.c (.bool false))⟩]) <|
  .seq (.ops [⟨some 5, none, .loadN 5 (.t 3)⟩, ⟨some 6, none, .load1 (.t 1)⟩, ⟨some 7, none, .call 21 [(.t 5), (.t 6)]⟩, ⟨some 8, none, .load1 (.t 2)⟩, ⟨some 9, none, .bin .num .gtr (.t 7) (.t 8)⟩, ⟨some 4, none, .mov (.t 9)⟩]) <|
  .ret
def v24 : VFunc := ⟨10, [.tmp 4], c24⟩
/-- berthing/knobs.sum -/
def c25 : VCode :=
  .seq (.ops [⟨some 2, none, .mov (.c (.bool false))⟩]) <|
  .seq (.ops [⟨some 3, none, .mov (.t 0)⟩, ⟨some 4, none, .bin .num .geq (.t 3) (.c (.int .i64 0))⟩, ⟨some 5, none, .mov (.t 4)⟩, ⟨some 6, some (5, true), .mov (.t 0)⟩, ⟨some 7, some (5, true), .bin .num .leq (.t 6) (.c (.int .i64 9007199254740992))⟩, ⟨some 8, none, .pick (.t 5) (.t 7) (.c (.bool false))⟩, ⟨some 2, none, .mov (.t 8)⟩]) <|
  .ret
def v25 : VFunc := ⟨9, [.tmp 2], c25⟩
/-- berthing/knobs.parts -/
def c26 : VCode :=
  .seq (.ops [⟨some 1, none, .box (.t 0)⟩, ⟨some 2, none, .alloc [(.int .i64 0), (.int .i64 0), (.int .i64 0), (.int .i64 0), (.int .i64 0)]⟩]) <|
  .seq (.ops [⟨some 3, none, .fieldAddr 0 (.t 1)⟩, ⟨some 4, none, .load1 (.t 3)⟩, ⟨some 5, none, .fieldAddr 1 (.t 1)⟩, ⟨some 6, none, .load1 (.t 5)⟩, ⟨some 7, none, .fieldAddr 2 (.t 1)⟩, ⟨some 8, none, .load1 (.t 7)⟩, ⟨some 9, none, .fieldAddr 3 (.t 1)⟩, ⟨some 10, none, .load1 (.t 9)⟩, ⟨some 11, none, .fieldAddr 4 (.t 1)⟩, ⟨some 12, none, .load1 (.t 11)⟩, ⟨some 13, none, .build [(.int .i64 0), (.int .i64 0), (.int .i64 0), (.int .i64 0), (.int .i64 0)] [(0, 1, (.t 4)), (1, 1, (.t 6)), (2, 1, (.t 8)), (3, 1, (.t 10)), (4, 1, (.t 12))]⟩, ⟨none, none, .storeN 5 (.t 2) (.t 13)⟩]) <|
  .ret
def v26 : VFunc := ⟨14, [.cellN 5 2], c26⟩
/-- slices.IndexFunc[[]berthing/api.Knobs,berthing/api.Knobs] -/
def c27 : VCode :=
  .seq (.ops [⟨some 4, none, .mov (.c (.int .i64 0))⟩]) <|
  .seq (.seq (.ops [⟨some 6, none, .mov (.t 0)⟩, ⟨some 7, none, .lenS (.t 6)⟩, ⟨some 8, none, .mov (.c (.int .i64 0))⟩]) <|
  .block 0 (.loop (.seq (.ops [⟨some 9, none, .bin .num .lss (.t 8) (.t 7)⟩]) <|
    .seq (.cond (.t 9) (.skip) (.exit 0)) <|
    .seq (.block 1 (.seq (.ops [⟨some 10, none, .mov (.t 8)⟩, ⟨some 5, none, .mov (.t 10)⟩]) <|
     .seq (.ops [⟨some 11, none, .mov (.t 1)⟩, ⟨some 12, none, .mov (.t 0)⟩, ⟨some 13, none, .mov (.t 5)⟩, ⟨some 14, none, .idxAddrS 5 (.t 12) (.t 13)⟩, ⟨some 15, none, .loadN 5 (.t 14)⟩, ⟨some 16, none, .callV (.t 11) [(.t 15)]⟩]) <|
     .cond (.t 16) (.seq (.ops [⟨some 17, none, .mov (.t 5)⟩, ⟨some 4, none, .mov (.t 17)⟩]) <|
      .ret) (.skip))) <|
    .ops [⟨some 18, none, .bin .num .add (.t 8) (.c (.int .i64 1))⟩, ⟨some 8, none, .mov (.t 18)⟩]))) <|
  .seq (.ops [⟨some 4, none, .mov (.c (.int .i64 (-1)))⟩]) <|
  .ret
def v27 : VFunc := ⟨19, [.tmp 4], c27⟩
def ft : FuncId → Option VFunc := fun f => bif Nat.beq f 3 then some v3 else bif Nat.beq f 4 then some v4 else bif Nat.beq f 5 then some v5 else bif Nat.beq f 6 then some v6 else bif Nat.beq f 7 then some v7 else bif Nat.beq f 8 then some v8 else bif Nat.beq f 9 then some v9 else bif Nat.beq f 10 then some v10 else bif Nat.beq f 11 then some v11 else bif Nat.beq f 12 then some v12 else bif Nat.beq f 13 then some v13 else bif Nat.beq f 14 then some v14 else bif Nat.beq f 15 then some v15 else bif Nat.beq f 16 then some v16 else bif Nat.beq f 17 then some v17 else bif Nat.beq f 18 then some v18 else bif Nat.beq f 19 then some v19 else bif Nat.beq f 20 then some v20 else bif Nat.beq f 21 then some v21 else bif Nat.beq f 22 then some v22 else bif Nat.beq f 23 then some v23 else bif Nat.beq f 24 then some v24 else bif Nat.beq f 25 then some v25 else bif Nat.beq f 26 then some v26 else bif Nat.beq f 27 then some v27 else none
def env : Env := ⟨ft, md⟩
theorem is3 : FnComp ⟨Try.prog, md⟩ 3 v3 := ⟨Try.f3, _, fun t => false, Try.func3, rfl, by kernel_rfl, by kernel_rfl, by kernel_rfl⟩
theorem is4 : FnComp ⟨Try.prog, md⟩ 4 v4 := ⟨Try.f4, _, fun t => false, Try.func4, rfl, by kernel_rfl, by kernel_rfl, by kernel_rfl⟩
theorem is5 : FnComp ⟨Try.prog, md⟩ 5 v5 := ⟨Try.f5, _, fun t => false, Try.func5, rfl, by kernel_rfl, by kernel_rfl, by kernel_rfl⟩
theorem is6 : FnComp ⟨Try.prog, md⟩ 6 v6 := ⟨Try.f6, _, fun t => false, Try.func6, rfl, by kernel_rfl, by kernel_rfl, by kernel_rfl⟩
theorem is7 : FnComp ⟨Try.prog, md⟩ 7 v7 := ⟨Try.f7, _, fun t => false, Try.func7, rfl, by kernel_rfl, by kernel_rfl, by kernel_rfl⟩
theorem is8 : FnComp ⟨Try.prog, md⟩ 8 v8 := ⟨Try.f8, _, fun t => false, Try.func8, rfl, by kernel_rfl, by kernel_rfl, by kernel_rfl⟩
theorem is9 : FnComp ⟨Try.prog, md⟩ 9 v9 := ⟨Try.f9, _, fun t => false, Try.func9, rfl, by kernel_rfl, by kernel_rfl, by kernel_rfl⟩
theorem is10 : FnComp ⟨Try.prog, md⟩ 10 v10 := ⟨Try.f10, _, fun t => false, Try.func10, rfl, by kernel_rfl, by kernel_rfl, by kernel_rfl⟩
theorem is11 : FnComp ⟨Try.prog, md⟩ 11 v11 := ⟨Try.f11, _, fun t => false, Try.func11, rfl, by kernel_rfl, by kernel_rfl, by kernel_rfl⟩
theorem is12 : FnComp ⟨Try.prog, md⟩ 12 v12 := ⟨Try.f12, _, fun t => false, Try.func12, rfl, by kernel_rfl, by kernel_rfl, by kernel_rfl⟩
theorem is13 : FnComp ⟨Try.prog, md⟩ 13 v13 := ⟨Try.f13, _, fun t => false, Try.func13, rfl, by kernel_rfl, by kernel_rfl, by kernel_rfl⟩
theorem is14 : FnComp ⟨Try.prog, md⟩ 14 v14 := ⟨Try.f14, _, fun t => false, Try.func14, rfl, by kernel_rfl, by kernel_rfl, by kernel_rfl⟩
theorem is15 : FnComp ⟨Try.prog, md⟩ 15 v15 := ⟨Try.f15, _, fun t => false, Try.func15, rfl, by kernel_rfl, by kernel_rfl, by kernel_rfl⟩
theorem is16 : FnComp ⟨Try.prog, md⟩ 16 v16 := ⟨Try.f16, _, fun t => false, Try.func16, rfl, by kernel_rfl, by kernel_rfl, by kernel_rfl⟩
theorem is17 : FnComp ⟨Try.prog, md⟩ 17 v17 := ⟨Try.f17, _, fun t => false, Try.func17, rfl, by kernel_rfl, by kernel_rfl, by kernel_rfl⟩
theorem is18 : FnComp ⟨Try.prog, md⟩ 18 v18 := ⟨Try.f18, _, fun t => false, Try.func18, rfl, by kernel_rfl, by kernel_rfl, by kernel_rfl⟩
theorem is19 : FnComp ⟨Try.prog, md⟩ 19 v19 := ⟨Try.f19, _, fun t => false, Try.func19, rfl, by kernel_rfl, by kernel_rfl, by kernel_rfl⟩
theorem is20 : FnComp ⟨Try.prog, md⟩ 20 v20 := ⟨Try.f20, _, fun t => false, Try.func20, rfl, by kernel_rfl, by kernel_rfl, by kernel_rfl⟩
theorem is21 : FnComp ⟨Try.prog, md⟩ 21 v21 := ⟨Try.f21, _, fun t => false, Try.func21, rfl, by kernel_rfl, by kernel_rfl, by kernel_rfl⟩
theorem is22 : FnComp ⟨Try.prog, md⟩ 22 v22 := ⟨Try.f22, _, fun t => false, Try.func22, rfl, by kernel_rfl, by kernel_rfl, by kernel_rfl⟩
theorem is23 : FnComp ⟨Try.prog, md⟩ 23 v23 := ⟨Try.f23, _, fun t => false, Try.func23, rfl, by kernel_rfl, by kernel_rfl, by kernel_rfl⟩
theorem is24 : FnComp ⟨Try.prog, md⟩ 24 v24 := ⟨Try.f24, _, fun t => false, Try.func24, rfl, by kernel_rfl, by kernel_rfl, by kernel_rfl⟩
theorem is25 : FnComp ⟨Try.prog, md⟩ 25 v25 := ⟨Try.f25, _, fun t => false, Try.func25, rfl, by kernel_rfl, by kernel_rfl, by kernel_rfl⟩
theorem is26 : FnComp ⟨Try.prog, md⟩ 26 v26 := ⟨Try.f26, _, fun t => false, Try.func26, rfl, by kernel_rfl, by kernel_rfl, by kernel_rfl⟩
theorem is27 : FnComp ⟨Try.prog, md⟩ 27 v27 := ⟨Try.f27, _, fun t => false, Try.func27, rfl, by kernel_rfl, by kernel_rfl, by kernel_rfl⟩

theorem envOK : EnvOK ⟨Try.prog, md⟩ env := ⟨rfl, by kernel_rfl, fun f vf h => by
  change ft f = some vf at h
  unfold ft at h
  rcases ft_cons h with ⟨h1, h2⟩ | h
  · rw [h1, h2]; exact is3
  rcases ft_cons h with ⟨h1, h2⟩ | h
  · rw [h1, h2]; exact is4
  rcases ft_cons h with ⟨h1, h2⟩ | h
  · rw [h1, h2]; exact is5
  rcases ft_cons h with ⟨h1, h2⟩ | h
  · rw [h1, h2]; exact is6
  rcases ft_cons h with ⟨h1, h2⟩ | h
  · rw [h1, h2]; exact is7
  rcases ft_cons h with ⟨h1, h2⟩ | h
  · rw [h1, h2]; exact is8
  rcases ft_cons h with ⟨h1, h2⟩ | h
  · rw [h1, h2]; exact is9
  rcases ft_cons h with ⟨h1, h2⟩ | h
  · rw [h1, h2]; exact is10
  rcases ft_cons h with ⟨h1, h2⟩ | h
  · rw [h1, h2]; exact is11
  rcases ft_cons h with ⟨h1, h2⟩ | h
  · rw [h1, h2]; exact is12
  rcases ft_cons h with ⟨h1, h2⟩ | h
  · rw [h1, h2]; exact is13
  rcases ft_cons h with ⟨h1, h2⟩ | h
  · rw [h1, h2]; exact is14
  rcases ft_cons h with ⟨h1, h2⟩ | h
  · rw [h1, h2]; exact is15
  rcases ft_cons h with ⟨h1, h2⟩ | h
  · rw [h1, h2]; exact is16
  rcases ft_cons h with ⟨h1, h2⟩ | h
  · rw [h1, h2]; exact is17
  rcases ft_cons h with ⟨h1, h2⟩ | h
  · rw [h1, h2]; exact is18
  rcases ft_cons h with ⟨h1, h2⟩ | h
  · rw [h1, h2]; exact is19
  rcases ft_cons h with ⟨h1, h2⟩ | h
  · rw [h1, h2]; exact is20
  rcases ft_cons h with ⟨h1, h2⟩ | h
  · rw [h1, h2]; exact is21
  rcases ft_cons h with ⟨h1, h2⟩ | h
  · rw [h1, h2]; exact is22
  rcases ft_cons h with ⟨h1, h2⟩ | h
  · rw [h1, h2]; exact is23
  rcases ft_cons h with ⟨h1, h2⟩ | h
  · rw [h1, h2]; exact is24
  rcases ft_cons h with ⟨h1, h2⟩ | h
  · rw [h1, h2]; exact is25
  rcases ft_cons h with ⟨h1, h2⟩ | h
  · rw [h1, h2]; exact is26
  rcases ft_cons h with ⟨h1, h2⟩ | h
  · rw [h1, h2]; exact is27
  cases h⟩
end Go.Proofs.Ytiengddmdankiaa
