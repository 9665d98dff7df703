/-
  Part 2 of the functions and the law.
  The functions of this seat as code of the abstract machine, and that they are so. Printed by a program.
-/
import Derived.Test.YtmickbidffdklaaDoorV9
import Derived.Test.YtmickbidffdklaaDoorP1
import Derived.Test.YtmickbidffdklaaDoorChecked
import Derived.KernelRfl
set_option linter.all false
set_option linter.unusedVariables false
set_option linter.unusedSimpArgs false
set_option linter.unusedSectionVars false
namespace Go.Proofs.YtmickbidffdklaaDoor
open Go Go.VM

def md : FuncId → VM.Mode := fun f => bif Nat.beq f 25 then .shared else bif Nat.beq f 30 then .shared else bif Nat.beq f 33 then .shared else bif Nat.beq f 44 then .shared else bif Nat.beq f 45 then .shared else bif Nat.beq f 58 then .shared else bif Nat.beq f 59 then .shared else .pure
/-- berthing/berthinglaw06.KnobsOf -/
def c3 : VCode :=
  .seq (.ops [⟨some 2, none, .box (.t 0)⟩, ⟨some 3, none, .box (.t 1)⟩, ⟨some 4, none, .mov (.c (.bool false))⟩]) <|
  .seq (.seq (.ops [⟨some 5, none, .call .pure 8 []⟩, ⟨some 6, none, .un .not (.t 5)⟩]) <|
  .cond (.t 6) (.seq (.ops [⟨some 4, none, .mov (.c (.bool false))⟩]) <|
   .ret) (.skip)) <|
  .seq (.seq (.ops [⟨some 7, none, .fieldAddr 0 (.t 2)⟩, ⟨some 8, none, .load1 (.t 7)⟩, ⟨some 9, none, .lenStr (.t 8)⟩, ⟨some 10, none, .bin .num .gtr (.t 9) (.c (.int .i64 300))⟩, ⟨some 11, none, .mov (.t 10)⟩, ⟨some 12, some (11, false), .loadN 4 (.t 3)⟩, ⟨some 13, some (11, false), .call .pure 9 [(.t 12)]⟩, ⟨some 14, some (11, false), .bin .num .gtr (.t 13) (.c (.int .i64 2000))⟩, ⟨some 15, none, .pick (.t 11) (.c (.bool true)) (.t 14)⟩]) <|
  .cond (.t 15) (.seq (.ops [⟨some 4, none, .mov (.c (.bool true))⟩]) <|
   .ret) (.skip)) <|
  .seq (.ops [⟨some 16, none, .loadN 10 (.t 2)⟩, ⟨some 17, none, .call .pure 10 [(.t 16)]⟩, ⟨some 18, none, .loadN 10 (.t 2)⟩, ⟨some 19, none, .call .pure 11 [(.t 18)]⟩, ⟨some 20, none, .bin (.agg [.i, .i, .i, .i, .i]) .eql (.t 17) (.t 19)⟩, ⟨some 21, none, .mov (.t 20)⟩, ⟨some 22, some (21, true), .loadN 4 (.t 3)⟩, ⟨some 23, some (21, true), .call .pure 12 [(.t 22)]⟩, ⟨some 24, some (21, true), .loadN 4 (.t 3)⟩, ⟨some 25, some (21, true), .call .pure 13 [(.t 24)]⟩, ⟨some 26, some (21, true), .bin (.agg [.i, .i, .i, .i, .i]) .eql (.t 23) (.t 25)⟩, ⟨some 27, none, .pick (.t 21) (.t 26) (.c (.bool false))⟩, ⟨some 28, none, .mov (.t 27)⟩, ⟨some 29, some (28, true), .call .pure 14 []⟩, ⟨some 30, some (28, true), .build [(.int .i64 0), (.int .i64 0), (.int .i64 0), (.int .i64 0), (.int .i64 0)] [(0, 1, (.c (.int .i64 4611686018427387904))), (1, 1, (.c (.int .i64 100))), (2, 1, (.c (.int .i64 4611686018427387904))), (3, 1, (.c (.int .i64 4611686018427387904))), (4, 1, (.c (.int .i64 4611686018427387904)))]⟩, ⟨some 31, some (28, true), .bin (.agg [.i, .i, .i, .i, .i]) .eql (.t 29) (.t 30)⟩, ⟨some 32, none, .pick (.t 28) (.t 31) (.c (.bool false))⟩, ⟨some 4, none, .mov (.t 32)⟩]) <|
  .ret
def v3 : VFunc := ⟨33, [.tmp 4], c3⟩
/-- berthing/berthinglaw06.KnobsTell -/
def c4 : VCode :=
  .seq (.ops [⟨some 1, none, .box (.t 0)⟩, ⟨some 2, none, .mov (.c (.bool false))⟩]) <|
  .seq (.seq (.ops [⟨some 7, none, .call .pure 8 []⟩, ⟨some 8, none, .un .not (.t 7)⟩]) <|
  .cond (.t 8) (.seq (.ops [⟨some 2, none, .mov (.c (.bool false))⟩]) <|
   .ret) (.skip)) <|
  .seq (.draw [(4, .z [(.int .i64 0), (.int .i64 0), (.int .i64 0), (.int .i64 0), (.int .i64 0)])] [⟨some 9, none, .fieldAddr 0 (.t 1)⟩, ⟨some 10, none, .load1 (.t 9)⟩, ⟨some 11, none, .fieldAddr 1 (.t 1)⟩, ⟨some 12, none, .loadN 5 (.t 11)⟩, ⟨some 13, none, .fieldAddr 6 (.t 1)⟩, ⟨some 14, none, .load1 (.t 13)⟩, ⟨some 15, none, .fieldAddr 7 (.t 1)⟩, ⟨some 16, none, .load1 (.t 15)⟩, ⟨none, none, .idle⟩, ⟨some 3, none, .mov (.t 10)⟩, ⟨none, none, .storeN 5 (.t 4) (.t 12)⟩, ⟨some 5, none, .mov (.t 14)⟩, ⟨some 6, none, .mov (.t 16)⟩] [(5, 10), (7, 10)]) <|
  .seq (.ops [⟨some 17, none, .mov (.t 3)⟩, ⟨some 18, none, .call .pure 15 [(.t 17)]⟩, ⟨some 19, none, .mov (.t 3)⟩, ⟨some 20, none, .call .pure 16 [(.t 19)]⟩, ⟨some 21, none, .bin .num .eql (.t 18) (.t 20)⟩, ⟨some 22, none, .mov (.t 21)⟩, ⟨some 23, some (22, true), .loadN 5 (.t 4)⟩, ⟨some 24, some (22, true), .mov (.t 5)⟩, ⟨some 25, some (22, true), .call .pure 17 [(.t 23), (.t 24)]⟩, ⟨some 26, some (22, true), .loadN 5 (.t 4)⟩, ⟨some 27, some (22, true), .mov (.t 5)⟩, ⟨some 28, some (22, true), .call .pure 18 [(.t 26), (.t 27)]⟩, ⟨some 29, some (22, true), .bin .num .eql (.t 25) (.t 28)⟩, ⟨some 30, none, .pick (.t 22) (.t 29) (.c (.bool false))⟩, ⟨some 31, none, .mov (.t 30)⟩, ⟨some 32, some (31, true), .loadN 5 (.t 4)⟩, ⟨some 33, some (31, true), .mov (.t 5)⟩, ⟨some 34, some (31, true), .mov (.t 6)⟩, ⟨some 35, some (31, true), .call .pure 19 [(.t 32), (.t 33), (.t 34)]⟩, ⟨some 36, some (31, true), .loadN 5 (.t 4)⟩, ⟨some 37, some (31, true), .mov (.t 5)⟩, ⟨some 38, some (31, true), .mov (.t 6)⟩, ⟨some 39, some (31, true), .call .pure 20 [(.t 36), (.t 37), (.t 38)]⟩, ⟨some 40, some (31, true), .bin (.agg [.i, .i, .i, .i, .i]) .eql (.t 35) (.t 39)⟩, ⟨some 41, none, .pick (.t 31) (.t 40) (.c (.bool false))⟩, ⟨some 42, none, .mov (.t 41)⟩, ⟨some 43, some (42, true), .loadN 5 (.t 4)⟩, ⟨some 44, some (42, true), .call .pure 21 [(.t 43)]⟩, ⟨some 45, some (42, true), .loadN 5 (.t 4)⟩, ⟨some 46, some (42, true), .call .pure 22 [(.t 45)]⟩, ⟨some 47, some (42, true), .bin .bool .eql (.t 44) (.t 46)⟩, ⟨some 48, none, .pick (.t 42) (.t 47) (.c (.bool false))⟩, ⟨some 49, none, .mov (.t 48)⟩, ⟨some 50, some (49, true), .loadN 5 (.t 4)⟩, ⟨some 51, some (49, true), .call .pure 23 [(.t 50)]⟩, ⟨some 52, some (49, true), .loadN 5 (.t 4)⟩, ⟨some 53, some (49, true), .call .pure 24 [(.t 52)]⟩, ⟨some 54, some (49, true), .bin .num .eql (.t 51) (.t 53)⟩, ⟨some 55, none, .pick (.t 49) (.t 54) (.c (.bool false))⟩, ⟨some 2, none, .mov (.t 55)⟩]) <|
  .ret
def v4 : VFunc := ⟨56, [.tmp 2], c4⟩
/-- berthing/berthinglaw06.KnobsHold -/
def c5 : VCode :=
  .seq (.ops [⟨some 1, none, .box (.t 0)⟩, ⟨some 2, none, .mov (.c (.bool false))⟩]) <|
  .seq (.seq (.ops [⟨some 8, none, .call .pure 8 []⟩, ⟨some 9, none, .un .not (.t 8)⟩]) <|
  .cond (.t 9) (.seq (.ops [⟨some 2, none, .mov (.c (.bool false))⟩]) <|
   .ret) (.skip)) <|
  .seq (.seq (.ops [⟨some 10, none, .loadN 4 (.t 1)⟩, ⟨some 11, none, .call .pure 9 [(.t 10)]⟩, ⟨some 12, none, .bin .num .gtr (.t 11) (.c (.int .i64 2000))⟩]) <|
  .cond (.t 12) (.seq (.ops [⟨some 2, none, .mov (.c (.bool true))⟩]) <|
   .ret) (.skip)) <|
  .seq (.ops [⟨some 13, none, .loadN 4 (.t 1)⟩, ⟨some 14, none, .call .pure 12 [(.t 13)]⟩, ⟨some 3, none, .alloc [(.int .i64 0), (.int .i64 0), (.int .i64 0), (.int .i64 0), (.int .i64 0)]⟩, ⟨none, none, .storeN 5 (.t 3) (.t 14)⟩, ⟨some 4, none, .mov (.c (.int .i64 0))⟩]) <|
  .seq (.seq (.ops [⟨some 15, none, .loadN 4 (.t 1)⟩, ⟨some 16, none, .call .shared 25 [(.t 15)]⟩, ⟨some 17, none, .un .not (.t 16)⟩]) <|
  .cond (.t 17) (.seq (.ops [⟨some 18, none, .loadN 5 (.t 3)⟩, ⟨some 19, none, .build [(.int .i64 0), (.int .i64 0), (.int .i64 0), (.int .i64 0), (.int .i64 0)] []⟩, ⟨some 20, none, .bin (.agg [.i, .i, .i, .i, .i]) .eql (.t 18) (.t 19)⟩, ⟨some 2, none, .mov (.t 20)⟩]) <|
   .ret) (.skip)) <|
  .seq (.seq (.ops [⟨some 21, none, .fieldAddr 3 (.t 1)⟩, ⟨some 22, none, .load1 (.t 21)⟩, ⟨some 23, none, .lenS (.t 22)⟩, ⟨some 24, none, .mov (.c (.int .i64 0))⟩]) <|
  .block 0 (.loop (.seq (.ops [⟨some 25, none, .bin .num .lss (.t 24) (.t 23)⟩]) <|
    .seq (.cond (.t 25) (.skip) (.exit 0)) <|
    .seq (.block 1 (.seq (.ops [⟨some 26, none, .idxAddrS 10 (.t 22) (.t 24)⟩, ⟨some 27, none, .loadN 10 (.t 26)⟩, ⟨some 6, none, .alloc [(.str ⟨#[]⟩), (.int .i64 0), (.int .i64 0), (.int .i64 0), (.int .i64 0), (.int .i64 0), (.int .i64 0), (.bool false), (.bool false), (.bool false)]⟩, ⟨none, none, .storeN 10 (.t 6) (.t 27)⟩]) <|
     .seq (.ops [⟨some 28, none, .loadN 10 (.t 6)⟩, ⟨some 29, none, .call .pure 10 [(.t 28)]⟩, ⟨some 7, none, .alloc [(.int .i64 0), (.int .i64 0), (.int .i64 0), (.int .i64 0), (.int .i64 0)]⟩, ⟨none, none, .storeN 5 (.t 7) (.t 29)⟩]) <|
     .seq (.seq (.ops [⟨some 30, none, .loadN 5 (.t 7)⟩, ⟨some 31, none, .call .pure 21 [(.t 30)]⟩, ⟨some 32, none, .un .not (.t 31)⟩, ⟨some 33, none, .mov (.t 32)⟩, ⟨some 34, some (33, false), .fieldAddr 0 (.t 7)⟩, ⟨some 35, some (33, false), .load1 (.t 34)⟩, ⟨some 36, some (33, false), .fieldAddr 0 (.t 3)⟩, ⟨some 37, some (33, false), .load1 (.t 36)⟩, ⟨some 38, some (33, false), .bin .num .gtr (.t 35) (.t 37)⟩, ⟨some 39, none, .pick (.t 33) (.c (.bool true)) (.t 38)⟩, ⟨some 40, none, .mov (.t 39)⟩, ⟨some 41, some (40, false), .fieldAddr 2 (.t 7)⟩, ⟨some 42, some (40, false), .load1 (.t 41)⟩, ⟨some 43, some (40, false), .fieldAddr 2 (.t 3)⟩, ⟨some 44, some (40, false), .load1 (.t 43)⟩, ⟨some 45, some (40, false), .bin .num .gtr (.t 42) (.t 44)⟩, ⟨some 46, none, .pick (.t 40) (.c (.bool true)) (.t 45)⟩, ⟨some 47, none, .mov (.t 46)⟩, ⟨some 48, some (47, false), .fieldAddr 3 (.t 7)⟩, ⟨some 49, some (47, false), .load1 (.t 48)⟩, ⟨some 50, some (47, false), .fieldAddr 3 (.t 3)⟩, ⟨some 51, some (47, false), .load1 (.t 50)⟩, ⟨some 52, some (47, false), .bin .num .gtr (.t 49) (.t 51)⟩, ⟨some 53, none, .pick (.t 47) (.c (.bool true)) (.t 52)⟩, ⟨some 54, none, .mov (.t 53)⟩, ⟨some 55, some (54, false), .fieldAddr 4 (.t 7)⟩, ⟨some 56, some (54, false), .load1 (.t 55)⟩, ⟨some 57, some (54, false), .fieldAddr 4 (.t 3)⟩, ⟨some 58, some (54, false), .load1 (.t 57)⟩, ⟨some 59, some (54, false), .bin .num .gtr (.t 56) (.t 58)⟩, ⟨some 60, none, .pick (.t 54) (.c (.bool true)) (.t 59)⟩]) <|
     .cond (.t 60) (.seq (.ops [⟨some 2, none, .mov (.c (.bool false))⟩]) <|
      .ret) (.skip)) <|
     .seq (.ops [⟨some 61, none, .mov (.t 4)⟩, ⟨some 62, none, .bin .num .lss (.t 61) (.c (.int .i64 4611686018427387904))⟩]) <|
     .cond (.t 62) (.ops [⟨some 63, none, .mov (.t 4)⟩, ⟨some 64, none, .fieldAddr 0 (.t 7)⟩, ⟨some 65, none, .load1 (.t 64)⟩, ⟨some 66, none, .minmax false [(.t 65), (.c (.int .i64 4611686018427387904))]⟩, ⟨some 67, none, .bin .num .add (.t 63) (.t 66)⟩, ⟨some 4, none, .mov (.t 67)⟩]) (.skip))) <|
    .ops [⟨some 68, none, .bin .num .add (.t 24) (.c (.int .i64 1))⟩, ⟨some 24, none, .mov (.t 68)⟩]))) <|
  .seq (.ops [⟨some 69, none, .loadN 5 (.t 3)⟩, ⟨some 70, none, .call .pure 21 [(.t 69)]⟩, ⟨some 71, none, .mov (.t 70)⟩, ⟨some 72, some (71, true), .mov (.t 4)⟩, ⟨some 73, some (71, true), .minmax false [(.t 72), (.c (.int .i64 4611686018427387904))]⟩, ⟨some 74, some (71, true), .fieldAddr 0 (.t 3)⟩, ⟨some 75, some (71, true), .load1 (.t 74)⟩, ⟨some 76, some (71, true), .bin .num .leq (.t 73) (.t 75)⟩, ⟨some 77, none, .pick (.t 71) (.t 76) (.c (.bool false))⟩, ⟨some 2, none, .mov (.t 77)⟩]) <|
  .ret
def v5 : VFunc := ⟨78, [.tmp 2], c5⟩
/-- berthing/berthinglaw06.KnobsRise -/
def c6 : VCode :=
  .seq (.ops [⟨some 4, none, .mov (.c (.bool false))⟩]) <|
  .seq (.seq (.ops [⟨some 7, none, .call .pure 8 []⟩, ⟨some 8, none, .un .not (.t 7)⟩]) <|
  .cond (.t 8) (.seq (.ops [⟨some 4, none, .mov (.c (.bool false))⟩]) <|
   .ret) (.skip)) <|
  .seq (.ops [⟨some 9, none, .mov (.t 0)⟩, ⟨some 10, none, .mov (.t 1)⟩, ⟨some 11, none, .minmax false [(.t 9), (.t 10)]⟩, ⟨some 12, none, .call .pure 15 [(.t 11)]⟩, ⟨some 13, none, .mov (.t 0)⟩, ⟨some 14, none, .mov (.t 1)⟩, ⟨some 15, none, .minmax true [(.t 13), (.t 14)]⟩, ⟨some 16, none, .call .pure 15 [(.t 15)]⟩, ⟨some 5, none, .mov (.t 12)⟩, ⟨some 6, none, .mov (.t 16)⟩]) <|
  .seq (.ops [⟨some 17, none, .mov (.t 5)⟩, ⟨some 18, none, .bin .num .geq (.t 17) (.c (.int .i64 1))⟩, ⟨some 19, none, .mov (.t 18)⟩, ⟨some 20, some (19, true), .mov (.t 5)⟩, ⟨some 21, some (19, true), .mov (.t 6)⟩, ⟨some 22, some (19, true), .bin .num .leq (.t 20) (.t 21)⟩, ⟨some 23, none, .pick (.t 19) (.t 22) (.c (.bool false))⟩, ⟨some 24, none, .mov (.t 23)⟩, ⟨some 25, some (24, true), .mov (.t 6)⟩, ⟨some 26, some (24, true), .bin .num .leq (.t 25) (.c (.int .i64 10000))⟩, ⟨some 27, none, .pick (.t 24) (.t 26) (.c (.bool false))⟩, ⟨some 4, none, .mov (.t 27)⟩]) <|
  .ret
def v6 : VFunc := ⟨28, [.tmp 4], c6⟩
/-- berthing/berthinglaw06.KnobsFiles -/
def c7 : VCode :=
  .seq (.ops [⟨some 3, none, .box (.t 0)⟩, ⟨some 4, none, .box (.t 1)⟩, ⟨some 5, none, .box (.t 2)⟩, ⟨some 6, none, .mov (.c (.bool false))⟩]) <|
  .seq (.seq (.ops [⟨some 12, none, .call .pure 8 []⟩, ⟨some 13, none, .un .not (.t 12)⟩]) <|
  .cond (.t 13) (.seq (.ops [⟨some 6, none, .mov (.c (.bool false))⟩]) <|
   .ret) (.skip)) <|
  .seq (.ops [⟨some 14, none, .idxAddrA 2 1 (.t 4) (.c (.int .i64 0))⟩, ⟨some 15, none, .load1 (.t 14)⟩, ⟨some 16, none, .idxAddrA 2 1 (.t 4) (.c (.int .i64 1))⟩, ⟨some 17, none, .load1 (.t 16)⟩, ⟨some 18, none, .idxAddrA 2 1 (.t 5) (.c (.int .i64 0))⟩, ⟨some 19, none, .load1 (.t 18)⟩, ⟨some 20, none, .idxAddrA 2 1 (.t 5) (.c (.int .i64 1))⟩, ⟨some 21, none, .load1 (.t 20)⟩, ⟨some 7, none, .mov (.t 15)⟩, ⟨some 8, none, .mov (.t 17)⟩, ⟨some 9, none, .mov (.t 19)⟩, ⟨some 10, none, .mov (.t 21)⟩]) <|
  .seq (.ops [⟨some 22, none, .loadN 5 (.t 3)⟩, ⟨some 23, none, .mov (.t 7)⟩, ⟨some 24, none, .mov (.t 9)⟩, ⟨some 25, none, .call .pure 19 [(.t 22), (.t 23), (.t 24)]⟩, ⟨some 11, none, .alloc [(.int .i64 0), (.int .i64 0), (.int .i64 0), (.int .i64 0), (.int .i64 0)]⟩, ⟨none, none, .storeN 5 (.t 11) (.t 25)⟩]) <|
  .seq (.seq (.ops [⟨some 26, none, .mov (.t 7)⟩, ⟨some 27, none, .bin .num .lss (.t 26) (.c (.int .i64 0))⟩, ⟨some 28, none, .mov (.t 27)⟩, ⟨some 29, some (28, false), .mov (.t 7)⟩, ⟨some 30, some (28, false), .bin .num .gtr (.t 29) (.c (.int .i64 4))⟩, ⟨some 31, none, .pick (.t 28) (.c (.bool true)) (.t 30)⟩]) <|
  .cond (.t 31) (.seq (.ops [⟨some 32, none, .loadN 5 (.t 11)⟩, ⟨some 33, none, .loadN 5 (.t 3)⟩, ⟨some 34, none, .bin (.agg [.i, .i, .i, .i, .i]) .eql (.t 32) (.t 33)⟩, ⟨some 35, none, .mov (.t 34)⟩, ⟨some 36, some (35, true), .loadN 5 (.t 3)⟩, ⟨some 37, some (35, true), .mov (.t 7)⟩, ⟨some 38, some (35, true), .call .pure 17 [(.t 36), (.t 37)]⟩, ⟨some 39, some (35, true), .bin .num .eql (.t 38) (.c (.int .i64 0))⟩, ⟨some 40, none, .pick (.t 35) (.t 39) (.c (.bool false))⟩, ⟨some 6, none, .mov (.t 40)⟩]) <|
   .ret) (.skip)) <|
  .seq (.seq (.ops [⟨some 41, none, .loadN 5 (.t 11)⟩, ⟨some 42, none, .mov (.t 7)⟩, ⟨some 43, none, .call .pure 17 [(.t 41), (.t 42)]⟩, ⟨some 44, none, .mov (.t 9)⟩, ⟨some 45, none, .bin .num .neq (.t 43) (.t 44)⟩, ⟨some 46, none, .mov (.t 45)⟩, ⟨some 47, some (46, false), .loadN 5 (.t 11)⟩, ⟨some 48, some (46, false), .mov (.t 7)⟩, ⟨some 49, some (46, false), .loadN 5 (.t 3)⟩, ⟨some 50, some (46, false), .mov (.t 7)⟩, ⟨some 51, some (46, false), .call .pure 17 [(.t 49), (.t 50)]⟩, ⟨some 52, some (46, false), .call .pure 19 [(.t 47), (.t 48), (.t 51)]⟩, ⟨some 53, some (46, false), .loadN 5 (.t 3)⟩, ⟨some 54, some (46, false), .bin (.agg [.i, .i, .i, .i, .i]) .neq (.t 52) (.t 53)⟩, ⟨some 55, none, .pick (.t 46) (.c (.bool true)) (.t 54)⟩]) <|
  .cond (.t 55) (.seq (.ops [⟨some 6, none, .mov (.c (.bool false))⟩]) <|
   .ret) (.skip)) <|
  .seq (.ops [⟨some 56, none, .mov (.t 7)⟩, ⟨some 57, none, .mov (.t 8)⟩, ⟨some 58, none, .bin .num .eql (.t 56) (.t 57)⟩, ⟨some 59, none, .mov (.t 58)⟩, ⟨some 60, some (59, false), .loadN 5 (.t 11)⟩, ⟨some 61, some (59, false), .mov (.t 8)⟩, ⟨some 62, some (59, false), .call .pure 17 [(.t 60), (.t 61)]⟩, ⟨some 63, some (59, false), .loadN 5 (.t 3)⟩, ⟨some 64, some (59, false), .mov (.t 8)⟩, ⟨some 65, some (59, false), .call .pure 17 [(.t 63), (.t 64)]⟩, ⟨some 66, some (59, false), .bin .num .eql (.t 62) (.t 65)⟩, ⟨some 67, some (59, false), .mov (.t 66)⟩, ⟨some 68, some (67, true), .loadN 5 (.t 11)⟩, ⟨some 69, some (67, true), .mov (.t 8)⟩, ⟨some 70, some (67, true), .mov (.t 10)⟩, ⟨some 71, some (67, true), .call .pure 19 [(.t 68), (.t 69), (.t 70)]⟩, ⟨some 72, some (67, true), .loadN 5 (.t 3)⟩, ⟨some 73, some (67, true), .mov (.t 8)⟩, ⟨some 74, some (67, true), .mov (.t 10)⟩, ⟨some 75, some (67, true), .call .pure 19 [(.t 72), (.t 73), (.t 74)]⟩, ⟨some 76, some (67, true), .mov (.t 7)⟩, ⟨some 77, some (67, true), .mov (.t 9)⟩, ⟨some 78, some (67, true), .call .pure 19 [(.t 75), (.t 76), (.t 77)]⟩, ⟨some 79, some (67, true), .bin (.agg [.i, .i, .i, .i, .i]) .eql (.t 71) (.t 78)⟩, ⟨some 80, some (59, false), .pick (.t 67) (.t 79) (.c (.bool false))⟩, ⟨some 81, none, .pick (.t 59) (.c (.bool true)) (.t 80)⟩, ⟨some 6, none, .mov (.t 81)⟩]) <|
  .ret
def v7 : VFunc := ⟨82, [.tmp 6], c7⟩
/-- berthing/berthinglaw06.first -/
def c8 : VCode :=
  .seq (.ops [⟨some 0, none, .mov (.c (.bool false))⟩]) <|
  .seq (.ops [⟨some 5, none, .build [(.int .i64 0), (.int .i64 0), (.int .i64 0)] [(0, 1, (.c (.int .i64 1000))), (1, 1, (.c (.int .i64 1048576)))]⟩, ⟨some 1, none, .alloc [(.int .i64 0), (.int .i64 0), (.int .i64 0)]⟩, ⟨none, none, .storeN 3 (.t 1) (.t 5)⟩]) <|
  .seq (.ops [⟨some 6, none, .loadN 3 (.t 1)⟩, ⟨some 7, none, .build [(.int .i64 0), (.int .i64 0), (.int .i64 0)] [(1, 1, (.c (.int .i64 2097152)))]⟩, ⟨some 8, none, .build [(.str ⟨#[]⟩), (.int .i64 0), (.int .i64 0), (.int .i64 0), (.int .i64 0), (.int .i64 0), (.int .i64 0), (.bool false), (.bool false), (.bool false)] [(0, 1, (.c (.str ⟨#[97]⟩))), (1, 3, (.t 6)), (4, 3, (.t 7))]⟩, ⟨some 2, none, .alloc [(.str ⟨#[]⟩), (.int .i64 0), (.int .i64 0), (.int .i64 0), (.int .i64 0), (.int .i64 0), (.int .i64 0), (.bool false), (.bool false), (.bool false)]⟩, ⟨none, none, .storeN 10 (.t 2) (.t 8)⟩]) <|
  .seq (.ops [⟨some 9, none, .loadN 10 (.t 2)⟩, ⟨some 10, none, .call .pure 10 [(.t 9)]⟩, ⟨some 3, none, .alloc [(.int .i64 0), (.int .i64 0), (.int .i64 0), (.int .i64 0), (.int .i64 0)]⟩, ⟨none, none, .storeN 5 (.t 3) (.t 10)⟩]) <|
  .seq (.ops [⟨some 11, none, .loadN 10 (.t 2)⟩, ⟨some 12, none, .loadN 3 (.t 1)⟩, ⟨some 13, none, .loadN 3 (.t 1)⟩, ⟨some 14, none, .build [(.str ⟨#[]⟩), (.int .i64 0), (.int .i64 0), (.int .i64 0), (.int .i64 0), (.int .i64 0), (.int .i64 0), (.bool false), (.bool false), (.bool false)] [(0, 1, (.c (.str ⟨#[98]⟩))), (1, 3, (.t 12)), (4, 3, (.t 13))]⟩, ⟨some 15, none, .buildSlice false 10 2 [(.str ⟨#[]⟩), (.int .i64 0), (.int .i64 0), (.int .i64 0), (.int .i64 0), (.int .i64 0), (.int .i64 0), (.bool false), (.bool false), (.bool false), (.str ⟨#[]⟩), (.int .i64 0), (.int .i64 0), (.int .i64 0), (.int .i64 0), (.int .i64 0), (.int .i64 0), (.bool false), (.bool false), (.bool false)] [(0, 10, (.t 11)), (10, 10, (.t 14))]⟩, ⟨some 16, none, .build [(.str ⟨#[]⟩), (.int .i64 0), (.int .i64 0), (.sl .nil 0 [])] [(0, 1, (.c (.str ⟨#[112]⟩))), (3, 1, (.t 15))]⟩, ⟨some 17, none, .call .pure 12 [(.t 16)]⟩, ⟨some 4, none, .alloc [(.int .i64 0), (.int .i64 0), (.int .i64 0), (.int .i64 0), (.int .i64 0)]⟩, ⟨none, none, .storeN 5 (.t 4) (.t 17)⟩]) <|
  .seq (.ops [⟨some 18, none, .loadN 5 (.t 3)⟩, ⟨some 19, none, .call .pure 23 [(.t 18)]⟩, ⟨some 20, none, .bin .num .eql (.t 19) (.c (.str ⟨#[109, 97, 120, 32, 51, 57, 32, 49, 48, 52, 56, 53, 55, 54, 32, 50, 48, 57, 55, 49, 53, 50, 32, 48]⟩))⟩, ⟨some 21, none, .mov (.t 20)⟩, ⟨some 22, some (21, true), .loadN 5 (.t 4)⟩, ⟨some 23, some (21, true), .call .pure 15 [(.c (.int .i64 2000))]⟩, ⟨some 24, some (21, true), .build [(.int .i64 0), (.int .i64 0), (.int .i64 0), (.int .i64 0), (.int .i64 0)] [(0, 1, (.c (.int .i64 4611686018427387904))), (1, 1, (.t 23)), (2, 1, (.c (.int .i64 2097152))), (3, 1, (.c (.int .i64 3145728)))]⟩, ⟨some 25, some (21, true), .bin (.agg [.i, .i, .i, .i, .i]) .eql (.t 22) (.t 24)⟩, ⟨some 26, none, .pick (.t 21) (.t 25) (.c (.bool false))⟩, ⟨some 27, none, .mov (.t 26)⟩, ⟨some 28, some (27, true), .call .pure 15 [(.c (.int .i64 0))]⟩, ⟨some 29, some (27, true), .bin .num .eql (.t 28) (.c (.int .i64 1))⟩, ⟨some 30, none, .pick (.t 27) (.t 29) (.c (.bool false))⟩, ⟨some 31, none, .mov (.t 30)⟩, ⟨some 32, some (31, true), .loadN 5 (.t 3)⟩, ⟨some 33, some (31, true), .call .pure 21 [(.t 32)]⟩, ⟨some 34, none, .pick (.t 31) (.t 33) (.c (.bool false))⟩, ⟨some 35, none, .mov (.t 34)⟩, ⟨some 36, some (35, true), .call .pure 14 []⟩, ⟨some 37, some (35, true), .call .pure 21 [(.t 36)]⟩, ⟨some 38, some (35, true), .un .not (.t 37)⟩, ⟨some 39, none, .pick (.t 35) (.t 38) (.c (.bool false))⟩, ⟨some 40, none, .mov (.t 39)⟩, ⟨some 41, some (40, true), .loadN 5 (.t 3)⟩, ⟨some 42, some (40, true), .call .pure 17 [(.t 41), (.c (.int .i64 2))]⟩, ⟨some 43, some (40, true), .bin .num .eql (.t 42) (.c (.int .i64 1048576))⟩, ⟨some 44, none, .pick (.t 40) (.t 43) (.c (.bool false))⟩, ⟨some 45, none, .mov (.t 44)⟩, ⟨some 46, some (45, true), .loadN 5 (.t 3)⟩, ⟨some 47, some (45, true), .call .pure 19 [(.t 46), (.c (.int .i64 4)), (.c (.int .i64 7))]⟩, ⟨some 48, some (45, true), .field1 4 (.t 47)⟩, ⟨some 49, some (45, true), .bin .num .eql (.t 48) (.c (.int .i64 7))⟩, ⟨some 50, none, .pick (.t 45) (.t 49) (.c (.bool false))⟩, ⟨some 0, none, .mov (.t 50)⟩]) <|
  .ret
def v8 : VFunc := ⟨51, [.tmp 0], c8⟩
/-- berthing/berthinglaw05.Great -/
def c9 : VCode :=
  .seq (.ops [⟨some 1, none, .box (.t 0)⟩, ⟨some 2, none, .mov (.c (.int .i64 0))⟩]) <|
  .seq (.ops [⟨some 6, none, .fieldAddr 0 (.t 1)⟩, ⟨some 7, none, .load1 (.t 6)⟩, ⟨some 8, none, .lenStr (.t 7)⟩, ⟨some 3, none, .mov (.t 8)⟩]) <|
  .seq (.seq (.ops [⟨some 9, none, .fieldAddr 3 (.t 1)⟩, ⟨some 10, none, .load1 (.t 9)⟩, ⟨some 11, none, .lenS (.t 10)⟩, ⟨some 12, none, .mov (.c (.int .i64 0))⟩]) <|
  .block 0 (.loop (.seq (.ops [⟨some 13, none, .bin .num .lss (.t 12) (.t 11)⟩]) <|
    .seq (.cond (.t 13) (.skip) (.exit 0)) <|
    .seq (.block 1 (.seq (.ops [⟨some 14, none, .mov (.t 12)⟩, ⟨some 15, none, .idxAddrS 10 (.t 10) (.t 12)⟩, ⟨some 16, none, .loadN 10 (.t 15)⟩, ⟨some 5, none, .alloc [(.str ⟨#[]⟩), (.int .i64 0), (.int .i64 0), (.int .i64 0), (.int .i64 0), (.int .i64 0), (.int .i64 0), (.bool false), (.bool false), (.bool false)]⟩, ⟨some 4, none, .mov (.t 14)⟩, ⟨none, none, .storeN 10 (.t 5) (.t 16)⟩]) <|
     .seq (.seq (.ops [⟨some 17, none, .mov (.t 4)⟩, ⟨some 18, none, .bin .num .gtr (.t 17) (.c (.int .i64 50))⟩]) <|
     .cond (.t 18) (.seq (.ops [⟨some 2, none, .mov (.c (.int .i64 5000))⟩]) <|
      .ret) (.skip)) <|
     .ops [⟨some 19, none, .mov (.t 3)⟩, ⟨some 20, none, .fieldAddr 0 (.t 5)⟩, ⟨some 21, none, .load1 (.t 20)⟩, ⟨some 22, none, .lenStr (.t 21)⟩, ⟨some 23, none, .minmax false [(.t 22), (.c (.int .i64 3000))]⟩, ⟨some 24, none, .bin .num .add (.c (.int .i64 10)) (.t 23)⟩, ⟨some 25, none, .bin .num .add (.t 19) (.t 24)⟩, ⟨some 3, none, .mov (.t 25)⟩])) <|
    .ops [⟨some 26, none, .bin .num .add (.t 12) (.c (.int .i64 1))⟩, ⟨some 12, none, .mov (.t 26)⟩]))) <|
  .seq (.ops [⟨some 27, none, .mov (.t 3)⟩, ⟨some 2, none, .mov (.t 27)⟩]) <|
  .ret
def v9 : VFunc := ⟨28, [.tmp 2], c9⟩
/-- berthing/knobs.Container -/
def c10 : VCode :=
  .seq (.ops [⟨some 1, none, .box (.t 0)⟩, ⟨some 2, none, .alloc [(.int .i64 0), (.int .i64 0), (.int .i64 0), (.int .i64 0), (.int .i64 0)]⟩]) <|
  .seq (.seq (.ops [⟨some 3, none, .loadN 10 (.t 1)⟩, ⟨some 4, none, .call .pure 26 [(.t 3)]⟩, ⟨some 5, none, .un .not (.t 4)⟩]) <|
  .cond (.t 5) (.seq (.ops [⟨some 6, none, .build [(.int .i64 0), (.int .i64 0), (.int .i64 0), (.int .i64 0), (.int .i64 0)] []⟩, ⟨none, none, .storeN 5 (.t 2) (.t 6)⟩]) <|
   .ret) (.skip)) <|
  .seq (.ops [⟨some 7, none, .fieldAddr 4 (.t 1)⟩, ⟨some 8, none, .fieldAddr 0 (.t 7)⟩, ⟨some 9, none, .load1 (.t 8)⟩, ⟨some 10, none, .call .pure 27 [(.t 9)]⟩, ⟨some 11, none, .fieldAddr 1 (.t 1)⟩, ⟨some 12, none, .fieldAddr 0 (.t 11)⟩, ⟨some 13, none, .load1 (.t 12)⟩, ⟨some 14, none, .call .pure 15 [(.t 13)]⟩, ⟨some 15, none, .fieldAddr 1 (.t 1)⟩, ⟨some 16, none, .fieldAddr 1 (.t 15)⟩, ⟨some 17, none, .load1 (.t 16)⟩, ⟨some 18, none, .fieldAddr 4 (.t 1)⟩, ⟨some 19, none, .fieldAddr 1 (.t 18)⟩, ⟨some 20, none, .load1 (.t 19)⟩, ⟨some 21, none, .call .pure 27 [(.t 20)]⟩, ⟨some 22, none, .fieldAddr 4 (.t 1)⟩, ⟨some 23, none, .fieldAddr 2 (.t 22)⟩, ⟨some 24, none, .load1 (.t 23)⟩, ⟨some 25, none, .build [(.int .i64 0), (.int .i64 0), (.int .i64 0), (.int .i64 0), (.int .i64 0)] [(0, 1, (.t 10)), (1, 1, (.t 14)), (2, 1, (.t 17)), (3, 1, (.t 21)), (4, 1, (.t 24))]⟩, ⟨none, none, .storeN 5 (.t 2) (.t 25)⟩]) <|
  .ret
def v10 : VFunc := ⟨26, [.cellN 5 2], c10⟩
/-- berthing/berthingref06.Container -/
def c11 : VCode :=
  .seq (.ops [⟨some 1, none, .box (.t 0)⟩, ⟨some 2, none, .alloc [(.int .i64 0), (.int .i64 0), (.int .i64 0), (.int .i64 0), (.int .i64 0)]⟩]) <|
  .seq (.seq (.ops [⟨some 3, none, .loadN 10 (.t 1)⟩, ⟨some 4, none, .call .pure 28 [(.t 3)]⟩, ⟨some 5, none, .un .not (.t 4)⟩]) <|
  .cond (.t 5) (.seq (.ops [⟨some 6, none, .build [(.int .i64 0), (.int .i64 0), (.int .i64 0), (.int .i64 0), (.int .i64 0)] []⟩, ⟨none, none, .storeN 5 (.t 2) (.t 6)⟩]) <|
   .ret) (.skip)) <|
  .seq (.ops [⟨some 7, none, .fieldAddr 4 (.t 1)⟩, ⟨some 8, none, .fieldAddr 0 (.t 7)⟩, ⟨some 9, none, .load1 (.t 8)⟩, ⟨some 10, none, .call .pure 29 [(.t 9)]⟩, ⟨some 11, none, .fieldAddr 1 (.t 1)⟩, ⟨some 12, none, .fieldAddr 0 (.t 11)⟩, ⟨some 13, none, .load1 (.t 12)⟩, ⟨some 14, none, .call .pure 16 [(.t 13)]⟩, ⟨some 15, none, .fieldAddr 1 (.t 1)⟩, ⟨some 16, none, .fieldAddr 1 (.t 15)⟩, ⟨some 17, none, .load1 (.t 16)⟩, ⟨some 18, none, .fieldAddr 4 (.t 1)⟩, ⟨some 19, none, .fieldAddr 1 (.t 18)⟩, ⟨some 20, none, .load1 (.t 19)⟩, ⟨some 21, none, .call .pure 29 [(.t 20)]⟩, ⟨some 22, none, .fieldAddr 4 (.t 1)⟩, ⟨some 23, none, .fieldAddr 2 (.t 22)⟩, ⟨some 24, none, .load1 (.t 23)⟩, ⟨some 25, none, .build [(.int .i64 0), (.int .i64 0), (.int .i64 0), (.int .i64 0), (.int .i64 0)] [(0, 1, (.t 10)), (1, 1, (.t 14)), (2, 1, (.t 17)), (3, 1, (.t 21)), (4, 1, (.t 24))]⟩, ⟨none, none, .storeN 5 (.t 2) (.t 25)⟩]) <|
  .ret
def v11 : VFunc := ⟨26, [.cellN 5 2], c11⟩
/-- berthing/knobs.Pod -/
def c12 : VCode :=
  .seq (.ops [⟨some 1, none, .box (.t 0)⟩, ⟨some 2, none, .alloc [(.int .i64 0), (.int .i64 0), (.int .i64 0), (.int .i64 0), (.int .i64 0)]⟩]) <|
  .seq (.seq (.ops [⟨some 7, none, .loadN 4 (.t 1)⟩, ⟨some 8, none, .call .shared 30 [(.t 7)]⟩, ⟨some 9, none, .un .not (.t 8)⟩]) <|
  .cond (.t 9) (.seq (.ops [⟨some 10, none, .build [(.int .i64 0), (.int .i64 0), (.int .i64 0), (.int .i64 0), (.int .i64 0)] []⟩, ⟨none, none, .storeN 5 (.t 2) (.t 10)⟩]) <|
   .ret) (.skip)) <|
  .seq (.ops [⟨some 3, none, .alloc [(.int .i64 0), (.int .i64 0), (.int .i64 0), (.int .i64 0), (.int .i64 0)]⟩]) <|
  .seq (.seq (.ops [⟨some 11, none, .fieldAddr 3 (.t 1)⟩, ⟨some 12, none, .load1 (.t 11)⟩, ⟨some 13, none, .lenS (.t 12)⟩, ⟨some 14, none, .mov (.c (.int .i64 0))⟩]) <|
  .block 0 (.loop (.seq (.ops [⟨some 15, none, .bin .num .lss (.t 14) (.t 13)⟩]) <|
    .seq (.cond (.t 15) (.skip) (.exit 0)) <|
    .seq (.block 1 (.seq (.ops [⟨some 16, none, .idxAddrS 10 (.t 12) (.t 14)⟩, ⟨some 17, none, .loadN 10 (.t 16)⟩, ⟨some 5, none, .alloc [(.str ⟨#[]⟩), (.int .i64 0), (.int .i64 0), (.int .i64 0), (.int .i64 0), (.int .i64 0), (.int .i64 0), (.bool false), (.bool false), (.bool false)]⟩, ⟨none, none, .storeN 10 (.t 5) (.t 17)⟩]) <|
     .seq (.ops [⟨some 18, none, .loadN 10 (.t 5)⟩, ⟨some 19, none, .call .pure 10 [(.t 18)]⟩, ⟨some 6, none, .alloc [(.int .i64 0), (.int .i64 0), (.int .i64 0), (.int .i64 0), (.int .i64 0)]⟩, ⟨none, none, .storeN 5 (.t 6) (.t 19)⟩]) <|
     .seq (.ops [⟨some 20, none, .fieldAddr 0 (.t 3)⟩, ⟨some 21, none, .load1 (.t 20)⟩, ⟨some 22, none, .fieldAddr 0 (.t 6)⟩, ⟨some 23, none, .load1 (.t 22)⟩, ⟨some 24, none, .call .pure 31 [(.t 21), (.t 23)]⟩, ⟨some 25, none, .fieldAddr 3 (.t 3)⟩, ⟨some 26, none, .load1 (.t 25)⟩, ⟨some 27, none, .fieldAddr 3 (.t 6)⟩, ⟨some 28, none, .load1 (.t 27)⟩, ⟨some 29, none, .call .pure 31 [(.t 26), (.t 28)]⟩, ⟨some 30, none, .fieldAddr 0 (.t 3)⟩, ⟨none, none, .store1 (.t 30) (.t 24)⟩, ⟨some 31, none, .fieldAddr 3 (.t 3)⟩, ⟨none, none, .store1 (.t 31) (.t 29)⟩]) <|
     .seq (.ops [⟨some 32, none, .fieldAddr 2 (.t 3)⟩, ⟨some 33, none, .load1 (.t 32)⟩, ⟨some 34, none, .fieldAddr 2 (.t 6)⟩, ⟨some 35, none, .load1 (.t 34)⟩, ⟨some 36, none, .bin .num .add (.t 33) (.t 35)⟩, ⟨some 37, none, .fieldAddr 2 (.t 3)⟩, ⟨none, none, .store1 (.t 37) (.t 36)⟩]) <|
     .ops [⟨some 38, none, .fieldAddr 4 (.t 3)⟩, ⟨some 39, none, .load1 (.t 38)⟩, ⟨some 40, none, .fieldAddr 4 (.t 6)⟩, ⟨some 41, none, .load1 (.t 40)⟩, ⟨some 42, none, .bin .num .add (.t 39) (.t 41)⟩, ⟨some 43, none, .fieldAddr 4 (.t 3)⟩, ⟨none, none, .store1 (.t 43) (.t 42)⟩])) <|
    .ops [⟨some 44, none, .bin .num .add (.t 14) (.c (.int .i64 1))⟩, ⟨some 14, none, .mov (.t 44)⟩]))) <|
  .seq (.ops [⟨some 45, none, .loadN 4 (.t 1)⟩, ⟨some 46, none, .call .pure 32 [(.t 45)]⟩, ⟨some 47, none, .field1 0 (.t 46)⟩, ⟨some 48, none, .call .pure 15 [(.t 47)]⟩, ⟨some 49, none, .fieldAddr 1 (.t 3)⟩, ⟨none, none, .store1 (.t 49) (.t 48)⟩]) <|
  .seq (.ops [⟨some 50, none, .loadN 5 (.t 3)⟩, ⟨none, none, .storeN 5 (.t 2) (.t 50)⟩]) <|
  .ret
def v12 : VFunc := ⟨51, [.cellN 5 2], c12⟩
/-- berthing/berthingref06.Pod -/
def c13 : VCode :=
  .seq (.ops [⟨some 1, none, .box (.t 0)⟩, ⟨some 2, none, .alloc [(.int .i64 0), (.int .i64 0), (.int .i64 0), (.int .i64 0), (.int .i64 0)]⟩]) <|
  .seq (.seq (.ops [⟨some 9, none, .loadN 4 (.t 1)⟩, ⟨some 10, none, .call .shared 25 [(.t 9)]⟩, ⟨some 11, none, .un .not (.t 10)⟩]) <|
  .cond (.t 11) (.seq (.ops [⟨some 12, none, .build [(.int .i64 0), (.int .i64 0), (.int .i64 0), (.int .i64 0), (.int .i64 0)] []⟩, ⟨none, none, .storeN 5 (.t 2) (.t 12)⟩]) <|
   .ret) (.skip)) <|
  .seq (.ops [⟨some 14, none, .loadN 4 (.t 1)⟩, ⟨some 15, none, .call .shared 33 [(.t 14)]⟩, ⟨some 13, none, .mov (.t 15)⟩, ⟨some 16, none, .extract 0 (.t 13)⟩, ⟨some 17, none, .extract 1 (.t 13)⟩, ⟨some 18, none, .extract 2 (.t 13)⟩, ⟨some 3, none, .alloc [(.int .i64 0), (.int .i64 0), (.int .i64 0)]⟩, ⟨some 4, none, .alloc [(.int .i64 0), (.int .i64 0), (.int .i64 0)]⟩, ⟨none, none, .storeN 3 (.t 3) (.t 16)⟩, ⟨none, none, .storeN 3 (.t 4) (.t 17)⟩, ⟨some 5, none, .mov (.t 18)⟩]) <|
  .seq (.draw [(6, .z [(.int .i64 0), (.int .i64 0), (.int .i64 0), (.int .i64 0), (.int .i64 0)])] [⟨some 19, none, .fieldAddr 0 (.t 4)⟩, ⟨some 20, none, .load1 (.t 19)⟩, ⟨some 21, none, .fieldAddr 0 (.t 3)⟩, ⟨some 22, none, .load1 (.t 21)⟩, ⟨some 23, none, .call .pure 16 [(.t 22)]⟩, ⟨some 24, none, .fieldAddr 1 (.t 3)⟩, ⟨some 25, none, .load1 (.t 24)⟩, ⟨some 26, none, .fieldAddr 1 (.t 4)⟩, ⟨some 27, none, .load1 (.t 26)⟩, ⟨some 28, none, .fieldAddr 2 (.t 4)⟩, ⟨some 29, none, .load1 (.t 28)⟩, ⟨some 30, none, .build [(.int .i64 0), (.int .i64 0), (.int .i64 0), (.int .i64 0), (.int .i64 0)] [(0, 1, (.t 20)), (1, 1, (.t 23)), (2, 1, (.t 25)), (3, 1, (.t 27)), (4, 1, (.t 29))]⟩, ⟨none, none, .idle⟩, ⟨none, none, .storeN 5 (.t 6) (.t 30)⟩] []) <|
  .seq (.seq (.ops [⟨some 31, none, .fieldAddr 3 (.t 1)⟩, ⟨some 32, none, .load1 (.t 31)⟩, ⟨some 33, none, .lenS (.t 32)⟩, ⟨some 34, none, .mov (.c (.int .i64 0))⟩]) <|
  .block 0 (.loop (.seq (.ops [⟨some 35, none, .bin .num .lss (.t 34) (.t 33)⟩]) <|
    .seq (.cond (.t 35) (.skip) (.exit 0)) <|
    .seq (.block 1 (.seq (.ops [⟨some 36, none, .idxAddrS 10 (.t 32) (.t 34)⟩, ⟨some 37, none, .loadN 10 (.t 36)⟩, ⟨some 8, none, .alloc [(.str ⟨#[]⟩), (.int .i64 0), (.int .i64 0), (.int .i64 0), (.int .i64 0), (.int .i64 0), (.int .i64 0), (.bool false), (.bool false), (.bool false)]⟩, ⟨none, none, .storeN 10 (.t 8) (.t 37)⟩]) <|
     .seq (.seq (.ops [⟨some 38, none, .fieldAddr 4 (.t 8)⟩, ⟨some 39, none, .fieldAddr 0 (.t 38)⟩, ⟨some 40, none, .load1 (.t 39)⟩, ⟨some 41, none, .bin .num .eql (.t 40) (.c (.int .i64 0))⟩]) <|
     .cond (.t 41) (.ops [⟨some 42, none, .call .pure 29 [(.c (.int .i64 0))]⟩, ⟨some 43, none, .fieldAddr 0 (.t 6)⟩, ⟨none, none, .store1 (.t 43) (.t 42)⟩]) (.skip)) <|
     .seq (.ops [⟨some 44, none, .fieldAddr 4 (.t 8)⟩, ⟨some 45, none, .fieldAddr 1 (.t 44)⟩, ⟨some 46, none, .load1 (.t 45)⟩, ⟨some 47, none, .bin .num .eql (.t 46) (.c (.int .i64 0))⟩]) <|
     .cond (.t 47) (.ops [⟨some 48, none, .call .pure 29 [(.c (.int .i64 0))]⟩, ⟨some 49, none, .fieldAddr 3 (.t 6)⟩, ⟨none, none, .store1 (.t 49) (.t 48)⟩]) (.skip))) <|
    .ops [⟨some 50, none, .bin .num .add (.t 34) (.c (.int .i64 1))⟩, ⟨some 34, none, .mov (.t 50)⟩]))) <|
  .seq (.ops [⟨some 51, none, .loadN 5 (.t 6)⟩, ⟨none, none, .storeN 5 (.t 2) (.t 51)⟩]) <|
  .ret
def v13 : VFunc := ⟨52, [.cellN 5 2], c13⟩
/-- berthing/knobs.Root -/
def c14 : VCode :=
  .seq (.ops [⟨some 0, none, .alloc [(.int .i64 0), (.int .i64 0), (.int .i64 0), (.int .i64 0), (.int .i64 0)]⟩]) <|
  .seq (.ops [⟨some 1, none, .build [(.int .i64 0), (.int .i64 0), (.int .i64 0), (.int .i64 0), (.int .i64 0)] [(0, 1, (.c (.int .i64 4611686018427387904))), (1, 1, (.c (.int .i64 100))), (2, 1, (.c (.int .i64 4611686018427387904))), (3, 1, (.c (.int .i64 4611686018427387904))), (4, 1, (.c (.int .i64 4611686018427387904)))]⟩, ⟨none, none, .storeN 5 (.t 0) (.t 1)⟩]) <|
  .ret
def v14 : VFunc := ⟨2, [.cellN 5 0], c14⟩
/-- berthing/knobs.Weight -/
def c15 : VCode :=
  .seq (.ops [⟨some 2, none, .mov (.c (.int .i64 0))⟩]) <|
  .seq (.ops [⟨some 3, none, .mov (.c (.int .i64 262144))⟩]) <|
  .seq (.seq (.ops [⟨some 4, none, .mov (.t 0)⟩, ⟨some 5, none, .bin .num .lss (.t 4) (.c (.int .i64 262144))⟩]) <|
  .cond (.t 5) (.ops [⟨some 6, none, .mov (.t 0)⟩, ⟨some 7, none, .minmax true [(.t 6), (.c (.int .i64 0))]⟩, ⟨some 8, none, .bin .num .mul (.t 7) (.c (.int .i64 1024))⟩, ⟨some 9, none, .bin .num .quo (.t 8) (.c (.int .i64 1000))⟩, ⟨some 3, none, .mov (.t 9)⟩]) (.skip)) <|
  .seq (.ops [⟨some 10, none, .mov (.t 3)⟩, ⟨some 11, none, .minmax true [(.t 10), (.c (.int .i64 2))]⟩, ⟨some 12, none, .minmax false [(.t 11), (.c (.int .i64 262144))]⟩, ⟨some 3, none, .mov (.t 12)⟩]) <|
  .seq (.ops [⟨some 13, none, .mov (.t 3)⟩, ⟨some 14, none, .bin .num .sub (.t 13) (.c (.int .i64 2))⟩, ⟨some 15, none, .bin .num .mul (.t 14) (.c (.int .i64 9999))⟩, ⟨some 16, none, .bin .num .quo (.t 15) (.c (.int .i64 262142))⟩, ⟨some 17, none, .bin .num .add (.c (.int .i64 1)) (.t 16)⟩, ⟨some 2, none, .mov (.t 17)⟩]) <|
  .ret
def v15 : VFunc := ⟨18, [.tmp 2], c15⟩
/-- berthing/berthingref06.Weight -/
def c16 : VCode :=
  .seq (.ops [⟨some 2, none, .mov (.c (.int .i64 0))⟩]) <|
  .seq (.ops [⟨some 3, none, .mov (.c (.int .i64 262144))⟩]) <|
  .seq (.seq (.ops [⟨some 4, none, .mov (.t 0)⟩, ⟨some 5, none, .bin .num .lss (.t 4) (.c (.int .i64 256000))⟩]) <|
  .cond (.t 5) (.seq (.ops [⟨some 3, none, .mov (.c (.int .i64 0))⟩]) <|
   .seq (.ops [⟨some 6, none, .mov (.t 0)⟩, ⟨some 7, none, .bin .num .gtr (.t 6) (.c (.int .i64 0))⟩]) <|
   .cond (.t 7) (.ops [⟨some 8, none, .mov (.t 0)⟩, ⟨some 9, none, .bin .num .mul (.t 8) (.c (.int .i64 1024))⟩, ⟨some 10, none, .bin .num .quo (.t 9) (.c (.int .i64 1000))⟩, ⟨some 3, none, .mov (.t 10)⟩]) (.skip)) (.skip)) <|
  .seq (.seq (.ops [⟨some 11, none, .mov (.t 3)⟩, ⟨some 12, none, .bin .num .lss (.t 11) (.c (.int .i64 2))⟩]) <|
  .cond (.t 12) (.ops [⟨some 3, none, .mov (.c (.int .i64 2))⟩]) (.skip)) <|
  .seq (.ops [⟨some 13, none, .mov (.t 3)⟩, ⟨some 14, none, .bin .num .sub (.t 13) (.c (.int .i64 2))⟩, ⟨some 15, none, .bin .num .mul (.t 14) (.c (.int .i64 9999))⟩, ⟨some 16, none, .bin .num .quo (.t 15) (.c (.int .i64 262142))⟩, ⟨some 17, none, .bin .num .add (.c (.int .i64 1)) (.t 16)⟩, ⟨some 2, none, .mov (.t 17)⟩]) <|
  .ret
def v16 : VFunc := ⟨18, [.tmp 2], c16⟩
/-- berthing/knobs.At -/
def c17 : VCode :=
  .seq (.ops [⟨some 2, none, .box (.t 0)⟩, ⟨some 4, none, .mov (.c (.int .i64 0))⟩]) <|
  .seq (.seq (.ops [⟨some 5, none, .mov (.t 1)⟩, ⟨some 6, none, .bin .num .lss (.t 5) (.c (.int .i64 0))⟩, ⟨some 7, none, .mov (.t 6)⟩, ⟨some 8, some (7, false), .mov (.t 1)⟩, ⟨some 9, some (7, false), .bin .num .gtr (.t 8) (.c (.int .i64 4))⟩, ⟨some 10, none, .pick (.t 7) (.c (.bool true)) (.t 9)⟩]) <|
  .cond (.t 10) (.seq (.ops [⟨some 4, none, .mov (.c (.int .i64 0))⟩]) <|
   .ret) (.skip)) <|
  .seq (.ops [⟨some 11, none, .loadN 5 (.t 2)⟩, ⟨some 12, none, .call .pure 34 [(.t 11)]⟩, ⟨some 13, none, .mov (.t 1)⟩, ⟨some 14, none, .idxA1 5 (.t 12) (.t 13)⟩, ⟨some 4, none, .mov (.t 14)⟩]) <|
  .ret
def v17 : VFunc := ⟨15, [.tmp 4], c17⟩
/-- berthing/berthingref06.At -/
def c18 : VCode :=
  .seq (.ops [⟨some 2, none, .box (.t 0)⟩, ⟨some 4, none, .mov (.c (.int .i64 0))⟩]) <|
  .seq (.seq (.ops [⟨some 5, none, .mov (.t 1)⟩]) <|
  .block 0 (.seq (.ops [⟨some 7, none, .bin .num .eql (.t 5) (.c (.int .i64 0))⟩, ⟨some 6, none, .mov (.t 7)⟩]) <|
   .cond (.t 6) (.seq (.ops [⟨some 8, none, .fieldAddr 0 (.t 2)⟩, ⟨some 9, none, .load1 (.t 8)⟩, ⟨some 4, none, .mov (.t 9)⟩]) <|
    .ret) (.seq (.ops [⟨some 11, none, .bin .num .eql (.t 5) (.c (.int .i64 1))⟩, ⟨some 10, none, .mov (.t 11)⟩]) <|
    .cond (.t 10) (.seq (.ops [⟨some 12, none, .fieldAddr 1 (.t 2)⟩, ⟨some 13, none, .load1 (.t 12)⟩, ⟨some 4, none, .mov (.t 13)⟩]) <|
     .ret) (.seq (.ops [⟨some 15, none, .bin .num .eql (.t 5) (.c (.int .i64 2))⟩, ⟨some 14, none, .mov (.t 15)⟩]) <|
     .cond (.t 14) (.seq (.ops [⟨some 16, none, .fieldAddr 2 (.t 2)⟩, ⟨some 17, none, .load1 (.t 16)⟩, ⟨some 4, none, .mov (.t 17)⟩]) <|
      .ret) (.seq (.ops [⟨some 19, none, .bin .num .eql (.t 5) (.c (.int .i64 3))⟩, ⟨some 18, none, .mov (.t 19)⟩]) <|
      .cond (.t 18) (.seq (.ops [⟨some 20, none, .fieldAddr 3 (.t 2)⟩, ⟨some 21, none, .load1 (.t 20)⟩, ⟨some 4, none, .mov (.t 21)⟩]) <|
       .ret) (.seq (.ops [⟨some 23, none, .bin .num .eql (.t 5) (.c (.int .i64 4))⟩, ⟨some 22, none, .mov (.t 23)⟩]) <|
       .cond (.t 22) (.seq (.ops [⟨some 24, none, .fieldAddr 4 (.t 2)⟩, ⟨some 25, none, .load1 (.t 24)⟩, ⟨some 4, none, .mov (.t 25)⟩]) <|
        .ret) (.skip))))))) <|
  .seq (.ops [⟨some 4, none, .mov (.c (.int .i64 0))⟩]) <|
  .ret
def v18 : VFunc := ⟨26, [.tmp 4], c18⟩
/-- berthing/knobs.With -/
def c19 : VCode :=
  .seq (.ops [⟨some 3, none, .box (.t 0)⟩, ⟨some 6, none, .alloc [(.int .i64 0), (.int .i64 0), (.int .i64 0), (.int .i64 0), (.int .i64 0)]⟩]) <|
  .seq (.seq (.ops [⟨some 8, none, .mov (.t 1)⟩, ⟨some 9, none, .bin .num .lss (.t 8) (.c (.int .i64 0))⟩, ⟨some 10, none, .mov (.t 9)⟩, ⟨some 11, some (10, false), .mov (.t 1)⟩, ⟨some 12, some (10, false), .bin .num .gtr (.t 11) (.c (.int .i64 4))⟩, ⟨some 13, none, .pick (.t 10) (.c (.bool true)) (.t 12)⟩]) <|
  .cond (.t 13) (.seq (.ops [⟨some 14, none, .loadN 5 (.t 3)⟩, ⟨none, none, .storeN 5 (.t 6) (.t 14)⟩]) <|
   .ret) (.skip)) <|
  .seq (.ops [⟨some 15, none, .loadN 5 (.t 3)⟩, ⟨some 16, none, .call .pure 34 [(.t 15)]⟩, ⟨some 7, none, .alloc [(.int .i64 0), (.int .i64 0), (.int .i64 0), (.int .i64 0), (.int .i64 0)]⟩, ⟨none, none, .storeN 5 (.t 7) (.t 16)⟩]) <|
  .seq (.ops [⟨some 17, none, .mov (.t 1)⟩, ⟨some 18, none, .mov (.t 2)⟩, ⟨some 19, none, .idxAddrA 5 1 (.t 7) (.t 17)⟩, ⟨none, none, .store1 (.t 19) (.t 18)⟩]) <|
  .seq (.ops [⟨some 20, none, .idxAddrA 5 1 (.t 7) (.c (.int .i64 0))⟩, ⟨some 21, none, .load1 (.t 20)⟩, ⟨some 22, none, .idxAddrA 5 1 (.t 7) (.c (.int .i64 1))⟩, ⟨some 23, none, .load1 (.t 22)⟩, ⟨some 24, none, .idxAddrA 5 1 (.t 7) (.c (.int .i64 2))⟩, ⟨some 25, none, .load1 (.t 24)⟩, ⟨some 26, none, .idxAddrA 5 1 (.t 7) (.c (.int .i64 3))⟩, ⟨some 27, none, .load1 (.t 26)⟩, ⟨some 28, none, .idxAddrA 5 1 (.t 7) (.c (.int .i64 4))⟩, ⟨some 29, none, .load1 (.t 28)⟩, ⟨some 30, none, .build [(.int .i64 0), (.int .i64 0), (.int .i64 0), (.int .i64 0), (.int .i64 0)] [(0, 1, (.t 21)), (1, 1, (.t 23)), (2, 1, (.t 25)), (3, 1, (.t 27)), (4, 1, (.t 29))]⟩, ⟨none, none, .storeN 5 (.t 6) (.t 30)⟩]) <|
  .ret
def v19 : VFunc := ⟨31, [.cellN 5 6], c19⟩
/-- berthing/berthingref06.With -/
def c20 : VCode :=
  .seq (.ops [⟨some 3, none, .box (.t 0)⟩, ⟨some 6, none, .alloc [(.int .i64 0), (.int .i64 0), (.int .i64 0), (.int .i64 0), (.int .i64 0)]⟩]) <|
  .seq (.seq (.ops [⟨some 7, none, .mov (.t 1)⟩]) <|
  .block 0 (.seq (.ops [⟨some 9, none, .bin .num .eql (.t 7) (.c (.int .i64 0))⟩, ⟨some 8, none, .mov (.t 9)⟩]) <|
   .cond (.t 8) (.ops [⟨some 10, none, .mov (.t 2)⟩, ⟨some 11, none, .fieldAddr 0 (.t 3)⟩, ⟨none, none, .store1 (.t 11) (.t 10)⟩]) (.seq (.ops [⟨some 13, none, .bin .num .eql (.t 7) (.c (.int .i64 1))⟩, ⟨some 12, none, .mov (.t 13)⟩]) <|
    .cond (.t 12) (.ops [⟨some 14, none, .mov (.t 2)⟩, ⟨some 15, none, .fieldAddr 1 (.t 3)⟩, ⟨none, none, .store1 (.t 15) (.t 14)⟩]) (.seq (.ops [⟨some 17, none, .bin .num .eql (.t 7) (.c (.int .i64 2))⟩, ⟨some 16, none, .mov (.t 17)⟩]) <|
     .cond (.t 16) (.ops [⟨some 18, none, .mov (.t 2)⟩, ⟨some 19, none, .fieldAddr 2 (.t 3)⟩, ⟨none, none, .store1 (.t 19) (.t 18)⟩]) (.seq (.ops [⟨some 21, none, .bin .num .eql (.t 7) (.c (.int .i64 3))⟩, ⟨some 20, none, .mov (.t 21)⟩]) <|
      .cond (.t 20) (.ops [⟨some 22, none, .mov (.t 2)⟩, ⟨some 23, none, .fieldAddr 3 (.t 3)⟩, ⟨none, none, .store1 (.t 23) (.t 22)⟩]) (.seq (.ops [⟨some 25, none, .bin .num .eql (.t 7) (.c (.int .i64 4))⟩, ⟨some 24, none, .mov (.t 25)⟩]) <|
       .cond (.t 24) (.ops [⟨some 26, none, .mov (.t 2)⟩, ⟨some 27, none, .fieldAddr 4 (.t 3)⟩, ⟨none, none, .store1 (.t 27) (.t 26)⟩]) (.skip))))))) <|
  .seq (.ops [⟨some 28, none, .loadN 5 (.t 3)⟩, ⟨none, none, .storeN 5 (.t 6) (.t 28)⟩]) <|
  .ret
def v20 : VFunc := ⟨29, [.cellN 5 6], c20⟩
/-- berthing/knobs.Right -/
def c21 : VCode :=
  .seq (.ops [⟨some 1, none, .box (.t 0)⟩, ⟨some 2, none, .mov (.c (.bool false))⟩]) <|
  .seq (.ops [⟨some 3, none, .fieldAddr 0 (.t 1)⟩, ⟨some 4, none, .load1 (.t 3)⟩, ⟨some 5, none, .call .pure 35 [(.t 4)]⟩, ⟨some 6, none, .mov (.t 5)⟩, ⟨some 7, some (6, false), .fieldAddr 0 (.t 1)⟩, ⟨some 8, some (6, false), .load1 (.t 7)⟩, ⟨some 9, some (6, false), .bin .num .eql (.t 8) (.c (.int .i64 4611686018427387904))⟩, ⟨some 10, none, .pick (.t 6) (.c (.bool true)) (.t 9)⟩, ⟨some 11, none, .mov (.t 10)⟩, ⟨some 12, some (11, true), .fieldAddr 3 (.t 1)⟩, ⟨some 13, some (11, true), .load1 (.t 12)⟩, ⟨some 14, some (11, true), .call .pure 35 [(.t 13)]⟩, ⟨some 15, some (11, true), .mov (.t 14)⟩, ⟨some 16, some (15, false), .fieldAddr 3 (.t 1)⟩, ⟨some 17, some (15, false), .load1 (.t 16)⟩, ⟨some 18, some (15, false), .bin .num .eql (.t 17) (.c (.int .i64 4611686018427387904))⟩, ⟨some 19, some (11, true), .pick (.t 15) (.c (.bool true)) (.t 18)⟩, ⟨some 20, none, .pick (.t 11) (.t 19) (.c (.bool false))⟩, ⟨some 21, none, .mov (.t 20)⟩, ⟨some 22, some (21, true), .fieldAddr 1 (.t 1)⟩, ⟨some 23, some (21, true), .load1 (.t 22)⟩, ⟨some 24, some (21, true), .bin .num .geq (.t 23) (.c (.int .i64 1))⟩, ⟨some 25, none, .pick (.t 21) (.t 24) (.c (.bool false))⟩, ⟨some 26, none, .mov (.t 25)⟩, ⟨some 27, some (26, true), .fieldAddr 1 (.t 1)⟩, ⟨some 28, some (26, true), .load1 (.t 27)⟩, ⟨some 29, some (26, true), .bin .num .leq (.t 28) (.c (.int .i64 10000))⟩, ⟨some 30, none, .pick (.t 26) (.t 29) (.c (.bool false))⟩, ⟨some 31, none, .mov (.t 30)⟩, ⟨some 32, some (31, true), .fieldAddr 2 (.t 1)⟩, ⟨some 33, some (31, true), .load1 (.t 32)⟩, ⟨some 34, some (31, true), .call .pure 35 [(.t 33)]⟩, ⟨some 35, none, .pick (.t 31) (.t 34) (.c (.bool false))⟩, ⟨some 36, none, .mov (.t 35)⟩, ⟨some 37, some (36, true), .fieldAddr 4 (.t 1)⟩, ⟨some 38, some (36, true), .load1 (.t 37)⟩, ⟨some 39, some (36, true), .call .pure 35 [(.t 38)]⟩, ⟨some 40, none, .pick (.t 36) (.t 39) (.c (.bool false))⟩, ⟨some 41, none, .mov (.t 40)⟩, ⟨some 42, some (41, true), .fieldAddr 2 (.t 1)⟩, ⟨some 43, some (41, true), .load1 (.t 42)⟩, ⟨some 44, some (41, true), .fieldAddr 3 (.t 1)⟩, ⟨some 45, some (41, true), .load1 (.t 44)⟩, ⟨some 46, some (41, true), .bin .num .leq (.t 43) (.t 45)⟩, ⟨some 47, none, .pick (.t 41) (.t 46) (.c (.bool false))⟩, ⟨some 2, none, .mov (.t 47)⟩]) <|
  .ret
def v21 : VFunc := ⟨48, [.tmp 2], c21⟩
/-- berthing/berthingref06.Right -/
def c22 : VCode :=
  .seq (.ops [⟨some 1, none, .box (.t 0)⟩, ⟨some 2, none, .mov (.c (.bool false))⟩]) <|
  .seq (.ops [⟨some 3, none, .mov (.c (.int .i64 9007199254740992))⟩]) <|
  .seq (.ops [⟨some 6, none, .fieldAddr 0 (.t 1)⟩, ⟨some 7, none, .load1 (.t 6)⟩, ⟨some 8, none, .bin .num .geq (.t 7) (.c (.int .i64 0))⟩, ⟨some 9, none, .mov (.t 8)⟩, ⟨some 10, some (9, true), .fieldAddr 0 (.t 1)⟩, ⟨some 11, some (9, true), .load1 (.t 10)⟩, ⟨some 12, some (9, true), .mov (.t 3)⟩, ⟨some 13, some (9, true), .bin .num .leq (.t 11) (.t 12)⟩, ⟨some 14, none, .pick (.t 9) (.t 13) (.c (.bool false))⟩, ⟨some 15, none, .mov (.t 14)⟩, ⟨some 16, some (15, false), .fieldAddr 0 (.t 1)⟩, ⟨some 17, some (15, false), .load1 (.t 16)⟩, ⟨some 18, some (15, false), .bin .num .eql (.t 17) (.c (.int .i64 4611686018427387904))⟩, ⟨some 19, none, .pick (.t 15) (.c (.bool true)) (.t 18)⟩, ⟨some 4, none, .mov (.t 19)⟩]) <|
  .seq (.ops [⟨some 20, none, .fieldAddr 3 (.t 1)⟩, ⟨some 21, none, .load1 (.t 20)⟩, ⟨some 22, none, .bin .num .geq (.t 21) (.c (.int .i64 0))⟩, ⟨some 23, none, .mov (.t 22)⟩, ⟨some 24, some (23, true), .fieldAddr 3 (.t 1)⟩, ⟨some 25, some (23, true), .load1 (.t 24)⟩, ⟨some 26, some (23, true), .mov (.t 3)⟩, ⟨some 27, some (23, true), .bin .num .leq (.t 25) (.t 26)⟩, ⟨some 28, none, .pick (.t 23) (.t 27) (.c (.bool false))⟩, ⟨some 29, none, .mov (.t 28)⟩, ⟨some 30, some (29, false), .fieldAddr 3 (.t 1)⟩, ⟨some 31, some (29, false), .load1 (.t 30)⟩, ⟨some 32, some (29, false), .bin .num .eql (.t 31) (.c (.int .i64 4611686018427387904))⟩, ⟨some 33, none, .pick (.t 29) (.c (.bool true)) (.t 32)⟩, ⟨some 5, none, .mov (.t 33)⟩]) <|
  .seq (.ops [⟨some 34, none, .mov (.t 4)⟩, ⟨some 35, none, .mov (.t 34)⟩, ⟨some 36, some (35, true), .mov (.t 5)⟩, ⟨some 37, none, .pick (.t 35) (.t 36) (.c (.bool false))⟩, ⟨some 38, none, .mov (.t 37)⟩, ⟨some 39, some (38, true), .fieldAddr 1 (.t 1)⟩, ⟨some 40, some (38, true), .load1 (.t 39)⟩, ⟨some 41, some (38, true), .bin .num .gtr (.t 40) (.c (.int .i64 0))⟩, ⟨some 42, none, .pick (.t 38) (.t 41) (.c (.bool false))⟩, ⟨some 43, none, .mov (.t 42)⟩, ⟨some 44, some (43, true), .fieldAddr 1 (.t 1)⟩, ⟨some 45, some (43, true), .load1 (.t 44)⟩, ⟨some 46, some (43, true), .bin .num .lss (.t 45) (.c (.int .i64 10001))⟩, ⟨some 47, none, .pick (.t 43) (.t 46) (.c (.bool false))⟩, ⟨some 48, none, .mov (.t 47)⟩, ⟨some 49, some (48, true), .fieldAddr 2 (.t 1)⟩, ⟨some 50, some (48, true), .load1 (.t 49)⟩, ⟨some 51, some (48, true), .bin .num .geq (.t 50) (.c (.int .i64 0))⟩, ⟨some 52, none, .pick (.t 48) (.t 51) (.c (.bool false))⟩, ⟨some 53, none, .mov (.t 52)⟩, ⟨some 54, some (53, true), .fieldAddr 2 (.t 1)⟩, ⟨some 55, some (53, true), .load1 (.t 54)⟩, ⟨some 56, some (53, true), .mov (.t 3)⟩, ⟨some 57, some (53, true), .bin .num .leq (.t 55) (.t 56)⟩, ⟨some 58, none, .pick (.t 53) (.t 57) (.c (.bool false))⟩, ⟨some 59, none, .mov (.t 58)⟩, ⟨some 60, some (59, true), .fieldAddr 4 (.t 1)⟩, ⟨some 61, some (59, true), .load1 (.t 60)⟩, ⟨some 62, some (59, true), .bin .num .geq (.t 61) (.c (.int .i64 0))⟩, ⟨some 63, none, .pick (.t 59) (.t 62) (.c (.bool false))⟩, ⟨some 64, none, .mov (.t 63)⟩, ⟨some 65, some (64, true), .fieldAddr 4 (.t 1)⟩, ⟨some 66, some (64, true), .load1 (.t 65)⟩, ⟨some 67, some (64, true), .mov (.t 3)⟩, ⟨some 68, some (64, true), .bin .num .leq (.t 66) (.t 67)⟩, ⟨some 69, none, .pick (.t 64) (.t 68) (.c (.bool false))⟩, ⟨some 70, none, .mov (.t 69)⟩, ⟨some 71, some (70, true), .fieldAddr 3 (.t 1)⟩, ⟨some 72, some (70, true), .load1 (.t 71)⟩, ⟨some 73, some (70, true), .fieldAddr 2 (.t 1)⟩, ⟨some 74, some (70, true), .load1 (.t 73)⟩, ⟨some 75, some (70, true), .bin .num .geq (.t 72) (.t 74)⟩, ⟨some 76, none, .pick (.t 70) (.t 75) (.c (.bool false))⟩, ⟨some 2, none, .mov (.t 76)⟩]) <|
  .ret
def v22 : VFunc := ⟨77, [.tmp 2], c22⟩
/-- berthing/knobs.Text -/
def c23 : VCode :=
  .seq (.ops [⟨some 1, none, .box (.t 0)⟩, ⟨some 2, none, .mov (.c (.str ⟨#[]⟩))⟩]) <|
  .seq (.ops [⟨some 3, none, .mov (.c (.sl .nil 0 []))⟩]) <|
  .seq (.seq (.ops [⟨some 6, none, .loadN 5 (.t 1)⟩, ⟨some 7, none, .call .pure 34 [(.t 6)]⟩, ⟨some 8, none, .mov (.c (.int .i64 0))⟩]) <|
  .block 0 (.loop (.seq (.ops [⟨some 9, none, .bin .num .lss (.t 8) (.c (.int .i64 5))⟩]) <|
    .seq (.cond (.t 9) (.skip) (.exit 0)) <|
    .seq (.block 1 (.seq (.ops [⟨some 10, none, .idxA1 5 (.t 7) (.t 8)⟩, ⟨some 5, none, .mov (.t 10)⟩]) <|
     .seq (.seq (.ops [⟨some 11, none, .mov (.t 5)⟩, ⟨some 12, none, .bin .num .eql (.t 11) (.c (.int .i64 4611686018427387904))⟩]) <|
     .cond (.t 12) (.seq (.ops [⟨some 13, none, .mov (.t 3)⟩, ⟨some 14, none, .buildSlice false 1 1 [(.str ⟨#[]⟩)] [(0, 1, (.c (.str ⟨#[109, 97, 120]⟩)))]⟩, ⟨some 15, none, .append false false 1 16 (.t 13) (.t 14)⟩, ⟨some 3, none, .mov (.t 15)⟩]) <|
      .exit 1) (.skip)) <|
     .ops [⟨some 16, none, .mov (.t 3)⟩, ⟨some 17, none, .mov (.t 5)⟩, ⟨some 18, none, .call .pure 36 [(.t 17)]⟩, ⟨some 19, none, .buildSlice false 1 1 [(.str ⟨#[]⟩)] [(0, 1, (.t 18))]⟩, ⟨some 20, none, .append false false 1 16 (.t 16) (.t 19)⟩, ⟨some 3, none, .mov (.t 20)⟩])) <|
    .ops [⟨some 21, none, .bin .num .add (.t 8) (.c (.int .i64 1))⟩, ⟨some 8, none, .mov (.t 21)⟩]))) <|
  .seq (.ops [⟨some 22, none, .mov (.t 3)⟩, ⟨some 23, none, .call .pure 37 [(.t 22), (.c (.str ⟨#[32]⟩))]⟩, ⟨some 2, none, .mov (.t 23)⟩]) <|
  .ret
def v23 : VFunc := ⟨24, [.tmp 2], c23⟩
/-- berthing/berthingref06.Text -/
def c24 : VCode :=
  .seq (.ops [⟨some 1, none, .box (.t 0)⟩, ⟨some 2, none, .mov (.c (.str ⟨#[]⟩))⟩]) <|
  .seq (.ops [⟨some 3, none, .mov (.c (.str ⟨#[]⟩))⟩]) <|
  .seq (.seq (.ops [⟨some 4, none, .mov (.c (.int .i64 0))⟩]) <|
  .block 0 (.loop (.seq (.seq (.ops [⟨some 6, none, .mov (.t 4)⟩, ⟨some 7, none, .bin .num .lss (.t 6) (.c (.int .i64 5))⟩]) <|
    .cond (.t 7) (.skip) (.exit 0)) <|
    .seq (.block 1 (.seq (.ops [⟨some 10, none, .loadN 5 (.t 1)⟩, ⟨some 11, none, .mov (.t 4)⟩, ⟨some 12, none, .call .pure 18 [(.t 10), (.t 11)]⟩, ⟨some 5, none, .mov (.t 12)⟩]) <|
     .seq (.seq (.ops [⟨some 13, none, .mov (.t 4)⟩, ⟨some 14, none, .bin .num .gtr (.t 13) (.c (.int .i64 0))⟩]) <|
     .cond (.t 14) (.ops [⟨some 15, none, .mov (.t 3)⟩, ⟨some 16, none, .bin .num .add (.t 15) (.c (.str ⟨#[32]⟩))⟩, ⟨some 3, none, .mov (.t 16)⟩]) (.skip)) <|
     .seq (.ops [⟨some 17, none, .mov (.t 5)⟩, ⟨some 18, none, .bin .num .eql (.t 17) (.c (.int .i64 4611686018427387904))⟩]) <|
     .cond (.t 18) (.ops [⟨some 19, none, .mov (.t 3)⟩, ⟨some 20, none, .bin .num .add (.t 19) (.c (.str ⟨#[109, 97, 120]⟩))⟩, ⟨some 3, none, .mov (.t 20)⟩]) (.ops [⟨some 21, none, .mov (.t 3)⟩, ⟨some 22, none, .mov (.t 5)⟩, ⟨some 23, none, .call .pure 38 [(.t 22)]⟩, ⟨some 24, none, .bin .num .add (.t 21) (.t 23)⟩, ⟨some 3, none, .mov (.t 24)⟩]))) <|
    .ops [⟨some 8, none, .mov (.t 4)⟩, ⟨some 9, none, .bin .num .add (.t 8) (.c (.int .i64 1))⟩, ⟨some 4, none, .mov (.t 9)⟩]))) <|
  .seq (.ops [⟨some 25, none, .mov (.t 3)⟩, ⟨some 2, none, .mov (.t 25)⟩]) <|
  .ret
def v24 : VFunc := ⟨26, [.tmp 2], c24⟩
/-- berthing/berthingref05.Pod -/
def c25 : VCode :=
  .seq (.ops [⟨some 1, none, .box (.t 0)⟩, ⟨some 2, none, .mov (.c (.bool false))⟩]) <|
  .seq (.seq (.ops [⟨some 10, none, .fieldAddr 0 (.t 1)⟩, ⟨some 11, none, .load1 (.t 10)⟩, ⟨some 12, none, .call .pure 39 [(.t 11)]⟩, ⟨some 13, none, .un .not (.t 12)⟩, ⟨some 14, none, .mov (.t 13)⟩, ⟨some 15, some (14, false), .fieldAddr 1 (.t 1)⟩, ⟨some 16, some (14, false), .load1 (.t 15)⟩, ⟨some 17, some (14, false), .bin .num .lss (.t 16) (.c (.int .i64 (-1000)))⟩, ⟨some 18, none, .pick (.t 14) (.c (.bool true)) (.t 17)⟩, ⟨some 19, none, .mov (.t 18)⟩, ⟨some 20, some (19, false), .fieldAddr 1 (.t 1)⟩, ⟨some 21, some (19, false), .load1 (.t 20)⟩, ⟨some 22, some (19, false), .bin .num .gtr (.t 21) (.c (.int .i64 1000))⟩, ⟨some 23, none, .pick (.t 19) (.c (.bool true)) (.t 22)⟩, ⟨some 24, none, .mov (.t 23)⟩, ⟨some 25, some (24, false), .fieldAddr 2 (.t 1)⟩, ⟨some 26, some (24, false), .load1 (.t 25)⟩, ⟨some 27, some (24, false), .bin .num .lss (.t 26) (.c (.int .i64 0))⟩, ⟨some 28, none, .pick (.t 24) (.c (.bool true)) (.t 27)⟩, ⟨some 29, none, .mov (.t 28)⟩, ⟨some 30, some (29, false), .fieldAddr 2 (.t 1)⟩, ⟨some 31, some (29, false), .load1 (.t 30)⟩, ⟨some 32, some (29, false), .bin .num .gtr (.t 31) (.c (.int .i64 2))⟩, ⟨some 33, none, .pick (.t 29) (.c (.bool true)) (.t 32)⟩, ⟨some 34, none, .mov (.t 33)⟩, ⟨some 35, some (34, false), .fieldAddr 3 (.t 1)⟩, ⟨some 36, some (34, false), .load1 (.t 35)⟩, ⟨some 37, some (34, false), .lenS (.t 36)⟩, ⟨some 38, some (34, false), .bin .num .lss (.t 37) (.c (.int .i64 1))⟩, ⟨some 39, none, .pick (.t 34) (.c (.bool true)) (.t 38)⟩, ⟨some 40, none, .mov (.t 39)⟩, ⟨some 41, some (40, false), .fieldAddr 3 (.t 1)⟩, ⟨some 42, some (40, false), .load1 (.t 41)⟩, ⟨some 43, some (40, false), .lenS (.t 42)⟩, ⟨some 44, some (40, false), .bin .num .gtr (.t 43) (.c (.int .i64 6))⟩, ⟨some 45, none, .pick (.t 40) (.c (.bool true)) (.t 44)⟩]) <|
  .cond (.t 45) (.seq (.ops [⟨some 2, none, .mov (.c (.bool false))⟩]) <|
   .ret) (.skip)) <|
  .seq (.seq (.ops [⟨some 46, none, .fieldAddr 3 (.t 1)⟩, ⟨some 47, none, .load1 (.t 46)⟩, ⟨some 48, none, .lenS (.t 47)⟩, ⟨some 49, none, .mov (.c (.int .i64 0))⟩]) <|
  .block 0 (.loop (.seq (.ops [⟨some 50, none, .bin .num .lss (.t 49) (.t 48)⟩]) <|
    .seq (.cond (.t 50) (.skip) (.exit 0)) <|
    .seq (.block 1 (.seq (.ops [⟨some 51, none, .mov (.t 49)⟩, ⟨some 52, none, .idxAddrS 10 (.t 47) (.t 49)⟩, ⟨some 53, none, .loadN 10 (.t 52)⟩, ⟨some 4, none, .alloc [(.str ⟨#[]⟩), (.int .i64 0), (.int .i64 0), (.int .i64 0), (.int .i64 0), (.int .i64 0), (.int .i64 0), (.bool false), (.bool false), (.bool false)]⟩, ⟨some 3, none, .mov (.t 51)⟩, ⟨none, none, .storeN 10 (.t 4) (.t 53)⟩]) <|
     .seq (.seq (.ops [⟨some 54, none, .loadN 10 (.t 4)⟩, ⟨some 55, none, .call .pure 28 [(.t 54)]⟩, ⟨some 56, none, .un .not (.t 55)⟩]) <|
     .cond (.t 56) (.seq (.ops [⟨some 2, none, .mov (.c (.bool false))⟩]) <|
      .ret) (.skip)) <|
     .seq (.ops [⟨some 57, none, .fieldAddr 3 (.t 1)⟩, ⟨some 58, none, .load1 (.t 57)⟩, ⟨some 59, none, .mov (.t 3)⟩, ⟨some 60, none, .sliceS 10 (.t 58) none (some (.t 59)) none⟩, ⟨some 61, none, .lenS (.t 60)⟩, ⟨some 62, none, .mov (.c (.int .i64 0))⟩]) <|
     .block 2 (.loop (.seq (.ops [⟨some 63, none, .bin .num .lss (.t 62) (.t 61)⟩]) <|
       .seq (.cond (.t 63) (.skip) (.exit 2)) <|
       .seq (.block 3 (.seq (.ops [⟨some 64, none, .idxAddrS 10 (.t 60) (.t 62)⟩, ⟨some 65, none, .loadN 10 (.t 64)⟩, ⟨some 6, none, .alloc [(.str ⟨#[]⟩), (.int .i64 0), (.int .i64 0), (.int .i64 0), (.int .i64 0), (.int .i64 0), (.int .i64 0), (.bool false), (.bool false), (.bool false)]⟩, ⟨none, none, .storeN 10 (.t 6) (.t 65)⟩]) <|
        .seq (.ops [⟨some 66, none, .fieldAddr 0 (.t 4)⟩, ⟨some 67, none, .load1 (.t 66)⟩, ⟨some 68, none, .fieldAddr 0 (.t 6)⟩, ⟨some 69, none, .load1 (.t 68)⟩, ⟨some 70, none, .bin .num .eql (.t 67) (.t 69)⟩]) <|
        .cond (.t 70) (.seq (.ops [⟨some 2, none, .mov (.c (.bool false))⟩]) <|
         .ret) (.skip))) <|
       .ops [⟨some 71, none, .bin .num .add (.t 62) (.c (.int .i64 1))⟩, ⟨some 62, none, .mov (.t 71)⟩])))) <|
    .ops [⟨some 72, none, .bin .num .add (.t 49) (.c (.int .i64 1))⟩, ⟨some 49, none, .mov (.t 72)⟩]))) <|
  .seq (.ops [⟨some 74, none, .loadN 4 (.t 1)⟩, ⟨some 75, none, .call .shared 33 [(.t 74)]⟩, ⟨some 73, none, .mov (.t 75)⟩, ⟨some 76, none, .extract 0 (.t 73)⟩, ⟨some 77, none, .extract 1 (.t 73)⟩, ⟨some 78, none, .extract 2 (.t 73)⟩, ⟨some 7, none, .alloc [(.int .i64 0), (.int .i64 0), (.int .i64 0)]⟩, ⟨some 8, none, .alloc [(.int .i64 0), (.int .i64 0), (.int .i64 0)]⟩, ⟨none, none, .storeN 3 (.t 7) (.t 76)⟩, ⟨none, none, .storeN 3 (.t 8) (.t 77)⟩, ⟨some 9, none, .mov (.t 78)⟩]) <|
  .seq (.ops [⟨some 79, none, .mov (.t 9)⟩, ⟨some 2, none, .mov (.t 79)⟩]) <|
  .ret
def v25 : VFunc := ⟨80, [.tmp 2], c25⟩
/-- berthing/spec.Container -/
def c26 : VCode :=
  .seq (.ops [⟨some 1, none, .box (.t 0)⟩, ⟨some 2, none, .mov (.c (.bool false))⟩]) <|
  .seq (.seq (.ops [⟨some 5, none, .fieldAddr 0 (.t 1)⟩, ⟨some 6, none, .load1 (.t 5)⟩, ⟨some 7, none, .call .pure 40 [(.t 6)]⟩, ⟨some 8, none, .un .not (.t 7)⟩, ⟨some 9, none, .mov (.t 8)⟩, ⟨some 10, some (9, false), .fieldAddr 1 (.t 1)⟩, ⟨some 11, some (9, false), .loadN 3 (.t 10)⟩, ⟨some 12, some (9, false), .call .pure 41 [(.t 11)]⟩, ⟨some 13, some (9, false), .un .not (.t 12)⟩, ⟨some 14, none, .pick (.t 9) (.c (.bool true)) (.t 13)⟩, ⟨some 15, none, .mov (.t 14)⟩, ⟨some 16, some (15, false), .fieldAddr 4 (.t 1)⟩, ⟨some 17, some (15, false), .loadN 3 (.t 16)⟩, ⟨some 18, some (15, false), .call .pure 41 [(.t 17)]⟩, ⟨some 19, some (15, false), .un .not (.t 18)⟩, ⟨some 20, none, .pick (.t 15) (.c (.bool true)) (.t 19)⟩, ⟨some 21, none, .mov (.t 20)⟩, ⟨some 22, some (21, false), .fieldAddr 1 (.t 1)⟩, ⟨some 23, some (21, false), .fieldAddr 2 (.t 22)⟩, ⟨some 24, some (21, false), .load1 (.t 23)⟩, ⟨some 25, some (21, false), .fieldAddr 4 (.t 1)⟩, ⟨some 26, some (21, false), .fieldAddr 2 (.t 25)⟩, ⟨some 27, some (21, false), .load1 (.t 26)⟩, ⟨some 28, some (21, false), .bin .num .neq (.t 24) (.t 27)⟩, ⟨some 29, none, .pick (.t 21) (.c (.bool true)) (.t 28)⟩]) <|
  .cond (.t 29) (.seq (.ops [⟨some 2, none, .mov (.c (.bool false))⟩]) <|
   .ret) (.skip)) <|
  .seq (.seq (.ops [⟨some 3, none, .mov (.c (.int .i64 0))⟩]) <|
  .block 0 (.loop (.seq (.seq (.ops [⟨some 30, none, .mov (.t 3)⟩, ⟨some 31, none, .bin .num .leq (.t 30) (.c (.int .i64 1))⟩]) <|
    .cond (.t 31) (.skip) (.exit 0)) <|
    .seq (.block 1 (.seq (.ops [⟨some 34, none, .fieldAddr 4 (.t 1)⟩, ⟨some 35, none, .loadN 3 (.t 34)⟩, ⟨some 36, none, .mov (.t 3)⟩, ⟨some 37, none, .call .pure 42 [(.t 35), (.t 36)]⟩, ⟨some 4, none, .mov (.t 37)⟩]) <|
     .seq (.ops [⟨some 38, none, .mov (.t 4)⟩, ⟨some 39, none, .bin .num .gtr (.t 38) (.c (.int .i64 0))⟩, ⟨some 40, none, .mov (.t 39)⟩, ⟨some 41, some (40, true), .mov (.t 4)⟩, ⟨some 42, some (40, true), .fieldAddr 1 (.t 1)⟩, ⟨some 43, some (40, true), .loadN 3 (.t 42)⟩, ⟨some 44, some (40, true), .mov (.t 3)⟩, ⟨some 45, some (40, true), .call .pure 42 [(.t 43), (.t 44)]⟩, ⟨some 46, some (40, true), .bin .num .lss (.t 41) (.t 45)⟩, ⟨some 47, none, .pick (.t 40) (.t 46) (.c (.bool false))⟩]) <|
     .cond (.t 47) (.seq (.ops [⟨some 2, none, .mov (.c (.bool false))⟩]) <|
      .ret) (.skip))) <|
    .ops [⟨some 32, none, .mov (.t 3)⟩, ⟨some 33, none, .bin .num .add (.t 32) (.c (.int .i64 1))⟩, ⟨some 3, none, .mov (.t 33)⟩]))) <|
  .seq (.ops [⟨some 2, none, .mov (.c (.bool true))⟩]) <|
  .ret
def v26 : VFunc := ⟨48, [.tmp 2], c26⟩
/-- berthing/knobs.limit -/
def c27 : VCode :=
  .seq (.ops [⟨some 2, none, .mov (.c (.int .i64 0))⟩]) <|
  .seq (.seq (.ops [⟨some 3, none, .mov (.t 0)⟩, ⟨some 4, none, .bin .num .eql (.t 3) (.c (.int .i64 0))⟩]) <|
  .cond (.t 4) (.seq (.ops [⟨some 2, none, .mov (.c (.int .i64 4611686018427387904))⟩]) <|
   .ret) (.skip)) <|
  .seq (.ops [⟨some 5, none, .mov (.t 0)⟩, ⟨some 2, none, .mov (.t 5)⟩]) <|
  .ret
def v27 : VFunc := ⟨6, [.tmp 2], c27⟩
/-- berthing/berthingref05.Container -/
def c28 : VCode :=
  .seq (.ops [⟨some 1, none, .box (.t 0)⟩, ⟨some 2, none, .mov (.c (.bool false))⟩]) <|
  .seq (.draw [(3, .z [(.int .i64 0), (.int .i64 0), (.int .i64 0)]), (4, .z [(.int .i64 0), (.int .i64 0), (.int .i64 0)])] [⟨some 5, none, .fieldAddr 1 (.t 1)⟩, ⟨some 6, none, .loadN 3 (.t 5)⟩, ⟨some 7, none, .fieldAddr 4 (.t 1)⟩, ⟨some 8, none, .loadN 3 (.t 7)⟩, ⟨none, none, .idle⟩, ⟨none, none, .idle⟩, ⟨none, none, .storeN 3 (.t 3) (.t 6)⟩, ⟨none, none, .storeN 3 (.t 4) (.t 8)⟩] [(3, 6)]) <|
  .seq (.ops [⟨some 9, none, .fieldAddr 0 (.t 1)⟩, ⟨some 10, none, .load1 (.t 9)⟩, ⟨some 11, none, .call .pure 39 [(.t 10)]⟩, ⟨some 12, none, .mov (.t 11)⟩, ⟨some 13, some (12, true), .loadN 3 (.t 3)⟩, ⟨some 14, some (12, true), .call .pure 43 [(.t 13)]⟩, ⟨some 15, none, .pick (.t 12) (.t 14) (.c (.bool false))⟩, ⟨some 16, none, .mov (.t 15)⟩, ⟨some 17, some (16, true), .loadN 3 (.t 4)⟩, ⟨some 18, some (16, true), .call .pure 43 [(.t 17)]⟩, ⟨some 19, none, .pick (.t 16) (.t 18) (.c (.bool false))⟩, ⟨some 20, none, .mov (.t 19)⟩, ⟨some 21, some (20, true), .fieldAddr 0 (.t 4)⟩, ⟨some 22, some (20, true), .load1 (.t 21)⟩, ⟨some 23, some (20, true), .bin .num .eql (.t 22) (.c (.int .i64 0))⟩, ⟨some 24, some (20, true), .mov (.t 23)⟩, ⟨some 25, some (24, false), .fieldAddr 0 (.t 4)⟩, ⟨some 26, some (24, false), .load1 (.t 25)⟩, ⟨some 27, some (24, false), .fieldAddr 0 (.t 3)⟩, ⟨some 28, some (24, false), .load1 (.t 27)⟩, ⟨some 29, some (24, false), .bin .num .geq (.t 26) (.t 28)⟩, ⟨some 30, some (20, true), .pick (.t 24) (.c (.bool true)) (.t 29)⟩, ⟨some 31, none, .pick (.t 20) (.t 30) (.c (.bool false))⟩, ⟨some 32, none, .mov (.t 31)⟩, ⟨some 33, some (32, true), .fieldAddr 1 (.t 4)⟩, ⟨some 34, some (32, true), .load1 (.t 33)⟩, ⟨some 35, some (32, true), .bin .num .eql (.t 34) (.c (.int .i64 0))⟩, ⟨some 36, some (32, true), .mov (.t 35)⟩, ⟨some 37, some (36, false), .fieldAddr 1 (.t 4)⟩, ⟨some 38, some (36, false), .load1 (.t 37)⟩, ⟨some 39, some (36, false), .fieldAddr 1 (.t 3)⟩, ⟨some 40, some (36, false), .load1 (.t 39)⟩, ⟨some 41, some (36, false), .bin .num .geq (.t 38) (.t 40)⟩, ⟨some 42, some (32, true), .pick (.t 36) (.c (.bool true)) (.t 41)⟩, ⟨some 43, none, .pick (.t 32) (.t 42) (.c (.bool false))⟩, ⟨some 44, none, .mov (.t 43)⟩, ⟨some 45, some (44, true), .fieldAddr 2 (.t 3)⟩, ⟨some 46, some (44, true), .load1 (.t 45)⟩, ⟨some 47, some (44, true), .fieldAddr 2 (.t 4)⟩, ⟨some 48, some (44, true), .load1 (.t 47)⟩, ⟨some 49, some (44, true), .bin .num .eql (.t 46) (.t 48)⟩, ⟨some 50, none, .pick (.t 44) (.t 49) (.c (.bool false))⟩, ⟨some 2, none, .mov (.t 50)⟩]) <|
  .ret
def v28 : VFunc := ⟨51, [.tmp 2], c28⟩
/-- berthing/berthingref06.limit -/
def c29 : VCode :=
  .seq (.ops [⟨some 2, none, .mov (.c (.int .i64 0))⟩]) <|
  .seq (.seq (.ops [⟨some 3, none, .mov (.t 0)⟩, ⟨some 4, none, .bin .num .eql (.t 3) (.c (.int .i64 0))⟩]) <|
  .cond (.t 4) (.seq (.ops [⟨some 2, none, .mov (.c (.int .i64 4611686018427387904))⟩]) <|
   .ret) (.skip)) <|
  .seq (.ops [⟨some 5, none, .mov (.t 0)⟩, ⟨some 2, none, .mov (.t 5)⟩]) <|
  .ret
def v29 : VFunc := ⟨6, [.tmp 2], c29⟩
/-- berthing/spec.Pod -/
def c30 : VCode :=
  .seq (.ops [⟨some 1, none, .box (.t 0)⟩, ⟨some 2, none, .mov (.c (.bool false))⟩]) <|
  .seq (.ops [⟨some 11, none, .fieldAddr 3 (.t 1)⟩, ⟨some 12, none, .load1 (.t 11)⟩, ⟨some 13, none, .lenS (.t 12)⟩, ⟨some 3, none, .mov (.t 13)⟩]) <|
  .seq (.seq (.ops [⟨some 14, none, .fieldAddr 0 (.t 1)⟩, ⟨some 15, none, .load1 (.t 14)⟩, ⟨some 16, none, .call .pure 40 [(.t 15)]⟩, ⟨some 17, none, .un .not (.t 16)⟩, ⟨some 18, none, .mov (.t 17)⟩, ⟨some 19, some (18, false), .fieldAddr 1 (.t 1)⟩, ⟨some 20, some (18, false), .load1 (.t 19)⟩, ⟨some 21, some (18, false), .bin .num .lss (.t 20) (.c (.int .i64 (-1000)))⟩, ⟨some 22, none, .pick (.t 18) (.c (.bool true)) (.t 21)⟩, ⟨some 23, none, .mov (.t 22)⟩, ⟨some 24, some (23, false), .fieldAddr 1 (.t 1)⟩, ⟨some 25, some (23, false), .load1 (.t 24)⟩, ⟨some 26, some (23, false), .bin .num .gtr (.t 25) (.c (.int .i64 1000))⟩, ⟨some 27, none, .pick (.t 23) (.c (.bool true)) (.t 26)⟩, ⟨some 28, none, .mov (.t 27)⟩, ⟨some 29, some (28, false), .fieldAddr 2 (.t 1)⟩, ⟨some 30, some (28, false), .load1 (.t 29)⟩, ⟨some 31, some (28, false), .bin .num .lss (.t 30) (.c (.int .i64 0))⟩, ⟨some 32, none, .pick (.t 28) (.c (.bool true)) (.t 31)⟩, ⟨some 33, none, .mov (.t 32)⟩, ⟨some 34, some (33, false), .fieldAddr 2 (.t 1)⟩, ⟨some 35, some (33, false), .load1 (.t 34)⟩, ⟨some 36, some (33, false), .bin .num .gtr (.t 35) (.c (.int .i64 2))⟩, ⟨some 37, none, .pick (.t 33) (.c (.bool true)) (.t 36)⟩, ⟨some 38, none, .mov (.t 37)⟩, ⟨some 39, some (38, false), .mov (.t 3)⟩, ⟨some 40, some (38, false), .bin .num .lss (.t 39) (.c (.int .i64 1))⟩, ⟨some 41, none, .pick (.t 38) (.c (.bool true)) (.t 40)⟩, ⟨some 42, none, .mov (.t 41)⟩, ⟨some 43, some (42, false), .mov (.t 3)⟩, ⟨some 44, some (42, false), .bin .num .gtr (.t 43) (.c (.int .i64 6))⟩, ⟨some 45, none, .pick (.t 42) (.c (.bool true)) (.t 44)⟩]) <|
  .cond (.t 45) (.seq (.ops [⟨some 2, none, .mov (.c (.bool false))⟩]) <|
   .ret) (.skip)) <|
  .seq (.seq (.ops [⟨some 46, none, .fieldAddr 3 (.t 1)⟩, ⟨some 47, none, .load1 (.t 46)⟩, ⟨some 48, none, .lenS (.t 47)⟩, ⟨some 49, none, .mov (.c (.int .i64 0))⟩]) <|
  .block 0 (.loop (.seq (.ops [⟨some 50, none, .bin .num .lss (.t 49) (.t 48)⟩]) <|
    .seq (.cond (.t 50) (.skip) (.exit 0)) <|
    .seq (.block 1 (.seq (.ops [⟨some 51, none, .mov (.t 49)⟩, ⟨some 52, none, .idxAddrS 10 (.t 47) (.t 49)⟩, ⟨some 53, none, .loadN 10 (.t 52)⟩, ⟨some 5, none, .alloc [(.str ⟨#[]⟩), (.int .i64 0), (.int .i64 0), (.int .i64 0), (.int .i64 0), (.int .i64 0), (.int .i64 0), (.bool false), (.bool false), (.bool false)]⟩, ⟨some 4, none, .mov (.t 51)⟩, ⟨none, none, .storeN 10 (.t 5) (.t 53)⟩]) <|
     .seq (.ops [⟨some 55, none, .loadN 4 (.t 1)⟩, ⟨some 56, none, .fieldAddr 0 (.t 5)⟩, ⟨some 57, none, .load1 (.t 56)⟩, ⟨some 58, none, .call .shared 44 [(.t 55), (.t 57)]⟩, ⟨some 54, none, .mov (.t 58)⟩, ⟨some 59, none, .extract 0 (.t 54)⟩, ⟨some 60, none, .extract 1 (.t 54)⟩, ⟨some 6, none, .mov (.t 59)⟩, ⟨some 7, none, .mov (.t 60)⟩]) <|
     .seq (.ops [⟨some 61, none, .mov (.t 6)⟩, ⟨some 62, none, .mov (.t 4)⟩, ⟨some 63, none, .bin .num .neq (.t 61) (.t 62)⟩, ⟨some 64, none, .mov (.t 63)⟩, ⟨some 65, some (64, false), .loadN 10 (.t 5)⟩, ⟨some 66, some (64, false), .call .pure 26 [(.t 65)]⟩, ⟨some 67, some (64, false), .un .not (.t 66)⟩, ⟨some 68, none, .pick (.t 64) (.c (.bool true)) (.t 67)⟩]) <|
     .cond (.t 68) (.seq (.ops [⟨some 2, none, .mov (.c (.bool false))⟩]) <|
      .ret) (.skip))) <|
    .ops [⟨some 69, none, .bin .num .add (.t 49) (.c (.int .i64 1))⟩, ⟨some 49, none, .mov (.t 69)⟩]))) <|
  .seq (.ops [⟨some 71, none, .loadN 4 (.t 1)⟩, ⟨some 72, none, .call .shared 45 [(.t 71)]⟩, ⟨some 70, none, .mov (.t 72)⟩, ⟨some 73, none, .extract 0 (.t 70)⟩, ⟨some 74, none, .extract 1 (.t 70)⟩, ⟨some 75, none, .extract 2 (.t 70)⟩, ⟨some 8, none, .alloc [(.int .i64 0), (.int .i64 0), (.int .i64 0)]⟩, ⟨some 9, none, .alloc [(.int .i64 0), (.int .i64 0), (.int .i64 0)]⟩, ⟨none, none, .storeN 3 (.t 8) (.t 73)⟩, ⟨none, none, .storeN 3 (.t 9) (.t 74)⟩, ⟨some 10, none, .mov (.t 75)⟩]) <|
  .seq (.ops [⟨some 76, none, .mov (.t 10)⟩, ⟨some 2, none, .mov (.t 76)⟩]) <|
  .ret
def v30 : VFunc := ⟨77, [.tmp 2], c30⟩
/-- berthing/knobs.both -/
def c31 : VCode :=
  .seq (.ops [⟨some 4, none, .mov (.c (.int .i64 0))⟩]) <|
  .seq (.seq (.ops [⟨some 5, none, .mov (.t 0)⟩, ⟨some 6, none, .bin .num .eql (.t 5) (.c (.int .i64 4611686018427387904))⟩, ⟨some 7, none, .mov (.t 6)⟩, ⟨some 8, some (7, false), .mov (.t 1)⟩, ⟨some 9, some (7, false), .bin .num .eql (.t 8) (.c (.int .i64 4611686018427387904))⟩, ⟨some 10, none, .pick (.t 7) (.c (.bool true)) (.t 9)⟩]) <|
  .cond (.t 10) (.seq (.ops [⟨some 4, none, .mov (.c (.int .i64 4611686018427387904))⟩]) <|
   .ret) (.skip)) <|
  .seq (.ops [⟨some 11, none, .mov (.t 0)⟩, ⟨some 12, none, .mov (.t 1)⟩, ⟨some 13, none, .bin .num .add (.t 11) (.t 12)⟩, ⟨some 4, none, .mov (.t 13)⟩]) <|
  .ret
def v31 : VFunc := ⟨14, [.tmp 4], c31⟩
/-- berthing/spec.Requests -/
def c32 : VCode :=
  .seq (.ops [⟨some 1, none, .box (.t 0)⟩, ⟨some 2, none, .alloc [(.int .i64 0), (.int .i64 0), (.int .i64 0)]⟩]) <|
  .seq (.ops [⟨some 3, none, .mov (.c (.sl .nil 0 []))⟩]) <|
  .seq (.seq (.ops [⟨some 8, none, .fieldAddr 3 (.t 1)⟩, ⟨some 9, none, .load1 (.t 8)⟩, ⟨some 10, none, .lenS (.t 9)⟩, ⟨some 11, none, .mov (.c (.int .i64 0))⟩]) <|
  .block 0 (.loop (.seq (.ops [⟨some 12, none, .bin .num .lss (.t 11) (.t 10)⟩]) <|
    .seq (.cond (.t 12) (.skip) (.exit 0)) <|
    .seq (.block 1 (.seq (.ops [⟨some 13, none, .idxAddrS 10 (.t 9) (.t 11)⟩, ⟨some 14, none, .loadN 10 (.t 13)⟩, ⟨some 5, none, .alloc [(.str ⟨#[]⟩), (.int .i64 0), (.int .i64 0), (.int .i64 0), (.int .i64 0), (.int .i64 0), (.int .i64 0), (.bool false), (.bool false), (.bool false)]⟩, ⟨none, none, .storeN 10 (.t 5) (.t 14)⟩]) <|
     .ops [⟨some 15, none, .mov (.t 3)⟩, ⟨some 16, none, .fieldAddr 1 (.t 5)⟩, ⟨some 17, none, .loadN 3 (.t 16)⟩, ⟨some 18, none, .buildSlice false 3 1 [(.int .i64 0), (.int .i64 0), (.int .i64 0)] [(0, 3, (.t 17))]⟩, ⟨some 19, none, .append false false 3 24 (.t 15) (.t 18)⟩, ⟨some 3, none, .mov (.t 19)⟩])) <|
    .ops [⟨some 20, none, .bin .num .add (.t 11) (.c (.int .i64 1))⟩, ⟨some 11, none, .mov (.t 20)⟩]))) <|
  .seq (.ops [⟨some 22, none, .mov (.t 3)⟩, ⟨some 23, none, .call .pure 46 [(.t 22)]⟩, ⟨some 21, none, .mov (.t 23)⟩, ⟨some 24, none, .extract 0 (.t 21)⟩, ⟨some 25, none, .extract 1 (.t 21)⟩, ⟨some 6, none, .alloc [(.int .i64 0), (.int .i64 0), (.int .i64 0)]⟩, ⟨none, none, .storeN 3 (.t 6) (.t 24)⟩, ⟨some 7, none, .mov (.t 25)⟩]) <|
  .seq (.ops [⟨some 26, none, .loadN 3 (.t 6)⟩, ⟨none, none, .storeN 3 (.t 2) (.t 26)⟩]) <|
  .ret
def v32 : VFunc := ⟨27, [.cellN 3 2], c32⟩
/-- berthing/berthingref05.Sums -/
def c33 : VCode :=
  .seq (.ops [⟨some 1, none, .box (.t 0)⟩, ⟨some 2, none, .alloc [(.int .i64 0), (.int .i64 0), (.int .i64 0)]⟩, ⟨some 3, none, .alloc [(.int .i64 0), (.int .i64 0), (.int .i64 0)]⟩, ⟨some 4, none, .mov (.c (.bool false))⟩]) <|
  .seq (.ops [⟨some 5, none, .mov (.c (.sl .nil 0 []))⟩, ⟨some 6, none, .mov (.c (.sl .nil 0 []))⟩]) <|
  .seq (.seq (.ops [⟨some 13, none, .fieldAddr 3 (.t 1)⟩, ⟨some 14, none, .load1 (.t 13)⟩, ⟨some 15, none, .lenS (.t 14)⟩, ⟨some 16, none, .mov (.c (.int .i64 0))⟩]) <|
  .block 0 (.loop (.seq (.ops [⟨some 17, none, .bin .num .lss (.t 16) (.t 15)⟩]) <|
    .seq (.cond (.t 17) (.skip) (.exit 0)) <|
    .seq (.block 1 (.seq (.ops [⟨some 18, none, .idxAddrS 10 (.t 14) (.t 16)⟩, ⟨some 19, none, .loadN 10 (.t 18)⟩, ⟨some 8, none, .alloc [(.str ⟨#[]⟩), (.int .i64 0), (.int .i64 0), (.int .i64 0), (.int .i64 0), (.int .i64 0), (.int .i64 0), (.bool false), (.bool false), (.bool false)]⟩, ⟨none, none, .storeN 10 (.t 8) (.t 19)⟩]) <|
     .seq (.ops [⟨some 20, none, .mov (.t 5)⟩, ⟨some 21, none, .fieldAddr 1 (.t 8)⟩, ⟨some 22, none, .loadN 3 (.t 21)⟩, ⟨some 23, none, .buildSlice false 3 1 [(.int .i64 0), (.int .i64 0), (.int .i64 0)] [(0, 3, (.t 22))]⟩, ⟨some 24, none, .append false false 3 24 (.t 20) (.t 23)⟩, ⟨some 5, none, .mov (.t 24)⟩]) <|
     .ops [⟨some 25, none, .mov (.t 6)⟩, ⟨some 26, none, .fieldAddr 4 (.t 8)⟩, ⟨some 27, none, .loadN 3 (.t 26)⟩, ⟨some 28, none, .buildSlice false 3 1 [(.int .i64 0), (.int .i64 0), (.int .i64 0)] [(0, 3, (.t 27))]⟩, ⟨some 29, none, .append false false 3 24 (.t 25) (.t 28)⟩, ⟨some 6, none, .mov (.t 29)⟩])) <|
    .ops [⟨some 30, none, .bin .num .add (.t 16) (.c (.int .i64 1))⟩, ⟨some 16, none, .mov (.t 30)⟩]))) <|
  .seq (.ops [⟨some 32, none, .mov (.t 5)⟩, ⟨some 33, none, .call .pure 47 [(.t 32)]⟩, ⟨some 31, none, .mov (.t 33)⟩, ⟨some 34, none, .extract 0 (.t 31)⟩, ⟨some 35, none, .extract 1 (.t 31)⟩, ⟨some 9, none, .alloc [(.int .i64 0), (.int .i64 0), (.int .i64 0)]⟩, ⟨none, none, .storeN 3 (.t 9) (.t 34)⟩, ⟨some 10, none, .mov (.t 35)⟩]) <|
  .seq (.ops [⟨some 37, none, .mov (.t 6)⟩, ⟨some 38, none, .call .pure 47 [(.t 37)]⟩, ⟨some 36, none, .mov (.t 38)⟩, ⟨some 39, none, .extract 0 (.t 36)⟩, ⟨some 40, none, .extract 1 (.t 36)⟩, ⟨some 11, none, .alloc [(.int .i64 0), (.int .i64 0), (.int .i64 0)]⟩, ⟨none, none, .storeN 3 (.t 11) (.t 39)⟩, ⟨some 12, none, .mov (.t 40)⟩]) <|
  .seq (.draw [] [⟨some 41, none, .loadN 3 (.t 9)⟩, ⟨some 42, none, .loadN 3 (.t 11)⟩, ⟨some 43, none, .mov (.t 10)⟩, ⟨some 44, none, .mov (.t 43)⟩, ⟨some 45, some (44, true), .mov (.t 12)⟩, ⟨some 46, none, .pick (.t 44) (.t 45) (.c (.bool false))⟩, ⟨none, none, .storeN 3 (.t 2) (.t 41)⟩, ⟨none, none, .storeN 3 (.t 3) (.t 42)⟩, ⟨some 4, none, .mov (.t 46)⟩] [(1, 6)]) <|
  .ret
def v33 : VFunc := ⟨47, [.cellN 3 2, .cellN 3 3, .tmp 4], c33⟩
/-- berthing/knobs.parts -/
def c34 : VCode :=
  .seq (.ops [⟨some 1, none, .box (.t 0)⟩, ⟨some 2, none, .alloc [(.int .i64 0), (.int .i64 0), (.int .i64 0), (.int .i64 0), (.int .i64 0)]⟩]) <|
  .seq (.ops [⟨some 3, none, .fieldAddr 0 (.t 1)⟩, ⟨some 4, none, .load1 (.t 3)⟩, ⟨some 5, none, .fieldAddr 1 (.t 1)⟩, ⟨some 6, none, .load1 (.t 5)⟩, ⟨some 7, none, .fieldAddr 2 (.t 1)⟩, ⟨some 8, none, .load1 (.t 7)⟩, ⟨some 9, none, .fieldAddr 3 (.t 1)⟩, ⟨some 10, none, .load1 (.t 9)⟩, ⟨some 11, none, .fieldAddr 4 (.t 1)⟩, ⟨some 12, none, .load1 (.t 11)⟩, ⟨some 13, none, .build [(.int .i64 0), (.int .i64 0), (.int .i64 0), (.int .i64 0), (.int .i64 0)] [(0, 1, (.t 4)), (1, 1, (.t 6)), (2, 1, (.t 8)), (3, 1, (.t 10)), (4, 1, (.t 12))]⟩, ⟨none, none, .storeN 5 (.t 2) (.t 13)⟩]) <|
  .ret
def v34 : VFunc := ⟨14, [.cellN 5 2], c34⟩
/-- berthing/knobs.sum -/
def c35 : VCode :=
  .seq (.ops [⟨some 2, none, .mov (.c (.bool false))⟩]) <|
  .seq (.ops [⟨some 3, none, .mov (.t 0)⟩, ⟨some 4, none, .bin .num .geq (.t 3) (.c (.int .i64 0))⟩, ⟨some 5, none, .mov (.t 4)⟩, ⟨some 6, some (5, true), .mov (.t 0)⟩, ⟨some 7, some (5, true), .bin .num .leq (.t 6) (.c (.int .i64 9007199254740992))⟩, ⟨some 8, none, .pick (.t 5) (.t 7) (.c (.bool false))⟩, ⟨some 2, none, .mov (.t 8)⟩]) <|
  .ret
def v35 : VFunc := ⟨9, [.tmp 2], c35⟩
/-- berthing/berthingref06.Signed -/
def c38 : VCode :=
  .seq (.ops [⟨some 2, none, .mov (.c (.str ⟨#[]⟩))⟩]) <|
  .seq (.seq (.ops [⟨some 5, none, .mov (.t 0)⟩, ⟨some 6, none, .bin .num .lss (.t 5) (.c (.int .i64 0))⟩]) <|
  .cond (.t 6) (.seq (.ops [⟨some 8, none, .mov (.t 0)⟩, ⟨some 9, none, .bin .num .add (.t 8) (.c (.int .i64 1))⟩, ⟨some 10, none, .un .neg (.t 9)⟩, ⟨some 11, none, .conv .u64 (.t 10)⟩, ⟨some 12, none, .build [(.int .u64 0), (.int .u64 0)] [(1, 1, (.t 11))]⟩, ⟨some 13, none, .call .pure 52 [(.t 12)]⟩, ⟨some 14, none, .build [(.int .u64 0), (.int .u64 0), (.int .u64 0), (.int .u64 0), (.int .u64 0), (.int .u64 0), (.int .u64 0), (.int .u64 0), (.int .u64 0), (.int .u64 0), (.int .u64 0), (.int .u64 0), (.int .u64 0), (.int .u64 0), (.int .u64 0), (.int .u64 0), (.int .u64 0), (.int .u64 0), (.int .u64 0), (.int .u64 0)] [(0, 1, (.c (.int .u64 1)))]⟩, ⟨some 15, none, .call .pure 53 [(.t 13), (.t 14)]⟩, ⟨some 16, none, .call .pure 54 [(.t 15)]⟩, ⟨some 7, none, .mov (.t 16)⟩, ⟨some 17, none, .extract 0 (.t 7)⟩, ⟨some 18, none, .extract 1 (.t 7)⟩, ⟨some 3, none, .alloc [(.int .u64 0), (.int .u64 0)]⟩, ⟨none, none, .storeN 2 (.t 3) (.t 17)⟩, ⟨some 4, none, .mov (.t 18)⟩]) <|
   .seq (.ops [⟨some 19, none, .loadN 2 (.t 3)⟩, ⟨some 20, none, .call .pure 55 [(.t 19)]⟩, ⟨some 21, none, .bin .num .add (.c (.str ⟨#[45]⟩)) (.t 20)⟩, ⟨some 2, none, .mov (.t 21)⟩]) <|
   .ret) (.skip)) <|
  .seq (.ops [⟨some 22, none, .mov (.t 0)⟩, ⟨some 23, none, .conv .u64 (.t 22)⟩, ⟨some 24, none, .build [(.int .u64 0), (.int .u64 0)] [(1, 1, (.t 23))]⟩, ⟨some 25, none, .call .pure 55 [(.t 24)]⟩, ⟨some 2, none, .mov (.t 25)⟩]) <|
  .ret
def v38 : VFunc := ⟨26, [.tmp 2], c38⟩
/-- berthing/berthingref05.Name -/
def c39 : VCode :=
  .seq (.ops [⟨some 2, none, .mov (.c (.bool false))⟩]) <|
  .seq (.seq (.ops [⟨some 3, none, .mov (.c (.int .i64 0))⟩]) <|
  .block 0 (.loop (.seq (.seq (.ops [⟨some 6, none, .mov (.t 3)⟩, ⟨some 7, none, .mov (.t 0)⟩, ⟨some 8, none, .lenStr (.t 7)⟩, ⟨some 9, none, .bin .num .lss (.t 6) (.t 8)⟩]) <|
    .cond (.t 9) (.skip) (.exit 0)) <|
    .seq (.block 1 (.seq (.ops [⟨some 12, none, .mov (.t 0)⟩, ⟨some 13, none, .mov (.t 3)⟩, ⟨some 14, none, .idxStr (.t 12) (.t 13)⟩, ⟨some 4, none, .mov (.t 14)⟩]) <|
     .seq (.ops [⟨some 15, none, .mov (.t 4)⟩, ⟨some 16, none, .bin .num .geq (.t 15) (.c (.int .u8 97))⟩, ⟨some 17, none, .mov (.t 16)⟩, ⟨some 18, some (17, true), .mov (.t 4)⟩, ⟨some 19, some (17, true), .bin .num .leq (.t 18) (.c (.int .u8 122))⟩, ⟨some 20, none, .pick (.t 17) (.t 19) (.c (.bool false))⟩, ⟨some 21, none, .mov (.t 20)⟩, ⟨some 22, some (21, false), .mov (.t 4)⟩, ⟨some 23, some (21, false), .bin .num .geq (.t 22) (.c (.int .u8 48))⟩, ⟨some 24, some (21, false), .mov (.t 23)⟩, ⟨some 25, some (24, true), .mov (.t 4)⟩, ⟨some 26, some (24, true), .bin .num .leq (.t 25) (.c (.int .u8 57))⟩, ⟨some 27, some (21, false), .pick (.t 24) (.t 26) (.c (.bool false))⟩, ⟨some 28, none, .pick (.t 21) (.c (.bool true)) (.t 27)⟩, ⟨some 5, none, .mov (.t 28)⟩]) <|
     .seq (.ops [⟨some 29, none, .mov (.t 5)⟩, ⟨some 30, none, .un .not (.t 29)⟩, ⟨some 31, none, .mov (.t 30)⟩, ⟨some 32, some (31, true), .mov (.t 4)⟩, ⟨some 33, some (31, true), .bin .num .neq (.t 32) (.c (.int .u8 45))⟩, ⟨some 34, some (31, true), .mov (.t 33)⟩, ⟨some 35, some (34, false), .mov (.t 3)⟩, ⟨some 36, some (34, false), .bin .num .eql (.t 35) (.c (.int .i64 0))⟩, ⟨some 37, some (31, true), .pick (.t 34) (.c (.bool true)) (.t 36)⟩, ⟨some 38, some (31, true), .mov (.t 37)⟩, ⟨some 39, some (38, false), .mov (.t 3)⟩, ⟨some 40, some (38, false), .mov (.t 0)⟩, ⟨some 41, some (38, false), .lenStr (.t 40)⟩, ⟨some 42, some (38, false), .bin .num .sub (.t 41) (.c (.int .i64 1))⟩, ⟨some 43, some (38, false), .bin .num .eql (.t 39) (.t 42)⟩, ⟨some 44, some (31, true), .pick (.t 38) (.c (.bool true)) (.t 43)⟩, ⟨some 45, none, .pick (.t 31) (.t 44) (.c (.bool false))⟩]) <|
     .cond (.t 45) (.seq (.ops [⟨some 2, none, .mov (.c (.bool false))⟩]) <|
      .ret) (.skip))) <|
    .ops [⟨some 10, none, .mov (.t 3)⟩, ⟨some 11, none, .bin .num .add (.t 10) (.c (.int .i64 1))⟩, ⟨some 3, none, .mov (.t 11)⟩]))) <|
  .seq (.ops [⟨some 46, none, .mov (.t 0)⟩, ⟨some 47, none, .lenStr (.t 46)⟩, ⟨some 48, none, .bin .num .gtr (.t 47) (.c (.int .i64 0))⟩, ⟨some 49, none, .mov (.t 48)⟩, ⟨some 50, some (49, true), .mov (.t 0)⟩, ⟨some 51, some (49, true), .lenStr (.t 50)⟩, ⟨some 52, some (49, true), .bin .num .lss (.t 51) (.c (.int .i64 17))⟩, ⟨some 53, none, .pick (.t 49) (.t 52) (.c (.bool false))⟩, ⟨some 2, none, .mov (.t 53)⟩]) <|
  .ret
def v39 : VFunc := ⟨54, [.tmp 2], c39⟩
/-- berthing/spec.Name -/
def c40 : VCode :=
  .seq (.ops [⟨some 2, none, .mov (.c (.bool false))⟩]) <|
  .seq (.seq (.ops [⟨some 5, none, .mov (.t 0)⟩, ⟨some 6, none, .lenStr (.t 5)⟩, ⟨some 7, none, .bin .num .lss (.t 6) (.c (.int .i64 1))⟩, ⟨some 8, none, .mov (.t 7)⟩, ⟨some 9, some (8, false), .mov (.t 0)⟩, ⟨some 10, some (8, false), .lenStr (.t 9)⟩, ⟨some 11, some (8, false), .bin .num .gtr (.t 10) (.c (.int .i64 16))⟩, ⟨some 12, none, .pick (.t 8) (.c (.bool true)) (.t 11)⟩, ⟨some 13, none, .mov (.t 12)⟩, ⟨some 14, some (13, false), .mov (.t 0)⟩, ⟨some 15, some (13, false), .idxStr (.t 14) (.c (.int .i64 0))⟩, ⟨some 16, some (13, false), .bin .num .eql (.t 15) (.c (.int .u8 45))⟩, ⟨some 17, none, .pick (.t 13) (.c (.bool true)) (.t 16)⟩, ⟨some 18, none, .mov (.t 17)⟩, ⟨some 19, some (18, false), .mov (.t 0)⟩, ⟨some 20, some (18, false), .mov (.t 0)⟩, ⟨some 21, some (18, false), .lenStr (.t 20)⟩, ⟨some 22, some (18, false), .bin .num .sub (.t 21) (.c (.int .i64 1))⟩, ⟨some 23, some (18, false), .idxStr (.t 19) (.t 22)⟩, ⟨some 24, some (18, false), .bin .num .eql (.t 23) (.c (.int .u8 45))⟩, ⟨some 25, none, .pick (.t 18) (.c (.bool true)) (.t 24)⟩]) <|
  .cond (.t 25) (.seq (.ops [⟨some 2, none, .mov (.c (.bool false))⟩]) <|
   .ret) (.skip)) <|
  .seq (.seq (.ops [⟨some 26, none, .mov (.t 0)⟩, ⟨some 27, none, .lenStr (.t 26)⟩, ⟨some 28, none, .mov (.c (.int .i64 0))⟩]) <|
  .block 0 (.loop (.seq (.ops [⟨some 29, none, .bin .num .lss (.t 28) (.t 27)⟩]) <|
    .seq (.cond (.t 29) (.skip) (.exit 0)) <|
    .seq (.block 1 (.seq (.ops [⟨some 30, none, .mov (.t 28)⟩, ⟨some 3, none, .mov (.t 30)⟩]) <|
     .seq (.ops [⟨some 31, none, .mov (.t 0)⟩, ⟨some 32, none, .mov (.t 3)⟩, ⟨some 33, none, .idxStr (.t 31) (.t 32)⟩, ⟨some 4, none, .mov (.t 33)⟩]) <|
     .seq (.ops [⟨some 34, none, .mov (.t 4)⟩, ⟨some 35, none, .bin .num .lss (.t 34) (.c (.int .u8 97))⟩, ⟨some 36, none, .mov (.t 35)⟩, ⟨some 37, some (36, false), .mov (.t 4)⟩, ⟨some 38, some (36, false), .bin .num .gtr (.t 37) (.c (.int .u8 122))⟩, ⟨some 39, none, .pick (.t 36) (.c (.bool true)) (.t 38)⟩, ⟨some 40, none, .mov (.t 39)⟩, ⟨some 41, some (40, true), .mov (.t 4)⟩, ⟨some 42, some (40, true), .bin .num .lss (.t 41) (.c (.int .u8 48))⟩, ⟨some 43, some (40, true), .mov (.t 42)⟩, ⟨some 44, some (43, false), .mov (.t 4)⟩, ⟨some 45, some (43, false), .bin .num .gtr (.t 44) (.c (.int .u8 57))⟩, ⟨some 46, some (40, true), .pick (.t 43) (.c (.bool true)) (.t 45)⟩, ⟨some 47, none, .pick (.t 40) (.t 46) (.c (.bool false))⟩, ⟨some 48, none, .mov (.t 47)⟩, ⟨some 49, some (48, true), .mov (.t 4)⟩, ⟨some 50, some (48, true), .bin .num .neq (.t 49) (.c (.int .u8 45))⟩, ⟨some 51, none, .pick (.t 48) (.t 50) (.c (.bool false))⟩]) <|
     .cond (.t 51) (.seq (.ops [⟨some 2, none, .mov (.c (.bool false))⟩]) <|
      .ret) (.skip))) <|
    .ops [⟨some 52, none, .bin .num .add (.t 28) (.c (.int .i64 1))⟩, ⟨some 28, none, .mov (.t 52)⟩]))) <|
  .seq (.ops [⟨some 2, none, .mov (.c (.bool true))⟩]) <|
  .ret
def v40 : VFunc := ⟨53, [.tmp 2], c40⟩
/-- berthing/vector.Right -/
def c41 : VCode :=
  .seq (.ops [⟨some 1, none, .box (.t 0)⟩, ⟨some 2, none, .mov (.c (.bool false))⟩]) <|
  .seq (.seq (.ops [⟨some 5, none, .loadN 3 (.t 1)⟩, ⟨some 6, none, .call .pure 56 [(.t 5)]⟩, ⟨some 7, none, .mov (.c (.int .i64 0))⟩]) <|
  .block 0 (.loop (.seq (.ops [⟨some 8, none, .bin .num .lss (.t 7) (.c (.int .i64 3))⟩]) <|
    .seq (.cond (.t 8) (.skip) (.exit 0)) <|
    .seq (.block 1 (.seq (.ops [⟨some 9, none, .mov (.t 7)⟩, ⟨some 10, none, .idxA1 3 (.t 6) (.t 7)⟩, ⟨some 3, none, .mov (.t 9)⟩, ⟨some 4, none, .mov (.t 10)⟩]) <|
     .seq (.ops [⟨some 11, none, .mov (.t 3)⟩, ⟨some 12, none, .mov (.t 4)⟩, ⟨some 13, none, .call .pure 57 [(.t 11), (.t 12)]⟩, ⟨some 14, none, .un .not (.t 13)⟩]) <|
     .cond (.t 14) (.seq (.ops [⟨some 2, none, .mov (.c (.bool false))⟩]) <|
      .ret) (.skip))) <|
    .ops [⟨some 15, none, .bin .num .add (.t 7) (.c (.int .i64 1))⟩, ⟨some 7, none, .mov (.t 15)⟩]))) <|
  .seq (.ops [⟨some 16, none, .fieldAddr 2 (.t 1)⟩, ⟨some 17, none, .load1 (.t 16)⟩, ⟨some 18, none, .bin .num .and (.t 17) (.c (.int .i64 2097151))⟩, ⟨some 19, none, .bin .num .eql (.t 18) (.c (.int .i64 0))⟩, ⟨some 2, none, .mov (.t 19)⟩]) <|
  .ret
def v41 : VFunc := ⟨20, [.tmp 2], c41⟩
/-- berthing/vector.At -/
def c42 : VCode :=
  .seq (.ops [⟨some 2, none, .box (.t 0)⟩, ⟨some 4, none, .mov (.c (.int .i64 0))⟩]) <|
  .seq (.seq (.ops [⟨some 5, none, .mov (.t 1)⟩, ⟨some 6, none, .bin .num .lss (.t 5) (.c (.int .i64 0))⟩, ⟨some 7, none, .mov (.t 6)⟩, ⟨some 8, some (7, false), .mov (.t 1)⟩, ⟨some 9, some (7, false), .bin .num .gtr (.t 8) (.c (.int .i64 2))⟩, ⟨some 10, none, .pick (.t 7) (.c (.bool true)) (.t 9)⟩]) <|
  .cond (.t 10) (.seq (.ops [⟨some 4, none, .mov (.c (.int .i64 0))⟩]) <|
   .ret) (.skip)) <|
  .seq (.ops [⟨some 11, none, .loadN 3 (.t 2)⟩, ⟨some 12, none, .call .pure 56 [(.t 11)]⟩, ⟨some 13, none, .mov (.t 1)⟩, ⟨some 14, none, .idxA1 3 (.t 12) (.t 13)⟩, ⟨some 4, none, .mov (.t 14)⟩]) <|
  .ret
def v42 : VFunc := ⟨15, [.tmp 4], c42⟩
/-- berthing/berthingref04.Right -/
def c43 : VCode :=
  .seq (.ops [⟨some 1, none, .box (.t 0)⟩, ⟨some 2, none, .mov (.c (.bool false))⟩]) <|
  .seq (.ops [⟨some 3, none, .fieldAddr 0 (.t 1)⟩, ⟨some 4, none, .load1 (.t 3)⟩, ⟨some 5, none, .bin .num .geq (.t 4) (.c (.int .i64 0))⟩, ⟨some 6, none, .mov (.t 5)⟩, ⟨some 7, some (6, true), .fieldAddr 0 (.t 1)⟩, ⟨some 8, some (6, true), .load1 (.t 7)⟩, ⟨some 9, some (6, true), .bin .num .leq (.t 8) (.c (.int .i64 1099511627776))⟩, ⟨some 10, none, .pick (.t 6) (.t 9) (.c (.bool false))⟩, ⟨some 11, none, .mov (.t 10)⟩, ⟨some 12, some (11, true), .fieldAddr 1 (.t 1)⟩, ⟨some 13, some (11, true), .load1 (.t 12)⟩, ⟨some 14, some (11, true), .bin .num .geq (.t 13) (.c (.int .i64 0))⟩, ⟨some 15, none, .pick (.t 11) (.t 14) (.c (.bool false))⟩, ⟨some 16, none, .mov (.t 15)⟩, ⟨some 17, some (16, true), .fieldAddr 1 (.t 1)⟩, ⟨some 18, some (16, true), .load1 (.t 17)⟩, ⟨some 19, some (16, true), .bin .num .leq (.t 18) (.c (.int .i64 1125899906842624))⟩, ⟨some 20, none, .pick (.t 16) (.t 19) (.c (.bool false))⟩, ⟨some 21, none, .mov (.t 20)⟩, ⟨some 22, some (21, true), .fieldAddr 2 (.t 1)⟩, ⟨some 23, some (21, true), .load1 (.t 22)⟩, ⟨some 24, some (21, true), .bin .num .geq (.t 23) (.c (.int .i64 0))⟩, ⟨some 25, none, .pick (.t 21) (.t 24) (.c (.bool false))⟩, ⟨some 26, none, .mov (.t 25)⟩, ⟨some 27, some (26, true), .fieldAddr 2 (.t 1)⟩, ⟨some 28, some (26, true), .load1 (.t 27)⟩, ⟨some 29, some (26, true), .bin .num .leq (.t 28) (.c (.int .i64 1125899906842624))⟩, ⟨some 30, none, .pick (.t 26) (.t 29) (.c (.bool false))⟩, ⟨some 31, none, .mov (.t 30)⟩, ⟨some 32, some (31, true), .fieldAddr 2 (.t 1)⟩, ⟨some 33, some (31, true), .load1 (.t 32)⟩, ⟨some 34, some (31, true), .bin .num .rem (.t 33) (.c (.int .i64 2097152))⟩, ⟨some 35, some (31, true), .bin .num .eql (.t 34) (.c (.int .i64 0))⟩, ⟨some 36, none, .pick (.t 31) (.t 35) (.c (.bool false))⟩, ⟨some 2, none, .mov (.t 36)⟩]) <|
  .ret
def v43 : VFunc := ⟨37, [.tmp 2], c43⟩
/-- berthing/spec.Find -/
def c44 : VCode :=
  .seq (.ops [⟨some 2, none, .box (.t 0)⟩, ⟨some 3, none, .box (.t 1)⟩, ⟨some 4, none, .mov (.c (.int .i64 0))⟩, ⟨some 5, none, .mov (.c (.bool false))⟩]) <|
  .seq (.ops [⟨some 7, none, .fieldAddr 3 (.t 2)⟩, ⟨some 8, none, .load1 (.t 7)⟩, ⟨some 9, none, .mkFn 59 [] [(.t 3)]⟩, ⟨some 10, none, .call .shared 58 [(.t 8), (.t 9)]⟩, ⟨some 6, none, .mov (.t 10)⟩]) <|
  .seq (.ops [⟨some 11, none, .mov (.t 6)⟩, ⟨some 12, none, .minmax true [(.t 11), (.c (.int .i64 0))]⟩, ⟨some 13, none, .mov (.t 6)⟩, ⟨some 14, none, .bin .num .geq (.t 13) (.c (.int .i64 0))⟩, ⟨some 4, none, .mov (.t 12)⟩, ⟨some 5, none, .mov (.t 14)⟩]) <|
  .ret
def v44 : VFunc := ⟨15, [.tmp 4, .tmp 5], c44⟩
/-- berthing/spec.sums -/
def c45 : VCode :=
  .seq (.ops [⟨some 1, none, .box (.t 0)⟩, ⟨some 2, none, .alloc [(.int .i64 0), (.int .i64 0), (.int .i64 0)]⟩, ⟨some 3, none, .alloc [(.int .i64 0), (.int .i64 0), (.int .i64 0)]⟩, ⟨some 4, none, .mov (.c (.bool false))⟩]) <|
  .seq (.ops [⟨some 5, none, .mov (.c (.sl .nil 0 []))⟩, ⟨some 6, none, .mov (.c (.sl .nil 0 []))⟩]) <|
  .seq (.seq (.ops [⟨some 13, none, .fieldAddr 3 (.t 1)⟩, ⟨some 14, none, .load1 (.t 13)⟩, ⟨some 15, none, .lenS (.t 14)⟩, ⟨some 16, none, .mov (.c (.int .i64 0))⟩]) <|
  .block 0 (.loop (.seq (.ops [⟨some 17, none, .bin .num .lss (.t 16) (.t 15)⟩]) <|
    .seq (.cond (.t 17) (.skip) (.exit 0)) <|
    .seq (.block 1 (.seq (.ops [⟨some 18, none, .idxAddrS 10 (.t 14) (.t 16)⟩, ⟨some 19, none, .loadN 10 (.t 18)⟩, ⟨some 8, none, .alloc [(.str ⟨#[]⟩), (.int .i64 0), (.int .i64 0), (.int .i64 0), (.int .i64 0), (.int .i64 0), (.int .i64 0), (.bool false), (.bool false), (.bool false)]⟩, ⟨none, none, .storeN 10 (.t 8) (.t 19)⟩]) <|
     .draw [] [⟨some 20, none, .mov (.t 5)⟩, ⟨some 21, none, .fieldAddr 1 (.t 8)⟩, ⟨some 22, none, .loadN 3 (.t 21)⟩, ⟨some 23, none, .buildSlice false 3 1 [(.int .i64 0), (.int .i64 0), (.int .i64 0)] [(0, 3, (.t 22))]⟩, ⟨some 24, none, .append false false 3 24 (.t 20) (.t 23)⟩, ⟨some 25, none, .mov (.t 6)⟩, ⟨some 26, none, .fieldAddr 4 (.t 8)⟩, ⟨some 27, none, .loadN 3 (.t 26)⟩, ⟨some 28, none, .buildSlice false 3 1 [(.int .i64 0), (.int .i64 0), (.int .i64 0)] [(0, 3, (.t 27))]⟩, ⟨some 29, none, .append false false 3 24 (.t 25) (.t 28)⟩, ⟨some 5, none, .mov (.t 24)⟩, ⟨some 6, none, .mov (.t 29)⟩] [(7, 4)])) <|
    .ops [⟨some 30, none, .bin .num .add (.t 16) (.c (.int .i64 1))⟩, ⟨some 16, none, .mov (.t 30)⟩]))) <|
  .seq (.ops [⟨some 32, none, .mov (.t 5)⟩, ⟨some 33, none, .call .pure 46 [(.t 32)]⟩, ⟨some 31, none, .mov (.t 33)⟩, ⟨some 34, none, .extract 0 (.t 31)⟩, ⟨some 35, none, .extract 1 (.t 31)⟩, ⟨some 9, none, .alloc [(.int .i64 0), (.int .i64 0), (.int .i64 0)]⟩, ⟨none, none, .storeN 3 (.t 9) (.t 34)⟩, ⟨some 10, none, .mov (.t 35)⟩]) <|
  .seq (.ops [⟨some 37, none, .mov (.t 6)⟩, ⟨some 38, none, .call .pure 46 [(.t 37)]⟩, ⟨some 36, none, .mov (.t 38)⟩, ⟨some 39, none, .extract 0 (.t 36)⟩, ⟨some 40, none, .extract 1 (.t 36)⟩, ⟨some 11, none, .alloc [(.int .i64 0), (.int .i64 0), (.int .i64 0)]⟩, ⟨none, none, .storeN 3 (.t 11) (.t 39)⟩, ⟨some 12, none, .mov (.t 40)⟩]) <|
  .seq (.draw [] [⟨some 41, none, .loadN 3 (.t 9)⟩, ⟨some 42, none, .loadN 3 (.t 11)⟩, ⟨some 43, none, .mov (.t 10)⟩, ⟨some 44, none, .mov (.t 43)⟩, ⟨some 45, some (44, true), .mov (.t 12)⟩, ⟨some 46, none, .pick (.t 44) (.t 45) (.c (.bool false))⟩, ⟨none, none, .storeN 3 (.t 2) (.t 41)⟩, ⟨none, none, .storeN 3 (.t 3) (.t 42)⟩, ⟨some 4, none, .mov (.t 46)⟩] [(1, 6)]) <|
  .ret
def v45 : VFunc := ⟨47, [.cellN 3 2, .cellN 3 3, .tmp 4], c45⟩
/-- berthing/vector.Sum -/
def c46 : VCode :=
  .seq (.ops [⟨some 2, none, .alloc [(.int .i64 0), (.int .i64 0), (.int .i64 0)]⟩, ⟨some 3, none, .mov (.c (.bool false))⟩]) <|
  .seq (.ops [⟨some 4, none, .alloc [(.int .i64 0), (.int .i64 0), (.int .i64 0)]⟩]) <|
  .seq (.seq (.ops [⟨some 9, none, .mov (.t 0)⟩, ⟨some 10, none, .lenS (.t 9)⟩, ⟨some 11, none, .mov (.c (.int .i64 0))⟩]) <|
  .block 0 (.loop (.seq (.ops [⟨some 12, none, .bin .num .lss (.t 11) (.t 10)⟩]) <|
    .seq (.cond (.t 12) (.skip) (.exit 0)) <|
    .seq (.block 1 (.seq (.ops [⟨some 13, none, .idxAddrS 3 (.t 9) (.t 11)⟩, ⟨some 14, none, .loadN 3 (.t 13)⟩, ⟨some 6, none, .alloc [(.int .i64 0), (.int .i64 0), (.int .i64 0)]⟩, ⟨none, none, .storeN 3 (.t 6) (.t 14)⟩]) <|
     .seq (.ops [⟨some 16, none, .loadN 3 (.t 4)⟩, ⟨some 17, none, .loadN 3 (.t 6)⟩, ⟨some 18, none, .call .pure 60 [(.t 16), (.t 17)]⟩, ⟨some 15, none, .mov (.t 18)⟩, ⟨some 19, none, .extract 0 (.t 15)⟩, ⟨some 20, none, .extract 1 (.t 15)⟩, ⟨some 7, none, .alloc [(.int .i64 0), (.int .i64 0), (.int .i64 0)]⟩, ⟨none, none, .storeN 3 (.t 7) (.t 19)⟩, ⟨some 8, none, .mov (.t 20)⟩]) <|
     .seq (.seq (.ops [⟨some 21, none, .mov (.t 8)⟩, ⟨some 22, none, .un .not (.t 21)⟩]) <|
     .cond (.t 22) (.seq (.ops [⟨some 23, none, .build [(.int .i64 0), (.int .i64 0), (.int .i64 0)] []⟩, ⟨none, none, .storeN 3 (.t 2) (.t 23)⟩, ⟨some 3, none, .mov (.c (.bool false))⟩]) <|
      .ret) (.skip)) <|
     .ops [⟨some 24, none, .loadN 3 (.t 7)⟩, ⟨none, none, .storeN 3 (.t 4) (.t 24)⟩])) <|
    .ops [⟨some 25, none, .bin .num .add (.t 11) (.c (.int .i64 1))⟩, ⟨some 11, none, .mov (.t 25)⟩]))) <|
  .seq (.ops [⟨some 26, none, .loadN 3 (.t 4)⟩, ⟨none, none, .storeN 3 (.t 2) (.t 26)⟩, ⟨some 3, none, .mov (.c (.bool true))⟩]) <|
  .ret
def v46 : VFunc := ⟨27, [.cellN 3 2, .tmp 3], c46⟩
/-- berthing/berthingref04.Sum -/
def c47 : VCode :=
  .seq (.ops [⟨some 2, none, .alloc [(.int .i64 0), (.int .i64 0), (.int .i64 0)]⟩, ⟨some 3, none, .mov (.c (.bool false))⟩]) <|
  .seq (.ops [⟨some 8, none, .build [(.int .i64 0), (.int .i64 0), (.int .i64 0)] []⟩, ⟨some 4, none, .alloc [(.int .i64 0), (.int .i64 0), (.int .i64 0)]⟩, ⟨none, none, .storeN 3 (.t 4) (.t 8)⟩, ⟨some 5, none, .mov (.c (.bool true))⟩]) <|
  .seq (.seq (.ops [⟨some 9, none, .mov (.t 0)⟩, ⟨some 10, none, .lenS (.t 9)⟩, ⟨some 11, none, .mov (.c (.int .i64 0))⟩]) <|
  .block 0 (.loop (.seq (.ops [⟨some 12, none, .bin .num .lss (.t 11) (.t 10)⟩]) <|
    .seq (.cond (.t 12) (.skip) (.exit 0)) <|
    .seq (.block 1 (.seq (.ops [⟨some 13, none, .idxAddrS 3 (.t 9) (.t 11)⟩, ⟨some 14, none, .loadN 3 (.t 13)⟩, ⟨some 7, none, .alloc [(.int .i64 0), (.int .i64 0), (.int .i64 0)]⟩, ⟨none, none, .storeN 3 (.t 7) (.t 14)⟩]) <|
     .seq (.ops [⟨some 15, none, .mov (.t 5)⟩]) <|
     .cond (.t 15) (.ops [⟨some 17, none, .loadN 3 (.t 4)⟩, ⟨some 18, none, .loadN 3 (.t 7)⟩, ⟨some 19, none, .call .pure 61 [(.t 17), (.t 18)]⟩, ⟨some 16, none, .mov (.t 19)⟩, ⟨some 20, none, .extract 0 (.t 16)⟩, ⟨some 21, none, .extract 1 (.t 16)⟩, ⟨none, none, .storeN 3 (.t 4) (.t 20)⟩, ⟨some 5, none, .mov (.t 21)⟩]) (.skip))) <|
    .ops [⟨some 22, none, .bin .num .add (.t 11) (.c (.int .i64 1))⟩, ⟨some 11, none, .mov (.t 22)⟩]))) <|
  .seq (.ops [⟨some 23, none, .loadN 3 (.t 4)⟩, ⟨some 24, none, .mov (.t 5)⟩, ⟨none, none, .storeN 3 (.t 2) (.t 23)⟩, ⟨some 3, none, .mov (.t 24)⟩]) <|
  .ret
def v47 : VFunc := ⟨25, [.cellN 3 2, .tmp 3], c47⟩
/-- berthing/berthingref01.Of -/
def c52 : VCode :=
  .seq (.ops [⟨some 1, none, .box (.t 0)⟩, ⟨some 2, none, .alloc [(.int .u64 0), (.int .u64 0), (.int .u64 0), (.int .u64 0), (.int .u64 0), (.int .u64 0), (.int .u64 0), (.int .u64 0), (.int .u64 0), (.int .u64 0), (.int .u64 0), (.int .u64 0), (.int .u64 0), (.int .u64 0), (.int .u64 0), (.int .u64 0), (.int .u64 0), (.int .u64 0), (.int .u64 0), (.int .u64 0)]⟩]) <|
  .seq (.ops [⟨some 3, none, .alloc [(.int .u64 0), (.int .u64 0), (.int .u64 0), (.int .u64 0), (.int .u64 0), (.int .u64 0), (.int .u64 0), (.int .u64 0), (.int .u64 0), (.int .u64 0), (.int .u64 0), (.int .u64 0), (.int .u64 0), (.int .u64 0), (.int .u64 0), (.int .u64 0), (.int .u64 0), (.int .u64 0), (.int .u64 0), (.int .u64 0)]⟩]) <|
  .seq (.seq (.ops [⟨some 4, none, .mov (.c (.int .i64 0))⟩]) <|
  .block 0 (.loop (.seq (.seq (.ops [⟨some 5, none, .mov (.t 4)⟩, ⟨some 6, none, .bin .num .lss (.t 5) (.c (.int .i64 4))⟩]) <|
    .cond (.t 6) (.skip) (.exit 0)) <|
    .seq (.block 1 (.seq (.ops [⟨some 9, none, .mov (.t 4)⟩, ⟨some 10, none, .fieldAddr 1 (.t 1)⟩, ⟨some 11, none, .load1 (.t 10)⟩, ⟨some 12, none, .bin .num .rem (.t 11) (.c (.int .u64 65536))⟩, ⟨some 13, none, .idxAddrA 20 1 (.t 3) (.t 9)⟩, ⟨none, none, .store1 (.t 13) (.t 12)⟩]) <|
     .seq (.ops [⟨some 14, none, .mov (.t 4)⟩, ⟨some 15, none, .bin .num .add (.c (.int .i64 4)) (.t 14)⟩, ⟨some 16, none, .fieldAddr 0 (.t 1)⟩, ⟨some 17, none, .load1 (.t 16)⟩, ⟨some 18, none, .bin .num .rem (.t 17) (.c (.int .u64 65536))⟩, ⟨some 19, none, .idxAddrA 20 1 (.t 3) (.t 15)⟩, ⟨none, none, .store1 (.t 19) (.t 18)⟩]) <|
     .seq (.ops [⟨some 20, none, .fieldAddr 1 (.t 1)⟩, ⟨some 21, none, .load1 (.t 20)⟩, ⟨some 22, none, .bin .num .quo (.t 21) (.c (.int .u64 65536))⟩, ⟨some 23, none, .fieldAddr 1 (.t 1)⟩, ⟨none, none, .store1 (.t 23) (.t 22)⟩]) <|
     .ops [⟨some 24, none, .fieldAddr 0 (.t 1)⟩, ⟨some 25, none, .load1 (.t 24)⟩, ⟨some 26, none, .bin .num .quo (.t 25) (.c (.int .u64 65536))⟩, ⟨some 27, none, .fieldAddr 0 (.t 1)⟩, ⟨none, none, .store1 (.t 27) (.t 26)⟩])) <|
    .ops [⟨some 7, none, .mov (.t 4)⟩, ⟨some 8, none, .bin .num .add (.t 7) (.c (.int .i64 1))⟩, ⟨some 4, none, .mov (.t 8)⟩]))) <|
  .seq (.ops [⟨some 28, none, .loadN 20 (.t 3)⟩, ⟨none, none, .storeN 20 (.t 2) (.t 28)⟩]) <|
  .ret
def v52 : VFunc := ⟨29, [.cellN 20 2], c52⟩
/-- (berthing/berthingref01.Digits).Plus -/
def c53 : VCode :=
  .seq (.ops [⟨some 2, none, .box (.t 0)⟩, ⟨some 3, none, .box (.t 1)⟩, ⟨some 4, none, .alloc [(.int .u64 0), (.int .u64 0), (.int .u64 0), (.int .u64 0), (.int .u64 0), (.int .u64 0), (.int .u64 0), (.int .u64 0), (.int .u64 0), (.int .u64 0), (.int .u64 0), (.int .u64 0), (.int .u64 0), (.int .u64 0), (.int .u64 0), (.int .u64 0), (.int .u64 0), (.int .u64 0), (.int .u64 0), (.int .u64 0)]⟩]) <|
  .seq (.ops [⟨some 5, none, .mov (.c (.int .u64 0))⟩]) <|
  .seq (.seq (.ops [⟨some 6, none, .mov (.c (.int .i64 0))⟩]) <|
  .block 0 (.loop (.seq (.seq (.ops [⟨some 7, none, .mov (.t 6)⟩, ⟨some 8, none, .bin .num .lss (.t 7) (.c (.int .i64 20))⟩]) <|
    .cond (.t 8) (.skip) (.exit 0)) <|
    .seq (.block 1 (.seq (.ops [⟨some 11, none, .mov (.t 5)⟩, ⟨some 12, none, .mov (.t 6)⟩, ⟨some 13, none, .idxAddrA 20 1 (.t 2) (.t 12)⟩, ⟨some 14, none, .load1 (.t 13)⟩, ⟨some 15, none, .bin .num .add (.t 11) (.t 14)⟩, ⟨some 16, none, .mov (.t 6)⟩, ⟨some 17, none, .idxAddrA 20 1 (.t 3) (.t 16)⟩, ⟨some 18, none, .load1 (.t 17)⟩, ⟨some 19, none, .bin .num .add (.t 15) (.t 18)⟩, ⟨some 5, none, .mov (.t 19)⟩]) <|
     .seq (.ops [⟨some 20, none, .mov (.t 6)⟩, ⟨some 21, none, .mov (.t 5)⟩, ⟨some 22, none, .bin .num .rem (.t 21) (.c (.int .u64 65536))⟩, ⟨some 23, none, .idxAddrA 20 1 (.t 2) (.t 20)⟩, ⟨none, none, .store1 (.t 23) (.t 22)⟩]) <|
     .ops [⟨some 24, none, .mov (.t 5)⟩, ⟨some 25, none, .bin .num .quo (.t 24) (.c (.int .u64 65536))⟩, ⟨some 5, none, .mov (.t 25)⟩])) <|
    .ops [⟨some 9, none, .mov (.t 6)⟩, ⟨some 10, none, .bin .num .add (.t 9) (.c (.int .i64 1))⟩, ⟨some 6, none, .mov (.t 10)⟩]))) <|
  .seq (.ops [⟨some 26, none, .loadN 20 (.t 2)⟩, ⟨none, none, .storeN 20 (.t 4) (.t 26)⟩]) <|
  .ret
def v53 : VFunc := ⟨27, [.cellN 20 4], c53⟩
/-- (berthing/berthingref01.Digits).Wide -/
def c54 : VCode :=
  .seq (.ops [⟨some 1, none, .box (.t 0)⟩, ⟨some 2, none, .alloc [(.int .u64 0), (.int .u64 0)]⟩, ⟨some 3, none, .mov (.c (.bool false))⟩]) <|
  .seq (.ops [⟨some 4, none, .alloc [(.int .u64 0), (.int .u64 0)]⟩]) <|
  .seq (.seq (.ops [⟨some 5, none, .mov (.c (.int .i64 3))⟩]) <|
  .block 0 (.loop (.seq (.seq (.ops [⟨some 7, none, .mov (.t 5)⟩, ⟨some 8, none, .bin .num .geq (.t 7) (.c (.int .i64 0))⟩]) <|
    .cond (.t 8) (.skip) (.exit 0)) <|
    .seq (.block 1 (.seq (.ops [⟨some 11, none, .fieldAddr 1 (.t 4)⟩, ⟨some 12, none, .load1 (.t 11)⟩, ⟨some 13, none, .bin .num .mul (.t 12) (.c (.int .u64 65536))⟩, ⟨some 14, none, .mov (.t 5)⟩, ⟨some 15, none, .idxAddrA 20 1 (.t 1) (.t 14)⟩, ⟨some 16, none, .load1 (.t 15)⟩, ⟨some 17, none, .bin .num .add (.t 13) (.t 16)⟩, ⟨some 18, none, .fieldAddr 1 (.t 4)⟩, ⟨none, none, .store1 (.t 18) (.t 17)⟩]) <|
     .ops [⟨some 19, none, .fieldAddr 0 (.t 4)⟩, ⟨some 20, none, .load1 (.t 19)⟩, ⟨some 21, none, .bin .num .mul (.t 20) (.c (.int .u64 65536))⟩, ⟨some 22, none, .mov (.t 5)⟩, ⟨some 23, none, .bin .num .add (.c (.int .i64 4)) (.t 22)⟩, ⟨some 24, none, .idxAddrA 20 1 (.t 1) (.t 23)⟩, ⟨some 25, none, .load1 (.t 24)⟩, ⟨some 26, none, .bin .num .add (.t 21) (.t 25)⟩, ⟨some 27, none, .fieldAddr 0 (.t 4)⟩, ⟨none, none, .store1 (.t 27) (.t 26)⟩])) <|
    .ops [⟨some 9, none, .mov (.t 5)⟩, ⟨some 10, none, .bin .num .sub (.t 9) (.c (.int .i64 1))⟩, ⟨some 5, none, .mov (.t 10)⟩]))) <|
  .seq (.seq (.ops [⟨some 6, none, .mov (.c (.int .i64 8))⟩]) <|
  .block 2 (.loop (.seq (.seq (.ops [⟨some 28, none, .mov (.t 6)⟩, ⟨some 29, none, .bin .num .lss (.t 28) (.c (.int .i64 20))⟩]) <|
    .cond (.t 29) (.skip) (.exit 2)) <|
    .seq (.block 3 (.seq (.ops [⟨some 32, none, .mov (.t 6)⟩, ⟨some 33, none, .idxAddrA 20 1 (.t 1) (.t 32)⟩, ⟨some 34, none, .load1 (.t 33)⟩, ⟨some 35, none, .bin .num .neq (.t 34) (.c (.int .u64 0))⟩]) <|
     .cond (.t 35) (.seq (.ops [⟨some 36, none, .build [(.int .u64 0), (.int .u64 0)] []⟩, ⟨none, none, .storeN 2 (.t 2) (.t 36)⟩, ⟨some 3, none, .mov (.c (.bool false))⟩]) <|
      .ret) (.skip))) <|
    .ops [⟨some 30, none, .mov (.t 6)⟩, ⟨some 31, none, .bin .num .add (.t 30) (.c (.int .i64 1))⟩, ⟨some 6, none, .mov (.t 31)⟩]))) <|
  .seq (.ops [⟨some 37, none, .loadN 2 (.t 4)⟩, ⟨none, none, .storeN 2 (.t 2) (.t 37)⟩, ⟨some 3, none, .mov (.c (.bool true))⟩]) <|
  .ret
def v54 : VFunc := ⟨38, [.cellN 2 2, .tmp 3], c54⟩
/-- berthing/berthingref01.Text -/
def c55 : VCode :=
  .seq (.ops [⟨some 1, none, .box (.t 0)⟩, ⟨some 2, none, .mov (.c (.str ⟨#[]⟩))⟩]) <|
  .seq (.ops [⟨some 7, none, .loadN 2 (.t 1)⟩, ⟨some 8, none, .call .pure 52 [(.t 7)]⟩, ⟨some 3, none, .alloc [(.int .u64 0), (.int .u64 0), (.int .u64 0), (.int .u64 0), (.int .u64 0), (.int .u64 0), (.int .u64 0), (.int .u64 0), (.int .u64 0), (.int .u64 0), (.int .u64 0), (.int .u64 0), (.int .u64 0), (.int .u64 0), (.int .u64 0), (.int .u64 0), (.int .u64 0), (.int .u64 0), (.int .u64 0), (.int .u64 0)]⟩, ⟨none, none, .storeN 20 (.t 3) (.t 8)⟩]) <|
  .seq (.ops [⟨some 4, none, .mov (.c (.str ⟨#[]⟩))⟩]) <|
  .seq (.block 0 (.loop (.seq (.seq (.ops [⟨some 9, none, .mov (.t 4)⟩, ⟨some 10, none, .bin .num .eql (.t 9) (.c (.str ⟨#[]⟩))⟩, ⟨some 11, none, .mov (.t 10)⟩, ⟨some 12, some (11, false), .loadN 20 (.t 3)⟩, ⟨some 13, some (11, false), .build [(.int .u64 0), (.int .u64 0), (.int .u64 0), (.int .u64 0), (.int .u64 0), (.int .u64 0), (.int .u64 0), (.int .u64 0), (.int .u64 0), (.int .u64 0), (.int .u64 0), (.int .u64 0), (.int .u64 0), (.int .u64 0), (.int .u64 0), (.int .u64 0), (.int .u64 0), (.int .u64 0), (.int .u64 0), (.int .u64 0)] []⟩, ⟨some 14, some (11, false), .bin (.agg [.i, .i, .i, .i, .i, .i, .i, .i, .i, .i, .i, .i, .i, .i, .i, .i, .i, .i, .i, .i]) .neq (.t 12) (.t 13)⟩, ⟨some 15, none, .pick (.t 11) (.c (.bool true)) (.t 14)⟩]) <|
    .cond (.t 15) (.skip) (.exit 0)) <|
    .block 1 (.seq (.ops [⟨some 5, none, .mov (.c (.int .u64 0))⟩]) <|
     .seq (.seq (.ops [⟨some 6, none, .mov (.c (.int .i64 19))⟩]) <|
     .block 2 (.loop (.seq (.seq (.ops [⟨some 16, none, .mov (.t 6)⟩, ⟨some 17, none, .bin .num .geq (.t 16) (.c (.int .i64 0))⟩]) <|
       .cond (.t 17) (.skip) (.exit 2)) <|
       .seq (.block 3 (.seq (.ops [⟨some 20, none, .mov (.t 5)⟩, ⟨some 21, none, .bin .num .mul (.t 20) (.c (.int .u64 65536))⟩, ⟨some 22, none, .mov (.t 6)⟩, ⟨some 23, none, .idxAddrA 20 1 (.t 3) (.t 22)⟩, ⟨some 24, none, .load1 (.t 23)⟩, ⟨some 25, none, .bin .num .add (.t 21) (.t 24)⟩, ⟨some 5, none, .mov (.t 25)⟩]) <|
        .seq (.ops [⟨some 26, none, .mov (.t 6)⟩, ⟨some 27, none, .mov (.t 5)⟩, ⟨some 28, none, .bin .num .quo (.t 27) (.c (.int .u64 10))⟩, ⟨some 29, none, .idxAddrA 20 1 (.t 3) (.t 26)⟩, ⟨none, none, .store1 (.t 29) (.t 28)⟩]) <|
        .ops [⟨some 30, none, .mov (.t 5)⟩, ⟨some 31, none, .bin .num .rem (.t 30) (.c (.int .u64 10))⟩, ⟨some 5, none, .mov (.t 31)⟩])) <|
       .ops [⟨some 18, none, .mov (.t 6)⟩, ⟨some 19, none, .bin .num .sub (.t 18) (.c (.int .i64 1))⟩, ⟨some 6, none, .mov (.t 19)⟩]))) <|
     .ops [⟨some 32, none, .mov (.t 5)⟩, ⟨some 33, none, .bin .num .add (.c (.int .u64 48)) (.t 32)⟩, ⟨some 34, none, .conv .u8 (.t 33)⟩, ⟨some 35, none, .buildSlice false 1 1 [(.int .u8 0)] [(0, 1, (.t 34))]⟩, ⟨some 36, none, .strOfP (.t 35)⟩, ⟨some 37, none, .mov (.t 4)⟩, ⟨some 38, none, .bin .num .add (.t 36) (.t 37)⟩, ⟨some 4, none, .mov (.t 38)⟩])))) <|
  .seq (.ops [⟨some 39, none, .mov (.t 4)⟩, ⟨some 2, none, .mov (.t 39)⟩]) <|
  .ret
def v55 : VFunc := ⟨40, [.tmp 2], c55⟩
/-- berthing/vector.parts -/
def c56 : VCode :=
  .seq (.ops [⟨some 1, none, .box (.t 0)⟩, ⟨some 2, none, .alloc [(.int .i64 0), (.int .i64 0), (.int .i64 0)]⟩]) <|
  .seq (.ops [⟨some 3, none, .fieldAddr 0 (.t 1)⟩, ⟨some 4, none, .load1 (.t 3)⟩, ⟨some 5, none, .fieldAddr 1 (.t 1)⟩, ⟨some 6, none, .load1 (.t 5)⟩, ⟨some 7, none, .fieldAddr 2 (.t 1)⟩, ⟨some 8, none, .load1 (.t 7)⟩, ⟨some 9, none, .build [(.int .i64 0), (.int .i64 0), (.int .i64 0)] [(0, 1, (.t 4)), (1, 1, (.t 6)), (2, 1, (.t 8))]⟩, ⟨none, none, .storeN 3 (.t 2) (.t 9)⟩]) <|
  .ret
def v56 : VFunc := ⟨10, [.cellN 3 2], c56⟩
/-- berthing/vector.fits -/
def c57 : VCode :=
  .seq (.ops [⟨some 4, none, .mov (.c (.bool false))⟩]) <|
  .seq (.seq (.ops [⟨some 5, none, .mov (.t 0)⟩, ⟨some 6, none, .bin .num .eql (.t 5) (.c (.int .i64 0))⟩]) <|
  .cond (.t 6) (.seq (.ops [⟨some 7, none, .mov (.t 1)⟩, ⟨some 8, none, .bin .num .geq (.t 7) (.c (.int .i64 0))⟩, ⟨some 9, none, .mov (.t 8)⟩, ⟨some 10, some (9, true), .mov (.t 1)⟩, ⟨some 11, some (9, true), .bin .num .leq (.t 10) (.c (.int .i64 1099511627776))⟩, ⟨some 12, none, .pick (.t 9) (.t 11) (.c (.bool false))⟩, ⟨some 4, none, .mov (.t 12)⟩]) <|
   .ret) (.skip)) <|
  .seq (.ops [⟨some 13, none, .mov (.t 1)⟩, ⟨some 14, none, .bin .num .geq (.t 13) (.c (.int .i64 0))⟩, ⟨some 15, none, .mov (.t 14)⟩, ⟨some 16, some (15, true), .mov (.t 1)⟩, ⟨some 17, some (15, true), .bin .num .leq (.t 16) (.c (.int .i64 1125899906842624))⟩, ⟨some 18, none, .pick (.t 15) (.t 17) (.c (.bool false))⟩, ⟨some 4, none, .mov (.t 18)⟩]) <|
  .ret
def v57 : VFunc := ⟨19, [.tmp 4], c57⟩
/-- slices.IndexFunc[[]berthing/api.Container,berthing/api.Container] -/
def c58 : VCode :=
  .seq (.ops [⟨some 4, none, .mov (.c (.int .i64 0))⟩]) <|
  .seq (.seq (.ops [⟨some 6, none, .mov (.t 0)⟩, ⟨some 7, none, .lenS (.t 6)⟩, ⟨some 8, none, .mov (.c (.int .i64 0))⟩]) <|
  .block 0 (.loop (.seq (.ops [⟨some 9, none, .bin .num .lss (.t 8) (.t 7)⟩]) <|
    .seq (.cond (.t 9) (.skip) (.exit 0)) <|
    .seq (.block 1 (.seq (.ops [⟨some 10, none, .mov (.t 8)⟩, ⟨some 5, none, .mov (.t 10)⟩]) <|
     .seq (.ops [⟨some 11, none, .mov (.t 1)⟩, ⟨some 12, none, .mov (.t 0)⟩, ⟨some 13, none, .mov (.t 5)⟩, ⟨some 14, none, .idxAddrS 10 (.t 12) (.t 13)⟩, ⟨some 15, none, .loadN 10 (.t 14)⟩, ⟨some 16, none, .callV (.t 11) [(.t 15)]⟩]) <|
     .cond (.t 16) (.seq (.ops [⟨some 17, none, .mov (.t 5)⟩, ⟨some 4, none, .mov (.t 17)⟩]) <|
      .ret) (.skip))) <|
    .ops [⟨some 18, none, .bin .num .add (.t 8) (.c (.int .i64 1))⟩, ⟨some 8, none, .mov (.t 18)⟩]))) <|
  .seq (.ops [⟨some 4, none, .mov (.c (.int .i64 (-1)))⟩]) <|
  .ret
def v58 : VFunc := ⟨19, [.tmp 4], c58⟩
/-- berthing/spec.Find$1 -/
def c59 : VCode :=
  .seq (.ops [⟨some 2, none, .box (.t 0)⟩, ⟨some 3, none, .mov (.c (.bool false))⟩]) <|
  .seq (.ops [⟨some 4, none, .fieldAddr 0 (.t 2)⟩, ⟨some 5, none, .load1 (.t 4)⟩, ⟨some 6, none, .load1 (.t 1)⟩, ⟨some 7, none, .bin .num .eql (.t 5) (.t 6)⟩, ⟨some 3, none, .mov (.t 7)⟩]) <|
  .ret
def v59 : VFunc := ⟨8, [.tmp 3], c59⟩
/-- berthing/vector.Add -/
def c60 : VCode :=
  .seq (.ops [⟨some 2, none, .box (.t 0)⟩, ⟨some 3, none, .box (.t 1)⟩, ⟨some 4, none, .alloc [(.int .i64 0), (.int .i64 0), (.int .i64 0)]⟩, ⟨some 5, none, .mov (.c (.bool false))⟩]) <|
  .seq (.ops [⟨some 6, none, .loadN 3 (.t 2)⟩, ⟨some 7, none, .loadN 3 (.t 3)⟩, ⟨some 8, none, .call .pure 65 [(.t 6), (.t 7), (.f 66)]⟩, ⟨some 9, none, .extract 0 (.t 8)⟩, ⟨some 10, none, .extract 1 (.t 8)⟩, ⟨none, none, .storeN 3 (.t 4) (.t 9)⟩, ⟨some 5, none, .mov (.t 10)⟩]) <|
  .ret
def v60 : VFunc := ⟨11, [.cellN 3 4, .tmp 5], c60⟩
/-- berthing/berthingref04.Add -/
def c61 : VCode :=
  .seq (.ops [⟨some 2, none, .box (.t 0)⟩, ⟨some 3, none, .box (.t 1)⟩, ⟨some 4, none, .alloc [(.int .i64 0), (.int .i64 0), (.int .i64 0)]⟩, ⟨some 5, none, .mov (.c (.bool false))⟩]) <|
  .seq (.seq (.ops [⟨some 7, none, .loadN 3 (.t 2)⟩, ⟨some 8, none, .call .pure 43 [(.t 7)]⟩, ⟨some 9, none, .un .not (.t 8)⟩, ⟨some 10, none, .mov (.t 9)⟩, ⟨some 11, some (10, false), .loadN 3 (.t 3)⟩, ⟨some 12, some (10, false), .call .pure 43 [(.t 11)]⟩, ⟨some 13, some (10, false), .un .not (.t 12)⟩, ⟨some 14, none, .pick (.t 10) (.c (.bool true)) (.t 13)⟩]) <|
  .cond (.t 14) (.seq (.ops [⟨some 15, none, .build [(.int .i64 0), (.int .i64 0), (.int .i64 0)] []⟩, ⟨none, none, .storeN 3 (.t 4) (.t 15)⟩, ⟨some 5, none, .mov (.c (.bool false))⟩]) <|
   .ret) (.skip)) <|
  .seq (.ops [⟨some 16, none, .fieldAddr 0 (.t 2)⟩, ⟨some 17, none, .load1 (.t 16)⟩, ⟨some 18, none, .fieldAddr 0 (.t 3)⟩, ⟨some 19, none, .load1 (.t 18)⟩, ⟨some 20, none, .bin .num .add (.t 17) (.t 19)⟩, ⟨some 21, none, .fieldAddr 1 (.t 2)⟩, ⟨some 22, none, .load1 (.t 21)⟩, ⟨some 23, none, .fieldAddr 1 (.t 3)⟩, ⟨some 24, none, .load1 (.t 23)⟩, ⟨some 25, none, .bin .num .add (.t 22) (.t 24)⟩, ⟨some 26, none, .fieldAddr 2 (.t 2)⟩, ⟨some 27, none, .load1 (.t 26)⟩, ⟨some 28, none, .fieldAddr 2 (.t 3)⟩, ⟨some 29, none, .load1 (.t 28)⟩, ⟨some 30, none, .bin .num .add (.t 27) (.t 29)⟩, ⟨some 31, none, .build [(.int .i64 0), (.int .i64 0), (.int .i64 0)] [(0, 1, (.t 20)), (1, 1, (.t 25)), (2, 1, (.t 30))]⟩, ⟨some 6, none, .alloc [(.int .i64 0), (.int .i64 0), (.int .i64 0)]⟩, ⟨none, none, .storeN 3 (.t 6) (.t 31)⟩]) <|
  .seq (.seq (.ops [⟨some 32, none, .loadN 3 (.t 6)⟩, ⟨some 33, none, .call .pure 43 [(.t 32)]⟩, ⟨some 34, none, .un .not (.t 33)⟩]) <|
  .cond (.t 34) (.seq (.ops [⟨some 35, none, .build [(.int .i64 0), (.int .i64 0), (.int .i64 0)] []⟩, ⟨none, none, .storeN 3 (.t 4) (.t 35)⟩, ⟨some 5, none, .mov (.c (.bool false))⟩]) <|
   .ret) (.skip)) <|
  .seq (.ops [⟨some 36, none, .loadN 3 (.t 6)⟩, ⟨none, none, .storeN 3 (.t 4) (.t 36)⟩, ⟨some 5, none, .mov (.c (.bool true))⟩]) <|
  .ret
def v61 : VFunc := ⟨37, [.cellN 3 4, .tmp 5], c61⟩
/-- berthing/vector.both -/
def c65 : VCode :=
  .seq (.ops [⟨some 3, none, .box (.t 0)⟩, ⟨some 4, none, .box (.t 1)⟩, ⟨some 6, none, .alloc [(.int .i64 0), (.int .i64 0), (.int .i64 0)]⟩, ⟨some 7, none, .mov (.c (.bool false))⟩]) <|
  .seq (.seq (.ops [⟨some 12, none, .loadN 3 (.t 3)⟩, ⟨some 13, none, .call .pure 41 [(.t 12)]⟩, ⟨some 14, none, .un .not (.t 13)⟩, ⟨some 15, none, .mov (.t 14)⟩, ⟨some 16, some (15, false), .loadN 3 (.t 4)⟩, ⟨some 17, some (15, false), .call .pure 41 [(.t 16)]⟩, ⟨some 18, some (15, false), .un .not (.t 17)⟩, ⟨some 19, none, .pick (.t 15) (.c (.bool true)) (.t 18)⟩]) <|
  .cond (.t 19) (.seq (.ops [⟨some 20, none, .build [(.int .i64 0), (.int .i64 0), (.int .i64 0)] []⟩, ⟨none, none, .storeN 3 (.t 6) (.t 20)⟩, ⟨some 7, none, .mov (.c (.bool false))⟩]) <|
   .ret) (.skip)) <|
  .seq (.draw [(8, .z [(.int .i64 0), (.int .i64 0), (.int .i64 0)]), (9, .z [(.int .i64 0), (.int .i64 0), (.int .i64 0)])] [⟨some 21, none, .loadN 3 (.t 3)⟩, ⟨some 22, none, .call .pure 56 [(.t 21)]⟩, ⟨some 23, none, .loadN 3 (.t 4)⟩, ⟨some 24, none, .call .pure 56 [(.t 23)]⟩, ⟨none, none, .idle⟩, ⟨none, none, .idle⟩, ⟨none, none, .storeN 3 (.t 8) (.t 22)⟩, ⟨none, none, .storeN 3 (.t 9) (.t 24)⟩] []) <|
  .seq (.seq (.ops [⟨some 25, none, .mov (.c (.int .i64 0))⟩]) <|
  .block 0 (.loop (.seq (.ops [⟨some 26, none, .bin .num .lss (.t 25) (.c (.int .i64 3))⟩]) <|
    .seq (.cond (.t 26) (.skip) (.exit 0)) <|
    .seq (.block 1 (.seq (.ops [⟨some 27, none, .mov (.t 25)⟩, ⟨some 10, none, .mov (.t 27)⟩]) <|
     .ops [⟨some 29, none, .mov (.t 10)⟩, ⟨some 30, none, .mov (.t 2)⟩, ⟨some 31, none, .mov (.t 10)⟩, ⟨some 32, none, .idxAddrA 3 1 (.t 8) (.t 31)⟩, ⟨some 33, none, .load1 (.t 32)⟩, ⟨some 34, none, .mov (.t 10)⟩, ⟨some 35, none, .idxAddrA 3 1 (.t 9) (.t 34)⟩, ⟨some 36, none, .load1 (.t 35)⟩, ⟨some 37, none, .callV (.t 30) [(.t 33), (.t 36)]⟩, ⟨some 28, none, .mov (.t 37)⟩, ⟨some 38, none, .extract 0 (.t 28)⟩, ⟨some 39, none, .extract 1 (.t 28)⟩, ⟨some 40, none, .idxAddrA 3 1 (.t 8) (.t 29)⟩, ⟨none, none, .store1 (.t 40) (.t 38)⟩])) <|
    .ops [⟨some 41, none, .bin .num .add (.t 25) (.c (.int .i64 1))⟩, ⟨some 25, none, .mov (.t 41)⟩]))) <|
  .seq (.seq (.ops [⟨some 42, none, .loadN 3 (.t 8)⟩, ⟨some 43, none, .call .pure 73 [(.t 42)]⟩, ⟨some 11, none, .alloc [(.int .i64 0), (.int .i64 0), (.int .i64 0)]⟩, ⟨none, none, .storeN 3 (.t 11) (.t 43)⟩]) <|
  .seq (.ops [⟨some 44, none, .loadN 3 (.t 11)⟩, ⟨some 45, none, .call .pure 41 [(.t 44)]⟩]) <|
  .cond (.t 45) (.seq (.ops [⟨some 46, none, .loadN 3 (.t 11)⟩, ⟨none, none, .storeN 3 (.t 6) (.t 46)⟩, ⟨some 7, none, .mov (.c (.bool true))⟩]) <|
   .ret) (.skip)) <|
  .seq (.ops [⟨some 47, none, .build [(.int .i64 0), (.int .i64 0), (.int .i64 0)] []⟩, ⟨none, none, .storeN 3 (.t 6) (.t 47)⟩, ⟨some 7, none, .mov (.c (.bool false))⟩]) <|
  .ret
def v65 : VFunc := ⟨48, [.cellN 3 6, .tmp 7], c65⟩
/-- berthing/checked.Add -/
def c66 : VCode :=
  .seq (.ops [⟨some 4, none, .mov (.c (.int .i64 0))⟩, ⟨some 5, none, .mov (.c (.bool false))⟩]) <|
  .seq (.ops [⟨some 7, none, .mov (.t 0)⟩, ⟨some 8, none, .conv .u64 (.t 7)⟩, ⟨some 9, none, .mov (.t 1)⟩, ⟨some 10, none, .conv .u64 (.t 9)⟩, ⟨some 11, none, .bin .num .add (.t 8) (.t 10)⟩, ⟨some 12, none, .conv .i64 (.t 11)⟩, ⟨some 6, none, .mov (.t 12)⟩]) <|
  .seq (.seq (.ops [⟨some 13, none, .mov (.t 0)⟩, ⟨some 14, none, .mov (.t 6)⟩, ⟨some 15, none, .bin .num .xor (.t 13) (.t 14)⟩, ⟨some 16, none, .mov (.t 1)⟩, ⟨some 17, none, .mov (.t 6)⟩, ⟨some 18, none, .bin .num .xor (.t 16) (.t 17)⟩, ⟨some 19, none, .bin .num .and (.t 15) (.t 18)⟩, ⟨some 20, none, .bin .num .lss (.t 19) (.c (.int .i64 0))⟩]) <|
  .cond (.t 20) (.seq (.ops [⟨some 4, none, .mov (.c (.int .i64 0))⟩, ⟨some 5, none, .mov (.c (.bool false))⟩]) <|
   .ret) (.skip)) <|
  .seq (.ops [⟨some 21, none, .mov (.t 6)⟩, ⟨some 4, none, .mov (.t 21)⟩, ⟨some 5, none, .mov (.c (.bool true))⟩]) <|
  .ret
def v66 : VFunc := ⟨22, [.tmp 4, .tmp 5], c66⟩
/-- berthing/vector.of -/
def c73 : VCode :=
  .seq (.ops [⟨some 1, none, .box (.t 0)⟩, ⟨some 2, none, .alloc [(.int .i64 0), (.int .i64 0), (.int .i64 0)]⟩]) <|
  .seq (.ops [⟨some 3, none, .idxAddrA 3 1 (.t 1) (.c (.int .i64 0))⟩, ⟨some 4, none, .load1 (.t 3)⟩, ⟨some 5, none, .idxAddrA 3 1 (.t 1) (.c (.int .i64 1))⟩, ⟨some 6, none, .load1 (.t 5)⟩, ⟨some 7, none, .idxAddrA 3 1 (.t 1) (.c (.int .i64 2))⟩, ⟨some 8, none, .load1 (.t 7)⟩, ⟨some 9, none, .build [(.int .i64 0), (.int .i64 0), (.int .i64 0)] [(0, 1, (.t 4)), (1, 1, (.t 6)), (2, 1, (.t 8))]⟩, ⟨none, none, .storeN 3 (.t 2) (.t 9)⟩]) <|
  .ret
def v73 : VFunc := ⟨10, [.cellN 3 2], c73⟩
def ft : FuncId → Option VFunc := fun f => bif Nat.beq f 3 then some v3 else bif Nat.beq f 4 then some v4 else bif Nat.beq f 5 then some v5 else bif Nat.beq f 6 then some v6 else bif Nat.beq f 7 then some v7 else bif Nat.beq f 8 then some v8 else bif Nat.beq f 9 then some v9 else bif Nat.beq f 10 then some v10 else bif Nat.beq f 11 then some v11 else bif Nat.beq f 12 then some v12 else bif Nat.beq f 13 then some v13 else bif Nat.beq f 14 then some v14 else bif Nat.beq f 15 then some v15 else bif Nat.beq f 16 then some v16 else bif Nat.beq f 17 then some v17 else bif Nat.beq f 18 then some v18 else bif Nat.beq f 19 then some v19 else bif Nat.beq f 20 then some v20 else bif Nat.beq f 21 then some v21 else bif Nat.beq f 22 then some v22 else bif Nat.beq f 23 then some v23 else bif Nat.beq f 24 then some v24 else bif Nat.beq f 25 then some v25 else bif Nat.beq f 26 then some v26 else bif Nat.beq f 27 then some v27 else bif Nat.beq f 28 then some v28 else bif Nat.beq f 29 then some v29 else bif Nat.beq f 30 then some v30 else bif Nat.beq f 31 then some v31 else bif Nat.beq f 32 then some v32 else bif Nat.beq f 33 then some v33 else bif Nat.beq f 34 then some v34 else bif Nat.beq f 35 then some v35 else bif Nat.beq f 38 then some v38 else bif Nat.beq f 39 then some v39 else bif Nat.beq f 40 then some v40 else bif Nat.beq f 41 then some v41 else bif Nat.beq f 42 then some v42 else bif Nat.beq f 43 then some v43 else bif Nat.beq f 44 then some v44 else bif Nat.beq f 45 then some v45 else bif Nat.beq f 46 then some v46 else bif Nat.beq f 47 then some v47 else bif Nat.beq f 52 then some v52 else bif Nat.beq f 53 then some v53 else bif Nat.beq f 54 then some v54 else bif Nat.beq f 55 then some v55 else bif Nat.beq f 56 then some v56 else bif Nat.beq f 57 then some v57 else bif Nat.beq f 58 then some v58 else bif Nat.beq f 59 then some v59 else bif Nat.beq f 60 then some v60 else bif Nat.beq f 61 then some v61 else bif Nat.beq f 65 then some v65 else bif Nat.beq f 66 then some v66 else bif Nat.beq f 73 then some v73 else none
def env : Env := ⟨ft, md, pr⟩
theorem is3 : FnComp ⟨Tryd.prog, md, gi, gn⟩ 3 v3 := ⟨Tryd.f3, _, fun t => ⟨false, md⟩, Tryd.func3, rfl, by kernel_rfl, by kernel_rfl, by kernel_rfl⟩
theorem is4 : FnComp ⟨Tryd.prog, md, gi, gn⟩ 4 v4 := ⟨Tryd.f4, _, fun t => ⟨false, md⟩, Tryd.func4, rfl, by kernel_rfl, by kernel_rfl, by kernel_rfl⟩
theorem is5 : FnComp ⟨Tryd.prog, md, gi, gn⟩ 5 v5 := ⟨Tryd.f5, _, fun t => ⟨false, md⟩, Tryd.func5, rfl, by kernel_rfl, by kernel_rfl, by kernel_rfl⟩
theorem is6 : FnComp ⟨Tryd.prog, md, gi, gn⟩ 6 v6 := ⟨Tryd.f6, _, fun t => ⟨false, md⟩, Tryd.func6, rfl, by kernel_rfl, by kernel_rfl, by kernel_rfl⟩
theorem is7 : FnComp ⟨Tryd.prog, md, gi, gn⟩ 7 v7 := ⟨Tryd.f7, _, fun t => ⟨false, md⟩, Tryd.func7, rfl, by kernel_rfl, by kernel_rfl, by kernel_rfl⟩
theorem is8 : FnComp ⟨Tryd.prog, md, gi, gn⟩ 8 v8 := ⟨Tryd.f8, _, fun t => ⟨false, md⟩, Tryd.func8, rfl, by kernel_rfl, by kernel_rfl, by kernel_rfl⟩
theorem is9 : FnComp ⟨Tryd.prog, md, gi, gn⟩ 9 v9 := ⟨Tryd.f9, _, fun t => ⟨false, md⟩, Tryd.func9, rfl, by kernel_rfl, by kernel_rfl, by kernel_rfl⟩
theorem is10 : FnComp ⟨Tryd.prog, md, gi, gn⟩ 10 v10 := ⟨Tryd.f10, _, fun t => ⟨false, md⟩, Tryd.func10, rfl, by kernel_rfl, by kernel_rfl, by kernel_rfl⟩
theorem is11 : FnComp ⟨Tryd.prog, md, gi, gn⟩ 11 v11 := ⟨Tryd.f11, _, fun t => ⟨false, md⟩, Tryd.func11, rfl, by kernel_rfl, by kernel_rfl, by kernel_rfl⟩
theorem is12 : FnComp ⟨Tryd.prog, md, gi, gn⟩ 12 v12 := ⟨Tryd.f12, _, fun t => ⟨false, md⟩, Tryd.func12, rfl, by kernel_rfl, by kernel_rfl, by kernel_rfl⟩
theorem is13 : FnComp ⟨Tryd.prog, md, gi, gn⟩ 13 v13 := ⟨Tryd.f13, _, fun t => ⟨false, md⟩, Tryd.func13, rfl, by kernel_rfl, by kernel_rfl, by kernel_rfl⟩
theorem is14 : FnComp ⟨Tryd.prog, md, gi, gn⟩ 14 v14 := ⟨Tryd.f14, _, fun t => ⟨false, md⟩, Tryd.func14, rfl, by kernel_rfl, by kernel_rfl, by kernel_rfl⟩
theorem is15 : FnComp ⟨Tryd.prog, md, gi, gn⟩ 15 v15 := ⟨Tryd.f15, _, fun t => ⟨false, md⟩, Tryd.func15, rfl, by kernel_rfl, by kernel_rfl, by kernel_rfl⟩
theorem is16 : FnComp ⟨Tryd.prog, md, gi, gn⟩ 16 v16 := ⟨Tryd.f16, _, fun t => ⟨false, md⟩, Tryd.func16, rfl, by kernel_rfl, by kernel_rfl, by kernel_rfl⟩
theorem is17 : FnComp ⟨Tryd.prog, md, gi, gn⟩ 17 v17 := ⟨Tryd.f17, _, fun t => ⟨false, md⟩, Tryd.func17, rfl, by kernel_rfl, by kernel_rfl, by kernel_rfl⟩
theorem is18 : FnComp ⟨Tryd.prog, md, gi, gn⟩ 18 v18 := ⟨Tryd.f18, _, fun t => ⟨false, md⟩, Tryd.func18, rfl, by kernel_rfl, by kernel_rfl, by kernel_rfl⟩
theorem is19 : FnComp ⟨Tryd.prog, md, gi, gn⟩ 19 v19 := ⟨Tryd.f19, _, fun t => ⟨false, md⟩, Tryd.func19, rfl, by kernel_rfl, by kernel_rfl, by kernel_rfl⟩
theorem is20 : FnComp ⟨Tryd.prog, md, gi, gn⟩ 20 v20 := ⟨Tryd.f20, _, fun t => ⟨false, md⟩, Tryd.func20, rfl, by kernel_rfl, by kernel_rfl, by kernel_rfl⟩
theorem is21 : FnComp ⟨Tryd.prog, md, gi, gn⟩ 21 v21 := ⟨Tryd.f21, _, fun t => ⟨false, md⟩, Tryd.func21, rfl, by kernel_rfl, by kernel_rfl, by kernel_rfl⟩
theorem is22 : FnComp ⟨Tryd.prog, md, gi, gn⟩ 22 v22 := ⟨Tryd.f22, _, fun t => ⟨false, md⟩, Tryd.func22, rfl, by kernel_rfl, by kernel_rfl, by kernel_rfl⟩
theorem is23 : FnComp ⟨Tryd.prog, md, gi, gn⟩ 23 v23 := ⟨Tryd.f23, _, fun t => ⟨false, md⟩, Tryd.func23, rfl, by kernel_rfl, by kernel_rfl, by kernel_rfl⟩
theorem is24 : FnComp ⟨Tryd.prog, md, gi, gn⟩ 24 v24 := ⟨Tryd.f24, _, fun t => ⟨false, md⟩, Tryd.func24, rfl, by kernel_rfl, by kernel_rfl, by kernel_rfl⟩
theorem is25 : FnComp ⟨Tryd.prog, md, gi, gn⟩ 25 v25 := ⟨Tryd.f25, _, fun t => ⟨false, md⟩, Tryd.func25, rfl, by kernel_rfl, by kernel_rfl, by kernel_rfl⟩
theorem is26 : FnComp ⟨Tryd.prog, md, gi, gn⟩ 26 v26 := ⟨Tryd.f26, _, fun t => ⟨false, md⟩, Tryd.func26, rfl, by kernel_rfl, by kernel_rfl, by kernel_rfl⟩
theorem is27 : FnComp ⟨Tryd.prog, md, gi, gn⟩ 27 v27 := ⟨Tryd.f27, _, fun t => ⟨false, md⟩, Tryd.func27, rfl, by kernel_rfl, by kernel_rfl, by kernel_rfl⟩
theorem is28 : FnComp ⟨Tryd.prog, md, gi, gn⟩ 28 v28 := ⟨Tryd.f28, _, fun t => ⟨false, md⟩, Tryd.func28, rfl, by kernel_rfl, by kernel_rfl, by kernel_rfl⟩
theorem is29 : FnComp ⟨Tryd.prog, md, gi, gn⟩ 29 v29 := ⟨Tryd.f29, _, fun t => ⟨false, md⟩, Tryd.func29, rfl, by kernel_rfl, by kernel_rfl, by kernel_rfl⟩
theorem is30 : FnComp ⟨Tryd.prog, md, gi, gn⟩ 30 v30 := ⟨Tryd.f30, _, fun t => ⟨false, md⟩, Tryd.func30, rfl, by kernel_rfl, by kernel_rfl, by kernel_rfl⟩
theorem is31 : FnComp ⟨Tryd.prog, md, gi, gn⟩ 31 v31 := ⟨Tryd.f31, _, fun t => ⟨false, md⟩, Tryd.func31, rfl, by kernel_rfl, by kernel_rfl, by kernel_rfl⟩
theorem is32 : FnComp ⟨Tryd.prog, md, gi, gn⟩ 32 v32 := ⟨Tryd.f32, _, fun t => ⟨false, md⟩, Tryd.func32, rfl, by kernel_rfl, by kernel_rfl, by kernel_rfl⟩
theorem is33 : FnComp ⟨Tryd.prog, md, gi, gn⟩ 33 v33 := ⟨Tryd.f33, _, fun t => ⟨false, md⟩, Tryd.func33, rfl, by kernel_rfl, by kernel_rfl, by kernel_rfl⟩
theorem is34 : FnComp ⟨Tryd.prog, md, gi, gn⟩ 34 v34 := ⟨Tryd.f34, _, fun t => ⟨false, md⟩, Tryd.func34, rfl, by kernel_rfl, by kernel_rfl, by kernel_rfl⟩
theorem is35 : FnComp ⟨Tryd.prog, md, gi, gn⟩ 35 v35 := ⟨Tryd.f35, _, fun t => ⟨false, md⟩, Tryd.func35, rfl, by kernel_rfl, by kernel_rfl, by kernel_rfl⟩
theorem is38 : FnComp ⟨Tryd.prog, md, gi, gn⟩ 38 v38 := ⟨Tryd.f38, _, fun t => ⟨false, md⟩, Tryd.func38, rfl, by kernel_rfl, by kernel_rfl, by kernel_rfl⟩
theorem is39 : FnComp ⟨Tryd.prog, md, gi, gn⟩ 39 v39 := ⟨Tryd.f39, _, fun t => ⟨false, md⟩, Tryd.func39, rfl, by kernel_rfl, by kernel_rfl, by kernel_rfl⟩
theorem is40 : FnComp ⟨Tryd.prog, md, gi, gn⟩ 40 v40 := ⟨Tryd.f40, _, fun t => ⟨false, md⟩, Tryd.func40, rfl, by kernel_rfl, by kernel_rfl, by kernel_rfl⟩
theorem is41 : FnComp ⟨Tryd.prog, md, gi, gn⟩ 41 v41 := ⟨Tryd.f41, _, fun t => ⟨false, md⟩, Tryd.func41, rfl, by kernel_rfl, by kernel_rfl, by kernel_rfl⟩
theorem is42 : FnComp ⟨Tryd.prog, md, gi, gn⟩ 42 v42 := ⟨Tryd.f42, _, fun t => ⟨false, md⟩, Tryd.func42, rfl, by kernel_rfl, by kernel_rfl, by kernel_rfl⟩
theorem is43 : FnComp ⟨Tryd.prog, md, gi, gn⟩ 43 v43 := ⟨Tryd.f43, _, fun t => ⟨false, md⟩, Tryd.func43, rfl, by kernel_rfl, by kernel_rfl, by kernel_rfl⟩
theorem is44 : FnComp ⟨Tryd.prog, md, gi, gn⟩ 44 v44 := ⟨Tryd.f44, _, fun t => ⟨false, md⟩, Tryd.func44, rfl, by kernel_rfl, by kernel_rfl, by kernel_rfl⟩
theorem is45 : FnComp ⟨Tryd.prog, md, gi, gn⟩ 45 v45 := ⟨Tryd.f45, _, fun t => ⟨false, md⟩, Tryd.func45, rfl, by kernel_rfl, by kernel_rfl, by kernel_rfl⟩
theorem is46 : FnComp ⟨Tryd.prog, md, gi, gn⟩ 46 v46 := ⟨Tryd.f46, _, fun t => ⟨false, md⟩, Tryd.func46, rfl, by kernel_rfl, by kernel_rfl, by kernel_rfl⟩
theorem is47 : FnComp ⟨Tryd.prog, md, gi, gn⟩ 47 v47 := ⟨Tryd.f47, _, fun t => ⟨false, md⟩, Tryd.func47, rfl, by kernel_rfl, by kernel_rfl, by kernel_rfl⟩
theorem is52 : FnComp ⟨Tryd.prog, md, gi, gn⟩ 52 v52 := ⟨Tryd.f52, _, fun t => ⟨false, md⟩, Tryd.func52, rfl, by kernel_rfl, by kernel_rfl, by kernel_rfl⟩
theorem is53 : FnComp ⟨Tryd.prog, md, gi, gn⟩ 53 v53 := ⟨Tryd.f53, _, fun t => ⟨false, md⟩, Tryd.func53, rfl, by kernel_rfl, by kernel_rfl, by kernel_rfl⟩
theorem is54 : FnComp ⟨Tryd.prog, md, gi, gn⟩ 54 v54 := ⟨Tryd.f54, _, fun t => ⟨false, md⟩, Tryd.func54, rfl, by kernel_rfl, by kernel_rfl, by kernel_rfl⟩
theorem is55 : FnComp ⟨Tryd.prog, md, gi, gn⟩ 55 v55 := ⟨Tryd.f55, _, fun t => ⟨false, md⟩, Tryd.func55, rfl, by kernel_rfl, by kernel_rfl, by kernel_rfl⟩
theorem is56 : FnComp ⟨Tryd.prog, md, gi, gn⟩ 56 v56 := ⟨Tryd.f56, _, fun t => ⟨false, md⟩, Tryd.func56, rfl, by kernel_rfl, by kernel_rfl, by kernel_rfl⟩
theorem is57 : FnComp ⟨Tryd.prog, md, gi, gn⟩ 57 v57 := ⟨Tryd.f57, _, fun t => ⟨false, md⟩, Tryd.func57, rfl, by kernel_rfl, by kernel_rfl, by kernel_rfl⟩
theorem is58 : FnComp ⟨Tryd.prog, md, gi, gn⟩ 58 v58 := ⟨Tryd.f58, _, fun t => ⟨false, md⟩, Tryd.func58, rfl, by kernel_rfl, by kernel_rfl, by kernel_rfl⟩
theorem is59 : FnComp ⟨Tryd.prog, md, gi, gn⟩ 59 v59 := ⟨Tryd.f59, _, fun t => ⟨false, md⟩, Tryd.func59, rfl, by kernel_rfl, by kernel_rfl, by kernel_rfl⟩
theorem is60 : FnComp ⟨Tryd.prog, md, gi, gn⟩ 60 v60 := ⟨Tryd.f60, _, fun t => ⟨false, md⟩, Tryd.func60, rfl, by kernel_rfl, by kernel_rfl, by kernel_rfl⟩
theorem is61 : FnComp ⟨Tryd.prog, md, gi, gn⟩ 61 v61 := ⟨Tryd.f61, _, fun t => ⟨false, md⟩, Tryd.func61, rfl, by kernel_rfl, by kernel_rfl, by kernel_rfl⟩
theorem is65 : FnComp ⟨Tryd.prog, md, gi, gn⟩ 65 v65 := ⟨Tryd.f65, _, fun t => ⟨false, md⟩, Tryd.func65, rfl, by kernel_rfl, by kernel_rfl, by kernel_rfl⟩
theorem is66 : FnComp ⟨Tryd.prog, md, gi, gn⟩ 66 v66 := ⟨Tryd.f66, _, fun t => ⟨false, md⟩, Tryd.func66, rfl, by kernel_rfl, by kernel_rfl, by kernel_rfl⟩
theorem is73 : FnComp ⟨Tryd.prog, md, gi, gn⟩ 73 v73 := ⟨Tryd.f73, _, fun t => ⟨false, md⟩, Tryd.func73, rfl, by kernel_rfl, by kernel_rfl, by kernel_rfl⟩

theorem envOK : EnvOK ⟨Tryd.prog, md, gi, gn⟩ env := ⟨rfl, by kernel_rfl, (fun f vf h => by
  change ft f = some vf at h
  unfold ft at h
  rcases ft_cons h with ⟨h1, h2⟩ | h
  · rw [h1, h2]; exact is3
  rcases ft_cons h with ⟨h1, h2⟩ | h
  · rw [h1, h2]; exact is4
  rcases ft_cons h with ⟨h1, h2⟩ | h
  · rw [h1, h2]; exact is5
  rcases ft_cons h with ⟨h1, h2⟩ | h
  · rw [h1, h2]; exact is6
  rcases ft_cons h with ⟨h1, h2⟩ | h
  · rw [h1, h2]; exact is7
  rcases ft_cons h with ⟨h1, h2⟩ | h
  · rw [h1, h2]; exact is8
  rcases ft_cons h with ⟨h1, h2⟩ | h
  · rw [h1, h2]; exact is9
  rcases ft_cons h with ⟨h1, h2⟩ | h
  · rw [h1, h2]; exact is10
  rcases ft_cons h with ⟨h1, h2⟩ | h
  · rw [h1, h2]; exact is11
  rcases ft_cons h with ⟨h1, h2⟩ | h
  · rw [h1, h2]; exact is12
  rcases ft_cons h with ⟨h1, h2⟩ | h
  · rw [h1, h2]; exact is13
  rcases ft_cons h with ⟨h1, h2⟩ | h
  · rw [h1, h2]; exact is14
  rcases ft_cons h with ⟨h1, h2⟩ | h
  · rw [h1, h2]; exact is15
  rcases ft_cons h with ⟨h1, h2⟩ | h
  · rw [h1, h2]; exact is16
  rcases ft_cons h with ⟨h1, h2⟩ | h
  · rw [h1, h2]; exact is17
  rcases ft_cons h with ⟨h1, h2⟩ | h
  · rw [h1, h2]; exact is18
  rcases ft_cons h with ⟨h1, h2⟩ | h
  · rw [h1, h2]; exact is19
  rcases ft_cons h with ⟨h1, h2⟩ | h
  · rw [h1, h2]; exact is20
  rcases ft_cons h with ⟨h1, h2⟩ | h
  · rw [h1, h2]; exact is21
  rcases ft_cons h with ⟨h1, h2⟩ | h
  · rw [h1, h2]; exact is22
  rcases ft_cons h with ⟨h1, h2⟩ | h
  · rw [h1, h2]; exact is23
  rcases ft_cons h with ⟨h1, h2⟩ | h
  · rw [h1, h2]; exact is24
  rcases ft_cons h with ⟨h1, h2⟩ | h
  · rw [h1, h2]; exact is25
  rcases ft_cons h with ⟨h1, h2⟩ | h
  · rw [h1, h2]; exact is26
  rcases ft_cons h with ⟨h1, h2⟩ | h
  · rw [h1, h2]; exact is27
  rcases ft_cons h with ⟨h1, h2⟩ | h
  · rw [h1, h2]; exact is28
  rcases ft_cons h with ⟨h1, h2⟩ | h
  · rw [h1, h2]; exact is29
  rcases ft_cons h with ⟨h1, h2⟩ | h
  · rw [h1, h2]; exact is30
  rcases ft_cons h with ⟨h1, h2⟩ | h
  · rw [h1, h2]; exact is31
  rcases ft_cons h with ⟨h1, h2⟩ | h
  · rw [h1, h2]; exact is32
  rcases ft_cons h with ⟨h1, h2⟩ | h
  · rw [h1, h2]; exact is33
  rcases ft_cons h with ⟨h1, h2⟩ | h
  · rw [h1, h2]; exact is34
  rcases ft_cons h with ⟨h1, h2⟩ | h
  · rw [h1, h2]; exact is35
  rcases ft_cons h with ⟨h1, h2⟩ | h
  · rw [h1, h2]; exact is38
  rcases ft_cons h with ⟨h1, h2⟩ | h
  · rw [h1, h2]; exact is39
  rcases ft_cons h with ⟨h1, h2⟩ | h
  · rw [h1, h2]; exact is40
  rcases ft_cons h with ⟨h1, h2⟩ | h
  · rw [h1, h2]; exact is41
  rcases ft_cons h with ⟨h1, h2⟩ | h
  · rw [h1, h2]; exact is42
  rcases ft_cons h with ⟨h1, h2⟩ | h
  · rw [h1, h2]; exact is43
  rcases ft_cons h with ⟨h1, h2⟩ | h
  · rw [h1, h2]; exact is44
  rcases ft_cons h with ⟨h1, h2⟩ | h
  · rw [h1, h2]; exact is45
  rcases ft_cons h with ⟨h1, h2⟩ | h
  · rw [h1, h2]; exact is46
  rcases ft_cons h with ⟨h1, h2⟩ | h
  · rw [h1, h2]; exact is47
  rcases ft_cons h with ⟨h1, h2⟩ | h
  · rw [h1, h2]; exact is52
  rcases ft_cons h with ⟨h1, h2⟩ | h
  · rw [h1, h2]; exact is53
  rcases ft_cons h with ⟨h1, h2⟩ | h
  · rw [h1, h2]; exact is54
  rcases ft_cons h with ⟨h1, h2⟩ | h
  · rw [h1, h2]; exact is55
  rcases ft_cons h with ⟨h1, h2⟩ | h
  · rw [h1, h2]; exact is56
  rcases ft_cons h with ⟨h1, h2⟩ | h
  · rw [h1, h2]; exact is57
  rcases ft_cons h with ⟨h1, h2⟩ | h
  · rw [h1, h2]; exact is58
  rcases ft_cons h with ⟨h1, h2⟩ | h
  · rw [h1, h2]; exact is59
  rcases ft_cons h with ⟨h1, h2⟩ | h
  · rw [h1, h2]; exact is60
  rcases ft_cons h with ⟨h1, h2⟩ | h
  · rw [h1, h2]; exact is61
  rcases ft_cons h with ⟨h1, h2⟩ | h
  · rw [h1, h2]; exact is65
  rcases ft_cons h with ⟨h1, h2⟩ | h
  · rw [h1, h2]; exact is66
  rcases ft_cons h with ⟨h1, h2⟩ | h
  · rw [h1, h2]; exact is73
  cases h), prOK md⟩
end Go.Proofs.YtmickbidffdklaaDoor
