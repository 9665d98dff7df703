/-
  Part 1 of the functions and the law.
  The functions of this seat as code of the abstract machine, and that they are so. Printed by a program.
-/
import Derived.Test.YtflfdglnelbbiaaV10
import Derived.Test.YtflfdglnelbbiaaChecked
import Derived.KernelRfl
set_option linter.all false
set_option linter.unusedVariables false
set_option linter.unusedSimpArgs false
set_option linter.unusedSectionVars false
namespace Go.Proofs.Ytflfdglnelbbiaa
open Go Go.VM

/-- An operation without a guard. -/
abbrev oq (t : Nat) (x : VOp) : VOper := ⟨some t, none, x⟩
/-- One with a guard. -/
abbrev og (t g : Nat) (b : Bool) (x : VOp) : VOper := ⟨some t, some (g, b), x⟩
/-- A whole number. -/
abbrev ki (n : Int) : Opd := .c (.int .i64 n)
def md : FuncId → VM.Mode := fun f => bif Nat.beq f 6 then .shared else bif Nat.beq f 7 then .shared else bif Nat.beq f 8 then .shared else bif Nat.beq f 9 then .shared else bif Nat.beq f 10 then .shared else bif Nat.beq f 11 then .shared else bif Nat.beq f 12 then .shared else bif Nat.beq f 16 then .shared else bif Nat.beq f 17 then .shared else bif Nat.beq f 18 then .shared else bif Nat.beq f 20 then .shared else bif Nat.beq f 21 then .shared else bif Nat.beq f 22 then .shared else bif Nat.beq f 28 then .shared else bif Nat.beq f 32 then .shared else bif Nat.beq f 33 then .shared else bif Nat.beq f 34 then .shared else bif Nat.beq f 35 then .shared else bif Nat.beq f 36 then .shared else bif Nat.beq f 37 then .shared else bif Nat.beq f 39 then .shared else bif Nat.beq f 40 then .shared else bif Nat.beq f 41 then .shared else bif Nat.beq f 42 then .shared else bif Nat.beq f 43 then .shared else bif Nat.beq f 44 then .shared else bif Nat.beq f 51 then .shared else bif Nat.beq f 52 then .shared else bif Nat.beq f 53 then .shared else bif Nat.beq f 54 then .shared else bif Nat.beq f 55 then .shared else bif Nat.beq f 56 then .shared else bif Nat.beq f 62 then .shared else bif Nat.beq f 63 then .shared else bif Nat.beq f 64 then .shared else bif Nat.beq f 65 then .shared else bif Nat.beq f 67 then .shared else bif Nat.beq f 68 then .shared else bif Nat.beq f 71 then .shared else bif Nat.beq f 78 then .shared else bif Nat.beq f 79 then .shared else bif Nat.beq f 80 then .shared else bif Nat.beq f 81 then .shared else bif Nat.beq f 86 then .shared else bif Nat.beq f 26 then .own else bif Nat.beq f 45 then .own else bif Nat.beq f 61 then .own else bif Nat.beq f 26 then .own else .pure
/-- berthing/berthinglaw16.VaultElder -/
def c3 : VCode :=
  .seq (.ops [oq 2 (.mov (.c (.bool false)))]) <|
  .seq (.seq (.ops [oq 18 (.call .pure 4 []), oq 19 (.un .not (.t 18))]) <|
  .cond (.t 19) (.seq (.ops [oq 2 (.mov (.c (.bool false)))]) <|
   .ret) (.skip)) <|
  .seq (.ops [oq 3 (.mov (ki 0))]) <|
  .seq (.seq (.ops [oq 20 (.mov (.t 0)), oq 21 (.lenS (.t 20)), oq 22 (.mov (ki 0))]) <|
  .block 0 (.loop (.seq (.ops [oq 23 (.bin .num .lss (.t 22) (.t 21))]) <|
    .seq (.cond (.t 23) (.skip) (.exit 0)) <|
    .seq (.block 1 (.seq (.ops [oq 24 (.idxAddrS 3 (.t 20) (.t 22)), oq 25 (.loadN 3 (.t 24)), oq 5 (.alloc [(.int .i64 0), (.sl .nil 0 []), (.sl .nil 0 [])]), ⟨none, none, .storeN 3 (.t 5) (.t 25)⟩]) <|
     .seq (.ops [oq 26 (.mov (.t 3)), oq 27 (.loadN 3 (.t 5)), oq 28 (.call .pure 5 [(.t 27)]), oq 29 (.bin .num .add (ki 20) (.t 28)), oq 30 (.bin .num .add (.t 26) (.t 29)), oq 3 (.mov (.t 30))]) <|
     .seq (.ops [oq 31 (.mov (.t 3)), oq 32 (.bin .num .gtr (.t 31) (ki 8000))]) <|
     .cond (.t 32) (.seq (.ops [oq 2 (.mov (.c (.bool true)))]) <|
      .ret) (.skip))) <|
    .ops [oq 33 (.bin .num .add (.t 22) (ki 1)), oq 22 (.mov (.t 33))]))) <|
  .seq (.ops [oq 35 (.call .shared 6 [(ki 65556)]), oq 34 (.mov (.t 35)), oq 36 (.extract 0 (.t 34)), oq 37 (.extract 1 (.t 34)), oq 6 (.mov (.t 36)), oq 7 (.mov (.t 37))]) <|
  .seq (.ops [oq 39 (.mov (.t 6)), oq 40 (.call .shared 7 [(.t 39)]), oq 38 (.mov (.t 40)), oq 41 (.extract 0 (.t 38)), oq 42 (.extract 1 (.t 38)), oq 8 (.mov (.t 41)), oq 9 (.mov (.t 42))]) <|
  .seq (.ops [oq 43 (.build [(.int .i64 0), (.sl .nil 0 []), (.sl .nil 0 [])] []), oq 10 (.alloc [(.int .i64 0), (.sl .nil 0 []), (.sl .nil 0 [])]), ⟨none, none, .storeN 3 (.t 10) (.t 43)⟩]) <|
  .seq (.seq (.ops [oq 44 (.mov (.t 0)), oq 45 (.lenS (.t 44)), oq 46 (.mov (ki 0))]) <|
  .block 2 (.loop (.seq (.ops [oq 47 (.bin .num .lss (.t 46) (.t 45))]) <|
    .seq (.cond (.t 47) (.skip) (.exit 2)) <|
    .seq (.block 3 (.seq (.ops [oq 48 (.idxAddrS 3 (.t 44) (.t 46)), oq 49 (.loadN 3 (.t 48)), oq 12 (.alloc [(.int .i64 0), (.sl .nil 0 []), (.sl .nil 0 [])]), ⟨none, none, .storeN 3 (.t 12) (.t 49)⟩]) <|
     .seq (.ops [oq 50 (.mov (.t 8)), oq 51 (.call .shared 8 [(.t 50)]), oq 52 (.mov (.t 8)), oq 53 (.call .shared 9 [(.t 52)]), oq 14 (.alloc [(.int .i64 0), (.sl .nil 0 []), (.sl .nil 0 [])]), oq 13 (.mov (.t 51)), ⟨none, none, .storeN 3 (.t 14) (.t 53)⟩]) <|
     .seq (.seq (.ops [oq 54 (.mov (.t 8)), oq 55 (.loadN 3 (.t 12)), oq 56 (.call .shared 10 [(.t 54), (.t 55)]), oq 57 (.bin .num .neq (.t 56) (ki 0))]) <|
     .cond (.t 57) (.exit 3) (.skip)) <|
     .seq (.ops [oq 58 (.loadN 3 (.t 14)), ⟨none, none, .storeN 3 (.t 10) (.t 58)⟩]) <|
     .seq (.ops [oq 59 (.mov (.t 6)), oq 60 (.call .shared 11 [(.t 59)]), oq 15 (.mov (.t 60))]) <|
     .seq (.ops [oq 61 (.mov (.t 15)), oq 62 (.mov (.t 8)), oq 63 (.call .shared 8 [(.t 62)]), oq 64 (.call .pure 13 [(.t 63)]), oq 65 (.buildSlice false 1 1 [(.int .u8 0)] [(0, 1, (.c (.int .u8 0)))]), oq 66 (.call .shared 12 [(.t 61), (.t 64), (.t 65)])]) <|
     .seq (.ops [oq 68 (.mov (.t 15)), oq 69 (.call .shared 7 [(.t 68)]), oq 67 (.mov (.t 69)), oq 70 (.extract 0 (.t 67)), oq 71 (.extract 1 (.t 67)), oq 16 (.mov (.t 70)), oq 17 (.mov (.t 71))]) <|
     .seq (.draw [] [oq 72 (.mov (.t 17)), oq 73 (.bin .num .neq (.t 72) (ki 0)), oq 74 (.mov (.t 73)), og 75 74 false (.mov (.t 8)), og 76 74 false (.call .shared 8 [(.t 75)]), og 77 74 false (.mov (.t 13)), og 78 74 false (.bin .num .add (.t 77) (ki 1)), og 79 74 false (.bin .num .neq (.t 76) (.t 78)), oq 80 (.pick (.t 74) (.c (.bool true)) (.t 79)), oq 81 (.mov (.t 80)), og 82 81 false (.mov (.t 16)), og 83 81 false (.call .shared 8 [(.t 82)]), og 84 81 false (.mov (.t 13)), og 85 81 false (.bin .num .neq (.t 83) (.t 84)), oq 86 (.pick (.t 81) (.c (.bool true)) (.t 85)), oq 87 (.mov (.t 86)), og 88 87 false (.mov (.t 16)), og 89 87 false (.call .shared 9 [(.t 88)]), og 90 87 false (.loadN 3 (.t 10)), og 91 87 false (.call .pure 14 [(.t 89), (.t 90)]), og 92 87 false (.un .not (.t 91)), oq 93 (.pick (.t 87) (.c (.bool true)) (.t 92))] [(18, 17)]) <|
     .cond (.t 93) (.seq (.ops [oq 2 (.mov (.c (.bool false)))]) <|
      .ret) (.skip))) <|
    .ops [oq 94 (.bin .num .add (.t 46) (ki 1)), oq 46 (.mov (.t 94))]))) <|
  .seq (.ops [oq 2 (.mov (.c (.bool true)))]) <|
  .ret
def v3 : VFunc := ⟨95, [.tmp 2], c3⟩
/-- berthing/berthinglaw16.first -/
def c4 : VCode :=
  .seq (.ops [oq 0 (.mov (.c (.bool false)))]) <|
  .seq (.ops [oq 12 (.call .pure 15 []), oq 13 (.call .shared 6 [(.t 12)]), oq 11 (.mov (.t 13)), oq 14 (.extract 0 (.t 11)), oq 15 (.extract 1 (.t 11)), oq 1 (.mov (.t 14)), oq 2 (.mov (.t 15))]) <|
  .seq (.ops [oq 17 (.mov (.t 1)), oq 18 (.call .shared 7 [(.t 17)]), oq 16 (.mov (.t 18)), oq 19 (.extract 0 (.t 16)), oq 20 (.extract 1 (.t 16)), oq 3 (.mov (.t 19)), oq 4 (.mov (.t 20))]) <|
  .seq (.ops [oq 22 (.call .shared 7 [(.c .nilp)]), oq 21 (.mov (.t 22)), oq 23 (.extract 0 (.t 21)), oq 24 (.extract 1 (.t 21)), oq 5 (.mov (.t 23)), oq 6 (.mov (.t 24))]) <|
  .seq (.ops [oq 25 (.mov (.t 3)), oq 26 (.build [(.int .i64 0), (.sl .nil 0 []), (.sl .nil 0 [])] [(0, 1, (ki 7))]), oq 27 (.call .shared 10 [(.t 25), (.t 26)]), oq 7 (.mov (.t 27))]) <|
  .seq (.ops [oq 28 (.mov (.t 1)), oq 29 (.call .shared 16 [(.t 28), (ki 3)])]) <|
  .seq (.ops [oq 30 (.mov (.t 3)), oq 31 (.build [(.int .i64 0), (.sl .nil 0 []), (.sl .nil 0 [])] [(0, 1, (ki 8))]), oq 32 (.call .shared 10 [(.t 30), (.t 31)]), oq 8 (.mov (.t 32))]) <|
  .seq (.ops [oq 33 (.mov (.t 1)), oq 34 (.call .shared 17 [(.t 33)])]) <|
  .seq (.ops [oq 36 (.mov (.t 1)), oq 37 (.call .shared 7 [(.t 36)]), oq 35 (.mov (.t 37)), oq 38 (.extract 0 (.t 35)), oq 39 (.extract 1 (.t 35)), oq 9 (.mov (.t 38)), oq 10 (.mov (.t 39))]) <|
  .seq (.ops [oq 40 (.mov (.t 4)), oq 41 (.bin .num .eql (.t 40) (ki 0)), oq 42 (.mov (.t 41)), og 43 42 true (.mov (.t 6)), og 44 42 true (.bin .num .eql (.t 43) (ki 1)), oq 45 (.pick (.t 42) (.t 44) (.c (.bool false))), oq 46 (.mov (.t 45)), og 47 46 true (.mov (.t 7)), og 48 46 true (.bin .num .eql (.t 47) (ki 0)), oq 49 (.pick (.t 46) (.t 48) (.c (.bool false))), oq 50 (.mov (.t 49)), og 51 50 true (.mov (.t 8)), og 52 50 true (.bin .num .eql (.t 51) (ki 26)), oq 53 (.pick (.t 50) (.t 52) (.c (.bool false))), oq 54 (.mov (.t 53)), og 55 54 true (.mov (.t 3)), og 56 54 true (.call .shared 8 [(.t 55)]), og 57 54 true (.bin .num .eql (.t 56) (ki 1)), oq 58 (.pick (.t 54) (.t 57) (.c (.bool false))), oq 59 (.mov (.t 58)), og 60 59 true (.mov (.t 10)), og 61 59 true (.bin .num .eql (.t 60) (ki 0)), oq 62 (.pick (.t 59) (.t 61) (.c (.bool false))), oq 63 (.mov (.t 62)), og 64 63 true (.mov (.t 9)), og 65 63 true (.call .shared 8 [(.t 64)]), og 66 63 true (.bin .num .eql (.t 65) (ki 1)), oq 67 (.pick (.t 63) (.t 66) (.c (.bool false))), oq 68 (.mov (.t 67)), og 69 68 true (.mov (.t 9)), og 70 68 true (.call .shared 9 [(.t 69)]), og 71 68 true (.field1 0 (.t 70)), og 72 68 true (.bin .num .eql (.t 71) (ki 7)), oq 73 (.pick (.t 68) (.t 72) (.c (.bool false))), oq 74 (.mov (.t 73)), og 75 74 true (.call .pure 13 [(ki 3)]), og 76 74 true (.bin .num .eql (.t 75) (ki 1)), oq 77 (.pick (.t 74) (.t 76) (.c (.bool false))), oq 78 (.mov (.t 77)), og 79 78 true (.call .pure 15 []), og 80 78 true (.bin .num .eql (.t 79) (ki 65556)), oq 81 (.pick (.t 78) (.t 80) (.c (.bool false))), oq 82 (.mov (.t 81)), og 83 82 true (.mov (.t 9)), og 84 82 true (.call .shared 18 [(.t 83)]), og 85 82 true (.mov (.t 1)), og 86 82 true (.bin .ptr .eql (.t 84) (.t 85)), oq 87 (.pick (.t 82) (.t 86) (.c (.bool false))), oq 0 (.mov (.t 87))]) <|
  .ret
def v4 : VFunc := ⟨88, [.tmp 0], c4⟩
/-- berthing/berthinglaw15.Great -/
def c5 : VCode :=
  .seq (.ops [oq 1 (.box (.t 0)), oq 2 (.mov (ki 0))]) <|
  .seq (.ops [oq 8 (.fieldAddr 2 (.t 1)), oq 9 (.load1 (.t 8)), oq 10 (.lenS (.t 9)), oq 11 (.minmax false [(.t 10), (ki 500)]), oq 12 (.bin .num .mul (ki 20) (.t 11)), oq 3 (.mov (.t 12))]) <|
  .seq (.seq (.ops [oq 13 (.fieldAddr 1 (.t 1)), oq 14 (.load1 (.t 13)), oq 15 (.lenS (.t 14)), oq 16 (.mov (ki 0))]) <|
  .block 0 (.loop (.seq (.ops [oq 17 (.bin .num .lss (.t 16) (.t 15))]) <|
    .seq (.cond (.t 17) (.skip) (.exit 0)) <|
    .seq (.block 1 (.seq (.ops [oq 18 (.mov (.t 16)), oq 19 (.idxAddrS 10 (.t 14) (.t 16)), oq 20 (.loadN 10 (.t 19)), oq 5 (.alloc [(.str ⟨#[]⟩), (.int .i64 0), (.int .i64 0), (.sl .nil 0 []), (.str ⟨#[]⟩), (.int .i64 0), (.int .i64 0), (.sl .nil 0 []), (.int .i64 0), (.int .i64 0)]), oq 4 (.mov (.t 18)), ⟨none, none, .storeN 10 (.t 5) (.t 20)⟩]) <|
     .seq (.seq (.ops [oq 21 (.mov (.t 4)), oq 22 (.bin .num .gtr (.t 21) (ki 30))]) <|
     .cond (.t 22) (.seq (.ops [oq 2 (.mov (ki 20000))]) <|
      .ret) (.skip)) <|
     .ops [oq 23 (.mov (.t 3)), oq 24 (.fieldAddr 0 (.t 5)), oq 25 (.loadN 4 (.t 24)), oq 26 (.call .pure 19 [(.t 25)]), oq 27 (.bin .num .add (ki 10) (.t 26)), oq 28 (.fieldAddr 4 (.t 5)), oq 29 (.loadN 4 (.t 28)), oq 30 (.call .pure 19 [(.t 29)]), oq 31 (.bin .num .add (.t 27) (.t 30)), oq 32 (.bin .num .add (.t 23) (.t 31)), oq 3 (.mov (.t 32))])) <|
    .ops [oq 33 (.bin .num .add (.t 16) (ki 1)), oq 16 (.mov (.t 33))]))) <|
  .seq (.seq (.ops [oq 34 (.fieldAddr 2 (.t 1)), oq 35 (.load1 (.t 34)), oq 36 (.lenS (.t 35)), oq 37 (.mov (ki 0))]) <|
  .block 2 (.loop (.seq (.ops [oq 38 (.bin .num .lss (.t 37) (.t 36))]) <|
    .seq (.cond (.t 38) (.skip) (.exit 2)) <|
    .seq (.block 3 (.seq (.ops [oq 39 (.idxAddrS 11 (.t 35) (.t 37)), oq 40 (.loadN 11 (.t 39)), oq 7 (.alloc [(.str ⟨#[]⟩), (.str ⟨#[]⟩), (.int .i64 0), (.int .i64 0), (.int .i64 0), (.int .i64 0), (.int .i64 0), (.int .i64 0), (.int .i64 0), (.int .i64 0), (.int .i64 0)]), ⟨none, none, .storeN 11 (.t 7) (.t 40)⟩]) <|
     .seq (.ops [oq 41 (.mov (.t 3)), oq 42 (.fieldAddr 0 (.t 7)), oq 43 (.fieldAddr 0 (.t 42)), oq 44 (.load1 (.t 43)), oq 45 (.lenStr (.t 44)), oq 46 (.fieldAddr 0 (.t 7)), oq 47 (.fieldAddr 1 (.t 46)), oq 48 (.load1 (.t 47)), oq 49 (.lenStr (.t 48)), oq 50 (.bin .num .add (.t 45) (.t 49)), oq 51 (.minmax false [(.t 50), (ki 5000)]), oq 52 (.bin .num .add (.t 41) (.t 51)), oq 3 (.mov (.t 52))]) <|
     .seq (.ops [oq 53 (.mov (.t 3)), oq 54 (.bin .num .gtr (.t 53) (ki 20000))]) <|
     .cond (.t 54) (.seq (.ops [oq 55 (.mov (.t 3)), oq 2 (.mov (.t 55))]) <|
      .ret) (.skip))) <|
    .ops [oq 56 (.bin .num .add (.t 37) (ki 1)), oq 37 (.mov (.t 56))]))) <|
  .seq (.ops [oq 57 (.mov (.t 3)), oq 2 (.mov (.t 57))]) <|
  .ret
def v5 : VFunc := ⟨58, [.tmp 2], c5⟩
/-- berthing/disk.New -/
def c6 : VCode :=
  .seq (.ops [oq 2 (.mov (.c .nilp)), oq 3 (.mov (ki 0))]) <|
  .seq (.seq (.ops [oq 4 (.mov (.t 0)), oq 5 (.bin .num .lss (.t 4) (ki 16)), oq 6 (.mov (.t 5)), og 7 6 false (.mov (.t 0)), og 8 6 false (.bin .num .gtr (.t 7) (ki 262144)), oq 9 (.pick (.t 6) (.c (.bool true)) (.t 8))]) <|
  .cond (.t 9) (.seq (.ops [oq 2 (.mov (.c .nilp)), oq 3 (.mov (ki 2))]) <|
   .ret) (.skip)) <|
  .seq (.draw [(11, .m 1 [oq 10 (.mov (.t 0))] 1 [(.int .u8 0)] (.t 10)), (13, .m 3 [oq 12 (.mov (.t 0))] 1 [(.int .u8 0)] (.t 12))] [oq 10 (.mov (.t 0)), ⟨none, none, .idleX (.t 10)⟩, oq 12 (.mov (.t 0)), ⟨none, none, .idleX (.t 12)⟩, oq 14 (.build [(.sl .nil 0 []), (.sl .nil 0 [])] [(0, 1, (.t 11)), (1, 1, (.t 13))]), oq 15 (.build [(.sl .nil 0 []), (.sl .nil 0 []), (.int .i64 0), (.bool false), (.int .i64 0), (.sl .nil 0 [])] [(0, 2, (.t 14)), (2, 1, (.c (.int .i64 (-1))))]), oq 16 (.box (.t 15)), oq 2 (.mov (.t 16)), oq 3 (.mov (ki 0))] []) <|
  .ret
def v6 : VFunc := ⟨17, [.tmp 2, .tmp 3], c6⟩
/-- berthing/vault.Open -/
def c7 : VCode :=
  .seq (.ops [oq 2 (.mov (.c .nilp)), oq 3 (.mov (ki 0))]) <|
  .seq (.block 0 (.seq (.ops [oq 9 (.mov (.t 0)), oq 10 (.bin .ptr .eql (.t 9) (.c .nilp)), oq 8 (.mov (.t 10))]) <|
   .cond (.t 8) (.seq (.ops [oq 2 (.mov (.c .nilp)), oq 3 (.mov (ki 1))]) <|
    .ret) (.seq (.ops [oq 12 (.mov (.t 0)), oq 13 (.call .shared 20 [(.t 12)]), oq 14 (.call .pure 15 []), oq 15 (.bin .num .lss (.t 13) (.t 14)), oq 11 (.mov (.t 15))]) <|
    .cond (.t 11) (.seq (.ops [oq 2 (.mov (.c .nilp)), oq 3 (.mov (ki 2))]) <|
     .ret) (.seq (.ops [oq 17 (.mov (.t 0)), oq 18 (.call .shared 21 [(.t 17)]), oq 16 (.mov (.t 18))]) <|
     .cond (.t 16) (.seq (.ops [oq 2 (.mov (.c .nilp)), oq 3 (.mov (ki 26))]) <|
      .ret) (.skip))))) <|
  .seq (.ops [oq 19 (.mov (.t 0)), oq 20 (.build [.nilp, (.int .i64 0), (.sl .nil 0 [])] [(0, 1, (.t 19))]), oq 21 (.box (.t 20)), oq 4 (.mov (.t 21))]) <|
  .seq (.seq (.ops [oq 22 (.mov (ki 0))]) <|
  .block 1 (.loop (.seq (.ops [oq 23 (.bin .num .lss (.t 22) (ki 2))]) <|
    .seq (.cond (.t 23) (.skip) (.exit 1)) <|
    .seq (.block 2 (.seq (.ops [oq 24 (.mov (.t 22)), oq 5 (.mov (.t 24))]) <|
     .seq (.ops [oq 26 (.mov (.t 0)), oq 27 (.mov (.t 5)), oq 28 (.call .shared 22 [(.t 26), (.t 27)]), oq 25 (.mov (.t 28)), oq 29 (.extract 0 (.t 25)), oq 30 (.extract 1 (.t 25)), oq 6 (.mov (.t 29)), oq 7 (.mov (.t 30))]) <|
     .seq (.ops [oq 31 (.mov (.t 6)), oq 32 (.mov (.t 4)), oq 33 (.nilCheck (.t 32)), oq 34 (.fieldAddr 1 (.t 33)), oq 35 (.load1 (.t 34)), oq 36 (.bin .num .gtr (.t 31) (.t 35))]) <|
     .cond (.t 36) (.ops [oq 37 (.mov (.t 4)), oq 38 (.mov (.t 4)), oq 39 (.mov (.t 6)), oq 40 (.mov (.t 7)), oq 41 (.nilCheck (.t 37)), oq 42 (.fieldAddr 1 (.t 41)), ⟨none, none, .store1 (.t 42) (.t 39)⟩, oq 43 (.nilCheck (.t 38)), oq 44 (.fieldAddr 2 (.t 43)), ⟨none, none, .store1 (.t 44) (.t 40)⟩]) (.skip))) <|
    .ops [oq 45 (.bin .num .add (.t 22) (ki 1)), oq 22 (.mov (.t 45))]))) <|
  .seq (.ops [oq 46 (.mov (.t 4)), oq 2 (.mov (.t 46)), oq 3 (.mov (ki 0))]) <|
  .ret
def v7 : VFunc := ⟨47, [.tmp 2, .tmp 3], c7⟩
/-- (*berthing/vault.Vault).Gen -/
def c8 : VCode :=
  .seq (.ops [oq 2 (.mov (ki 0))]) <|
  .seq (.seq (.ops [oq 3 (.mov (.t 0)), oq 4 (.bin .ptr .eql (.t 3) (.c .nilp))]) <|
  .cond (.t 4) (.seq (.ops [oq 2 (.mov (ki 0))]) <|
   .ret) (.skip)) <|
  .seq (.ops [oq 5 (.mov (.t 0)), oq 6 (.nilCheck (.t 5)), oq 7 (.fieldAddr 1 (.t 6)), oq 8 (.load1 (.t 7)), oq 2 (.mov (.t 8))]) <|
  .ret
def v8 : VFunc := ⟨9, [.tmp 2], c8⟩
/-- (*berthing/vault.Vault).State -/
def c9 : VCode :=
  .seq (.ops [oq 2 (.alloc [(.int .i64 0), (.sl .nil 0 []), (.sl .nil 0 [])])]) <|
  .seq (.seq (.ops [oq 5 (.mov (.t 0)), oq 6 (.bin .ptr .eql (.t 5) (.c .nilp)), oq 7 (.mov (.t 6)), og 8 7 false (.mov (.t 0)), og 9 7 false (.nilCheck (.t 8)), og 10 7 false (.fieldAddr 1 (.t 9)), og 11 7 false (.load1 (.t 10)), og 12 7 false (.bin .num .eql (.t 11) (ki 0)), oq 13 (.pick (.t 7) (.c (.bool true)) (.t 12))]) <|
  .cond (.t 13) (.seq (.ops [oq 14 (.build [(.int .i64 0), (.sl .nil 0 []), (.sl .nil 0 [])] []), ⟨none, none, .storeN 3 (.t 2) (.t 14)⟩]) <|
   .ret) (.skip)) <|
  .seq (.ops [oq 16 (.mov (.t 0)), oq 17 (.nilCheck (.t 16)), oq 18 (.fieldAddr 2 (.t 17)), oq 19 (.load1 (.t 18)), oq 20 (.call .pure 23 [(.t 19)]), oq 15 (.mov (.t 20)), oq 21 (.extract 0 (.t 15)), oq 22 (.extract 1 (.t 15)), oq 3 (.alloc [(.int .i64 0), (.sl .nil 0 []), (.sl .nil 0 [])]), ⟨none, none, .storeN 3 (.t 3) (.t 21)⟩, oq 4 (.mov (.t 22))]) <|
  .seq (.ops [oq 23 (.loadN 3 (.t 3)), ⟨none, none, .storeN 3 (.t 2) (.t 23)⟩]) <|
  .ret
def v9 : VFunc := ⟨24, [.cellN 3 2], c9⟩
/-- (*berthing/vault.Vault).Save -/
def c10 : VCode :=
  .seq (.ops [oq 3 (.box (.t 1)), oq 4 (.mov (ki 0))]) <|
  .seq (.seq (.ops [oq 7 (.mov (.t 0)), oq 8 (.bin .ptr .eql (.t 7) (.c .nilp))]) <|
  .cond (.t 8) (.seq (.ops [oq 4 (.mov (ki 1))]) <|
   .ret) (.skip)) <|
  .seq (.ops [oq 9 (.loadN 3 (.t 3)), oq 10 (.call .pure 24 [(.t 9)]), oq 5 (.mov (.t 10))]) <|
  .seq (.block 0 (.seq (.ops [oq 12 (.mov (.t 5)), oq 13 (.lenS (.t 12)), oq 14 (.bin .num .eql (.t 13) (ki 0)), oq 15 (.mov (.t 14)), og 16 15 false (.mov (.t 5)), og 17 15 false (.lenS (.t 16)), og 18 15 false (.bin .num .gtr (.t 17) (ki 65536)), oq 19 (.pick (.t 15) (.c (.bool true)) (.t 18)), oq 11 (.mov (.t 19))]) <|
   .cond (.t 11) (.seq (.ops [oq 4 (.mov (ki 2))]) <|
    .ret) (.seq (.ops [oq 21 (.mov (.t 0)), oq 22 (.nilCheck (.t 21)), oq 23 (.fieldAddr 1 (.t 22)), oq 24 (.load1 (.t 23)), oq 25 (.bin .num .geq (.t 24) (ki 1152921504606846976)), oq 20 (.mov (.t 25))]) <|
    .cond (.t 20) (.seq (.ops [oq 4 (.mov (ki 15))]) <|
     .ret) (.skip)))) <|
  .seq (.seq (.ops [oq 26 (.mov (.t 0)), oq 27 (.nilCheck (.t 26)), oq 28 (.fieldAddr 0 (.t 27)), oq 29 (.load1 (.t 28)), oq 30 (.mov (.t 0)), oq 31 (.nilCheck (.t 30)), oq 32 (.fieldAddr 1 (.t 31)), oq 33 (.load1 (.t 32)), oq 34 (.bin .num .add (.t 33) (ki 1)), oq 35 (.call .pure 13 [(.t 34)]), oq 36 (.mov (.t 0)), oq 37 (.nilCheck (.t 36)), oq 38 (.fieldAddr 1 (.t 37)), oq 39 (.load1 (.t 38)), oq 40 (.bin .num .add (.t 39) (ki 1)), oq 41 (.mov (.t 5)), oq 42 (.call .pure 25 [(.t 40), (.t 41)]), oq 43 (.call .shared 12 [(.t 29), (.t 35), (.t 42)]), oq 6 (.mov (.t 43))]) <|
  .seq (.ops [oq 44 (.mov (.t 6)), oq 45 (.bin .num .neq (.t 44) (ki 0))]) <|
  .cond (.t 45) (.seq (.ops [oq 46 (.mov (.t 6)), oq 4 (.mov (.t 46))]) <|
   .ret) (.skip)) <|
  .seq (.ops [oq 47 (.mov (.t 0)), oq 48 (.mov (.t 0)), oq 49 (.mov (.t 0)), oq 50 (.nilCheck (.t 49)), oq 51 (.fieldAddr 1 (.t 50)), oq 52 (.load1 (.t 51)), oq 53 (.bin .num .add (.t 52) (ki 1)), oq 54 (.mov (.t 5)), oq 55 (.nilCheck (.t 47)), oq 56 (.fieldAddr 1 (.t 55)), ⟨none, none, .store1 (.t 56) (.t 53)⟩, oq 57 (.nilCheck (.t 48)), oq 58 (.fieldAddr 2 (.t 57)), ⟨none, none, .store1 (.t 58) (.t 54)⟩]) <|
  .seq (.ops [oq 4 (.mov (ki 0))]) <|
  .ret
def v10 : VFunc := ⟨59, [.tmp 4], c10⟩
/-- (*berthing/disk.Disk).Clone -/
def c11 : VCode :=
  .seq (.ops [oq 2 (.mov (.c .nilp))]) <|
  .seq (.seq (.ops [oq 6 (.mov (.t 0)), oq 7 (.bin .ptr .eql (.t 6) (.c .nilp))]) <|
  .cond (.t 7) (.seq (.ops [oq 2 (.mov (.c .nilp))]) <|
   .ret) (.skip)) <|
  .seq (.ops [oq 8 (.mov (.t 0)), oq 9 (.nilCheck (.t 8)), oq 10 (.loadN 6 (.t 9)), oq 3 (.alloc [(.sl .nil 0 []), (.sl .nil 0 []), (.int .i64 0), (.bool false), (.int .i64 0), (.sl .nil 0 [])]), ⟨none, none, .storeN 6 (.t 3) (.t 10)⟩]) <|
  .seq (.ops [oq 11 (.mov (.t 0)), oq 12 (.nilCheck (.t 11)), oq 13 (.fieldAddr 5 (.t 12)), oq 14 (.load1 (.t 13)), oq 15 (.call .own 26 [(.t 14)]), oq 16 (.fieldAddr 5 (.t 3)), ⟨none, none, .store1 (.t 16) (.t 15)⟩]) <|
  .seq (.seq (.ops [oq 17 (.mov (.t 0)), oq 18 (.nilCheck (.t 17)), oq 19 (.fieldAddr 0 (.t 18)), oq 20 (.loadN 2 (.t 19)), oq 21 (.mov (ki 0))]) <|
  .block 0 (.loop (.seq (.ops [oq 22 (.bin .num .lss (.t 21) (ki 2))]) <|
    .seq (.cond (.t 22) (.skip) (.exit 0)) <|
    .seq (.block 1 (.seq (.ops [oq 23 (.mov (.t 21)), oq 24 (.idxA1 2 (.t 20) (.t 21)), oq 4 (.mov (.t 23)), oq 5 (.mov (.t 24))]) <|
     .ops [oq 25 (.mov (.t 4)), oq 26 (.mov (.t 5)), oq 27 (.call (.lend true) 27 [(.t 26)]), oq 28 (.fieldAddr 0 (.t 3)), oq 29 (.idxAddrA 2 1 (.t 28) (.t 25)), ⟨none, none, .store1 (.t 29) (.t 27)⟩])) <|
    .ops [oq 30 (.bin .num .add (.t 21) (ki 1)), oq 21 (.mov (.t 30))]))) <|
  .seq (.ops [oq 2 (.mov (.t 3))]) <|
  .ret
def v11 : VFunc := ⟨31, [.tmp 2], c11⟩
/-- (*berthing/disk.Disk).Write -/
def c12 : VCode :=
  .seq (.ops [oq 6 (.mov (ki 0))]) <|
  .seq (.seq (.ops [oq 9 (.mov (.t 0)), oq 10 (.mov (.t 1)), oq 11 (.call .shared 28 [(.t 9), (.t 10)]), oq 7 (.mov (.t 11))]) <|
  .seq (.ops [oq 12 (.mov (.t 7)), oq 13 (.bin .num .neq (.t 12) (ki 0))]) <|
  .cond (.t 13) (.seq (.ops [oq 14 (.mov (.t 7)), oq 6 (.mov (.t 14))]) <|
   .ret) (.skip)) <|
  .seq (.seq (.ops [oq 15 (.mov (.t 2)), oq 16 (.lenS (.t 15)), oq 17 (.mov (.t 0)), oq 18 (.call .shared 20 [(.t 17)]), oq 19 (.bin .num .gtr (.t 16) (.t 18))]) <|
  .cond (.t 19) (.seq (.ops [oq 6 (.mov (ki 2))]) <|
   .ret) (.skip)) <|
  .seq (.ops [oq 20 (.mov (.t 0)), oq 21 (.mov (.t 0)), oq 22 (.nilCheck (.t 21)), oq 23 (.fieldAddr 5 (.t 22)), oq 24 (.load1 (.t 23)), oq 25 (.mov (.t 2)), oq 26 (.call .pure 27 [(.t 25)]), oq 27 (.buildSlice false 1 1 [(.sl .nil 0 [])] [(0, 1, (.t 26))]), oq 28 (.append false false 1 24 (.t 24) (.t 27)), oq 29 (.nilCheck (.t 20)), oq 30 (.fieldAddr 5 (.t 29)), ⟨none, none, .store1 (.t 30) (.t 28)⟩]) <|
  .seq (.ops [oq 31 (.mov (.t 2)), oq 32 (.lenS (.t 31)), oq 8 (.mov (.t 32))]) <|
  .seq (.seq (.ops [oq 33 (.mov (.t 0)), oq 34 (.nilCheck (.t 33)), oq 35 (.fieldAddr 2 (.t 34)), oq 36 (.load1 (.t 35)), oq 37 (.bin .num .geq (.t 36) (ki 0)), oq 38 (.mov (.t 37)), og 39 38 true (.mov (.t 0)), og 40 38 true (.nilCheck (.t 39)), og 41 38 true (.fieldAddr 2 (.t 40)), og 42 38 true (.load1 (.t 41)), og 43 38 true (.mov (.t 8)), og 44 38 true (.bin .num .leq (.t 42) (.t 43)), oq 45 (.pick (.t 38) (.t 44) (.c (.bool false)))]) <|
  .cond (.t 45) (.ops [oq 46 (.mov (.t 0)), oq 47 (.mov (.t 0)), oq 48 (.nilCheck (.t 47)), oq 49 (.fieldAddr 2 (.t 48)), oq 50 (.load1 (.t 49)), oq 8 (.mov (.t 50)), oq 51 (.nilCheck (.t 46)), oq 52 (.fieldAddr 3 (.t 51)), ⟨none, none, .store1 (.t 52) (.c (.bool true))⟩]) (.skip)) <|
  .seq (.ops [oq 53 (.mov (.t 0)), oq 54 (.mov (.t 1)), oq 55 (.nilCheck (.t 53)), oq 56 (.fieldAddr 0 (.t 55)), oq 57 (.idxAddrA 2 1 (.t 56) (.t 54)), oq 58 (.load1 (.t 57)), oq 59 (.mov (.t 2)), oq 60 (.mov (.t 8)), oq 61 (.sliceS 1 (.t 59) none (some (.t 60)) none), oq 62 (.copy false 1 (.t 58) (.t 61))]) <|
  .seq (.ops [oq 63 (.mov (.t 0)), oq 64 (.nilCheck (.t 63)), oq 65 (.fieldAddr 4 (.t 64)), oq 66 (.load1 (.t 65)), oq 67 (.mov (.t 8)), oq 68 (.bin .num .add (.t 66) (.t 67)), oq 69 (.nilCheck (.t 63)), oq 70 (.fieldAddr 4 (.t 69)), ⟨none, none, .store1 (.t 70) (.t 68)⟩]) <|
  .seq (.seq (.ops [oq 71 (.mov (.t 0)), oq 72 (.nilCheck (.t 71)), oq 73 (.fieldAddr 2 (.t 72)), oq 74 (.load1 (.t 73)), oq 75 (.bin .num .gtr (.t 74) (ki 0))]) <|
  .cond (.t 75) (.ops [oq 76 (.mov (.t 0)), oq 77 (.nilCheck (.t 76)), oq 78 (.fieldAddr 2 (.t 77)), oq 79 (.load1 (.t 78)), oq 80 (.mov (.t 8)), oq 81 (.bin .num .sub (.t 79) (.t 80)), oq 82 (.nilCheck (.t 76)), oq 83 (.fieldAddr 2 (.t 82)), ⟨none, none, .store1 (.t 83) (.t 81)⟩]) (.skip)) <|
  .seq (.seq (.ops [oq 84 (.mov (.t 0)), oq 85 (.nilCheck (.t 84)), oq 86 (.fieldAddr 3 (.t 85)), oq 87 (.load1 (.t 86))]) <|
  .cond (.t 87) (.seq (.ops [oq 6 (.mov (ki 26))]) <|
   .ret) (.skip)) <|
  .seq (.ops [oq 6 (.mov (ki 0))]) <|
  .ret
def v12 : VFunc := ⟨88, [.tmp 6], c12⟩
/-- berthing/vault.Slot -/
def c13 : VCode :=
  .seq (.ops [oq 2 (.mov (ki 0))]) <|
  .seq (.seq (.ops [oq 3 (.mov (.t 0)), oq 4 (.bin .num .lss (.t 3) (ki 0))]) <|
  .cond (.t 4) (.seq (.ops [oq 2 (.mov (ki 0))]) <|
   .ret) (.skip)) <|
  .seq (.ops [oq 5 (.mov (.t 0)), oq 6 (.bin .num .rem (.t 5) (ki 2)), oq 2 (.mov (.t 6))]) <|
  .ret
def v13 : VFunc := ⟨7, [.tmp 2], c13⟩
/-- berthing/berthingref15.Same -/
def c14 : VCode :=
  .seq (.ops [oq 2 (.box (.t 0)), oq 3 (.box (.t 1)), oq 4 (.mov (.c (.bool false)))]) <|
  .seq (.seq (.ops [oq 10 (.fieldAddr 0 (.t 2)), oq 11 (.load1 (.t 10)), oq 12 (.fieldAddr 0 (.t 3)), oq 13 (.load1 (.t 12)), oq 14 (.bin .num .neq (.t 11) (.t 13)), oq 15 (.mov (.t 14)), og 16 15 false (.fieldAddr 1 (.t 2)), og 17 15 false (.load1 (.t 16)), og 18 15 false (.lenS (.t 17)), og 19 15 false (.fieldAddr 1 (.t 3)), og 20 15 false (.load1 (.t 19)), og 21 15 false (.lenS (.t 20)), og 22 15 false (.bin .num .neq (.t 18) (.t 21)), oq 23 (.pick (.t 15) (.c (.bool true)) (.t 22)), oq 24 (.mov (.t 23)), og 25 24 false (.fieldAddr 2 (.t 2)), og 26 24 false (.load1 (.t 25)), og 27 24 false (.lenS (.t 26)), og 28 24 false (.fieldAddr 2 (.t 3)), og 29 24 false (.load1 (.t 28)), og 30 24 false (.lenS (.t 29)), og 31 24 false (.bin .num .neq (.t 27) (.t 30)), oq 32 (.pick (.t 24) (.c (.bool true)) (.t 31))]) <|
  .cond (.t 32) (.seq (.ops [oq 4 (.mov (.c (.bool false)))]) <|
   .ret) (.skip)) <|
  .seq (.seq (.ops [oq 33 (.fieldAddr 1 (.t 2)), oq 34 (.load1 (.t 33)), oq 35 (.lenS (.t 34)), oq 36 (.mov (ki 0))]) <|
  .block 0 (.loop (.seq (.ops [oq 37 (.bin .num .lss (.t 36) (.t 35))]) <|
    .seq (.cond (.t 37) (.skip) (.exit 0)) <|
    .seq (.block 1 (.seq (.ops [oq 38 (.mov (.t 36)), oq 39 (.idxAddrS 10 (.t 34) (.t 36)), oq 40 (.loadN 10 (.t 39)), oq 6 (.alloc [(.str ⟨#[]⟩), (.int .i64 0), (.int .i64 0), (.sl .nil 0 []), (.str ⟨#[]⟩), (.int .i64 0), (.int .i64 0), (.sl .nil 0 []), (.int .i64 0), (.int .i64 0)]), oq 5 (.mov (.t 38)), ⟨none, none, .storeN 10 (.t 6) (.t 40)⟩]) <|
     .seq (.ops [oq 41 (.fieldAddr 1 (.t 3)), oq 42 (.load1 (.t 41)), oq 43 (.mov (.t 5)), oq 44 (.idxAddrS 10 (.t 42) (.t 43)), oq 45 (.loadN 10 (.t 44)), oq 7 (.alloc [(.str ⟨#[]⟩), (.int .i64 0), (.int .i64 0), (.sl .nil 0 []), (.str ⟨#[]⟩), (.int .i64 0), (.int .i64 0), (.sl .nil 0 []), (.int .i64 0), (.int .i64 0)]), ⟨none, none, .storeN 10 (.t 7) (.t 45)⟩]) <|
     .seq (.ops [oq 46 (.fieldAddr 0 (.t 6)), oq 47 (.loadN 4 (.t 46)), oq 48 (.fieldAddr 0 (.t 7)), oq 49 (.loadN 4 (.t 48)), oq 50 (.call .pure 29 [(.t 47), (.t 49)]), oq 51 (.un .not (.t 50)), oq 52 (.mov (.t 51)), og 53 52 false (.fieldAddr 4 (.t 6)), og 54 52 false (.loadN 4 (.t 53)), og 55 52 false (.fieldAddr 4 (.t 7)), og 56 52 false (.loadN 4 (.t 55)), og 57 52 false (.call .pure 29 [(.t 54), (.t 56)]), og 58 52 false (.un .not (.t 57)), oq 59 (.pick (.t 52) (.c (.bool true)) (.t 58)), oq 60 (.mov (.t 59)), og 61 60 false (.fieldAddr 8 (.t 6)), og 62 60 false (.load1 (.t 61)), og 63 60 false (.fieldAddr 8 (.t 7)), og 64 60 false (.load1 (.t 63)), og 65 60 false (.bin .num .neq (.t 62) (.t 64)), oq 66 (.pick (.t 60) (.c (.bool true)) (.t 65)), oq 67 (.mov (.t 66)), og 68 67 false (.fieldAddr 9 (.t 6)), og 69 67 false (.load1 (.t 68)), og 70 67 false (.fieldAddr 9 (.t 7)), og 71 67 false (.load1 (.t 70)), og 72 67 false (.bin .num .neq (.t 69) (.t 71)), oq 73 (.pick (.t 67) (.c (.bool true)) (.t 72))]) <|
     .cond (.t 73) (.seq (.ops [oq 4 (.mov (.c (.bool false)))]) <|
      .ret) (.skip))) <|
    .ops [oq 74 (.bin .num .add (.t 36) (ki 1)), oq 36 (.mov (.t 74))]))) <|
  .seq (.seq (.ops [oq 75 (.fieldAddr 2 (.t 2)), oq 76 (.load1 (.t 75)), oq 77 (.lenS (.t 76)), oq 78 (.mov (ki 0))]) <|
  .block 2 (.loop (.seq (.ops [oq 79 (.bin .num .lss (.t 78) (.t 77))]) <|
    .seq (.cond (.t 79) (.skip) (.exit 2)) <|
    .seq (.block 3 (.seq (.ops [oq 80 (.mov (.t 78)), oq 81 (.idxAddrS 11 (.t 76) (.t 78)), oq 82 (.loadN 11 (.t 81)), oq 9 (.alloc [(.str ⟨#[]⟩), (.str ⟨#[]⟩), (.int .i64 0), (.int .i64 0), (.int .i64 0), (.int .i64 0), (.int .i64 0), (.int .i64 0), (.int .i64 0), (.int .i64 0), (.int .i64 0)]), oq 8 (.mov (.t 80)), ⟨none, none, .storeN 11 (.t 9) (.t 82)⟩]) <|
     .seq (.ops [oq 83 (.loadN 11 (.t 9)), oq 84 (.fieldAddr 2 (.t 3)), oq 85 (.load1 (.t 84)), oq 86 (.mov (.t 8)), oq 87 (.idxAddrS 11 (.t 85) (.t 86)), oq 88 (.loadN 11 (.t 87)), oq 89 (.bin (.agg [.s, .s, .i, .i, .i, .i, .i, .i, .i, .i, .i]) .neq (.t 83) (.t 88))]) <|
     .cond (.t 89) (.seq (.ops [oq 4 (.mov (.c (.bool false)))]) <|
      .ret) (.skip))) <|
    .ops [oq 90 (.bin .num .add (.t 78) (ki 1)), oq 78 (.mov (.t 90))]))) <|
  .seq (.ops [oq 4 (.mov (.c (.bool true)))]) <|
  .ret
def v14 : VFunc := ⟨91, [.tmp 4], c14⟩
/-- berthing/vault.Room -/
def c15 : VCode :=
  .seq (.ops [oq 0 (.mov (ki 0))]) <|
  .seq (.ops [oq 1 (.call .pure 30 [(ki 65536)]), oq 0 (.mov (.t 1))]) <|
  .ret
def v15 : VFunc := ⟨2, [.tmp 0], c15⟩
/-- (*berthing/disk.Disk).Arm -/
def c16 : VCode :=
  .seq (.ops [oq 4 (.mov (.t 0)), oq 5 (.bin .ptr .neq (.t 4) (.c .nilp))]) <|
  .cond (.t 5) (.ops [oq 6 (.mov (.t 0)), oq 7 (.mov (.t 1)), oq 8 (.minmax true [(.t 7), (.c (.int .i64 (-1)))]), oq 9 (.nilCheck (.t 6)), oq 10 (.fieldAddr 2 (.t 9)), ⟨none, none, .store1 (.t 10) (.t 8)⟩]) (.skip)
def v16 : VFunc := ⟨11, [], c16⟩
/-- (*berthing/disk.Disk).Up -/
def c17 : VCode :=
  .seq (.ops [oq 2 (.mov (.t 0)), oq 3 (.bin .ptr .neq (.t 2) (.c .nilp))]) <|
  .cond (.t 3) (.ops [oq 4 (.mov (.t 0)), oq 5 (.mov (.t 0)), oq 6 (.nilCheck (.t 4)), oq 7 (.fieldAddr 3 (.t 6)), ⟨none, none, .store1 (.t 7) (.c (.bool false))⟩, oq 8 (.nilCheck (.t 5)), oq 9 (.fieldAddr 2 (.t 8)), ⟨none, none, .store1 (.t 9) (.c (.int .i64 (-1)))⟩]) (.skip)
def v17 : VFunc := ⟨10, [], c17⟩
/-- (*berthing/vault.Vault).Disk -/
def c18 : VCode :=
  .seq (.ops [oq 2 (.mov (.c .nilp))]) <|
  .seq (.seq (.ops [oq 3 (.mov (.t 0)), oq 4 (.bin .ptr .eql (.t 3) (.c .nilp))]) <|
  .cond (.t 4) (.seq (.ops [oq 2 (.mov (.c .nilp))]) <|
   .ret) (.skip)) <|
  .seq (.ops [oq 5 (.mov (.t 0)), oq 6 (.nilCheck (.t 5)), oq 7 (.fieldAddr 0 (.t 6)), oq 8 (.load1 (.t 7)), oq 2 (.mov (.t 8))]) <|
  .ret
def v18 : VFunc := ⟨9, [.tmp 2], c18⟩
/-- berthing/berthinglaw05.Great -/
def c19 : VCode :=
  .seq (.ops [oq 1 (.box (.t 0)), oq 2 (.mov (ki 0))]) <|
  .seq (.ops [oq 6 (.fieldAddr 0 (.t 1)), oq 7 (.load1 (.t 6)), oq 8 (.lenStr (.t 7)), oq 3 (.mov (.t 8))]) <|
  .seq (.seq (.ops [oq 9 (.fieldAddr 3 (.t 1)), oq 10 (.load1 (.t 9)), oq 11 (.lenS (.t 10)), oq 12 (.mov (ki 0))]) <|
  .block 0 (.loop (.seq (.ops [oq 13 (.bin .num .lss (.t 12) (.t 11))]) <|
    .seq (.cond (.t 13) (.skip) (.exit 0)) <|
    .seq (.block 1 (.seq (.ops [oq 14 (.mov (.t 12)), oq 15 (.idxAddrS 10 (.t 10) (.t 12)), oq 16 (.loadN 10 (.t 15)), oq 5 (.alloc [(.str ⟨#[]⟩), (.int .i64 0), (.int .i64 0), (.int .i64 0), (.int .i64 0), (.int .i64 0), (.int .i64 0), (.bool false), (.bool false), (.bool false)]), oq 4 (.mov (.t 14)), ⟨none, none, .storeN 10 (.t 5) (.t 16)⟩]) <|
     .seq (.seq (.ops [oq 17 (.mov (.t 4)), oq 18 (.bin .num .gtr (.t 17) (ki 50))]) <|
     .cond (.t 18) (.seq (.ops [oq 2 (.mov (ki 5000))]) <|
      .ret) (.skip)) <|
     .ops [oq 19 (.mov (.t 3)), oq 20 (.fieldAddr 0 (.t 5)), oq 21 (.load1 (.t 20)), oq 22 (.lenStr (.t 21)), oq 23 (.minmax false [(.t 22), (ki 3000)]), oq 24 (.bin .num .add (ki 10) (.t 23)), oq 25 (.bin .num .add (.t 19) (.t 24)), oq 3 (.mov (.t 25))])) <|
    .ops [oq 26 (.bin .num .add (.t 12) (ki 1)), oq 12 (.mov (.t 26))]))) <|
  .seq (.ops [oq 27 (.mov (.t 3)), oq 2 (.mov (.t 27))]) <|
  .ret
def v19 : VFunc := ⟨28, [.tmp 2], c19⟩
/-- (*berthing/disk.Disk).Size -/
def c20 : VCode :=
  .seq (.ops [oq 2 (.mov (ki 0))]) <|
  .seq (.seq (.ops [oq 3 (.mov (.t 0)), oq 4 (.bin .ptr .eql (.t 3) (.c .nilp))]) <|
  .cond (.t 4) (.seq (.ops [oq 2 (.mov (ki 0))]) <|
   .ret) (.skip)) <|
  .seq (.ops [oq 5 (.mov (.t 0)), oq 6 (.nilCheck (.t 5)), oq 7 (.fieldAddr 0 (.t 6)), oq 8 (.idxAddrA 2 1 (.t 7) (ki 0)), oq 9 (.load1 (.t 8)), oq 10 (.lenS (.t 9)), oq 2 (.mov (.t 10))]) <|
  .ret
def v20 : VFunc := ⟨11, [.tmp 2], c20⟩
/-- (*berthing/disk.Disk).Down -/
def c21 : VCode :=
  .seq (.ops [oq 2 (.mov (.c (.bool false)))]) <|
  .seq (.ops [oq 3 (.mov (.t 0)), oq 4 (.bin .ptr .neq (.t 3) (.c .nilp)), oq 5 (.mov (.t 4)), og 6 5 true (.mov (.t 0)), og 7 5 true (.nilCheck (.t 6)), og 8 5 true (.fieldAddr 3 (.t 7)), og 9 5 true (.load1 (.t 8)), oq 10 (.pick (.t 5) (.t 9) (.c (.bool false))), oq 2 (.mov (.t 10))]) <|
  .ret
def v21 : VFunc := ⟨11, [.tmp 2], c21⟩
/-- berthing/vault.counts -/
def c22 : VCode :=
  .seq (.ops [oq 4 (.mov (ki 0)), oq 5 (.mov (.c (.sl .nil 0 [])))]) <|
  .seq (.ops [oq 12 (.mov (.t 0)), oq 13 (.mov (.t 1)), oq 14 (.call .shared 32 [(.t 12), (.t 13)]), oq 15 (.call .pure 31 [(.t 14)]), oq 11 (.mov (.t 15)), oq 16 (.extract 0 (.t 11)), oq 17 (.extract 1 (.t 11)), oq 18 (.extract 2 (.t 11)), oq 6 (.mov (.t 16)), oq 7 (.mov (.t 17)), oq 8 (.mov (.t 18))]) <|
  .seq (.seq (.ops [oq 19 (.mov (.t 8)), oq 20 (.bin .num .neq (.t 19) (ki 0))]) <|
  .cond (.t 20) (.seq (.ops [oq 4 (.mov (ki 0)), oq 5 (.mov (.c (.sl .nil 0 [])))]) <|
   .ret) (.skip)) <|
  .seq (.seq (.ops [oq 22 (.mov (.t 7)), oq 23 (.call .pure 23 [(.t 22)]), oq 21 (.mov (.t 23)), oq 24 (.extract 0 (.t 21)), oq 25 (.extract 1 (.t 21)), oq 9 (.alloc [(.int .i64 0), (.sl .nil 0 []), (.sl .nil 0 [])]), ⟨none, none, .storeN 3 (.t 9) (.t 24)⟩, oq 10 (.mov (.t 25))]) <|
  .seq (.ops [oq 26 (.mov (.t 10)), oq 27 (.bin .num .neq (.t 26) (ki 0))]) <|
  .cond (.t 27) (.seq (.ops [oq 4 (.mov (ki 0)), oq 5 (.mov (.c (.sl .nil 0 [])))]) <|
   .ret) (.skip)) <|
  .seq (.ops [oq 28 (.mov (.t 6)), oq 29 (.mov (.t 7)), oq 4 (.mov (.t 28)), oq 5 (.mov (.t 29))]) <|
  .ret
def v22 : VFunc := ⟨30, [.tmp 4, .tmp 5], c22⟩
/-- berthing/record.Get -/
def c23 : VCode :=
  .seq (.ops [oq 2 (.alloc [(.int .i64 0), (.sl .nil 0 []), (.sl .nil 0 [])]), oq 3 (.mov (ki 0))]) <|
  .seq (.ops [oq 9 (.mov (.t 0)), oq 10 (.call .shared 33 [(.t 9)]), oq 4 (.mov (.t 10))]) <|
  .seq (.ops [oq 11 (.mov (.t 4)), oq 12 (.call .shared 34 [(.t 11), (ki 1099511627776)]), oq 13 (.build [(.int .i64 0), (.sl .nil 0 []), (.sl .nil 0 [])] [(0, 1, (.t 12))]), oq 5 (.alloc [(.int .i64 0), (.sl .nil 0 []), (.sl .nil 0 [])]), ⟨none, none, .storeN 3 (.t 5) (.t 13)⟩]) <|
  .seq (.seq (.ops [oq 14 (.mov (.t 4)), oq 15 (.call .shared 34 [(.t 14), (ki 16)]), oq 16 (.mov (ki 0))]) <|
  .block 0 (.loop (.seq (.ops [oq 17 (.bin .num .lss (.t 16) (.t 15))]) <|
    .seq (.cond (.t 17) (.skip) (.exit 0)) <|
    .seq (.block 1 (.draw [] [oq 18 (.fieldAddr 1 (.t 5)), oq 19 (.load1 (.t 18)), oq 20 (.mov (.t 4)), oq 21 (.call .shared 35 [(.t 20)]), oq 22 (.buildSlice false 10 1 [(.str ⟨#[]⟩), (.int .i64 0), (.int .i64 0), (.sl .nil 0 []), (.str ⟨#[]⟩), (.int .i64 0), (.int .i64 0), (.sl .nil 0 []), (.int .i64 0), (.int .i64 0)] [(0, 10, (.t 21))]), oq 23 (.append false false 10 128 (.t 19) (.t 22)), oq 24 (.fieldAddr 1 (.t 5)), ⟨none, none, .store1 (.t 24) (.t 23)⟩] [(1, 3)])) <|
    .ops [oq 25 (.bin .num .add (.t 16) (ki 1)), oq 16 (.mov (.t 25))]))) <|
  .seq (.seq (.ops [oq 26 (.mov (.t 4)), oq 27 (.call .shared 34 [(.t 26), (ki 192)]), oq 28 (.mov (ki 0))]) <|
  .block 2 (.loop (.seq (.ops [oq 29 (.bin .num .lss (.t 28) (.t 27))]) <|
    .seq (.cond (.t 29) (.skip) (.exit 2)) <|
    .seq (.block 3 (.seq (.ops [oq 30 (.mov (.t 4)), oq 31 (.call .shared 36 [(.t 30), (ki 16)]), oq 32 (.mov (.t 4)), oq 33 (.call .shared 36 [(.t 32), (ki 16)]), oq 34 (.mov (.t 4)), oq 35 (.call .shared 34 [(.t 34), (ki 1)]), oq 36 (.build [(.str ⟨#[]⟩), (.str ⟨#[]⟩), (.int .i64 0)] [(0, 1, (.t 31)), (1, 1, (.t 33)), (2, 1, (.t 35))]), oq 37 (.build [(.str ⟨#[]⟩), (.str ⟨#[]⟩), (.int .i64 0), (.int .i64 0), (.int .i64 0), (.int .i64 0), (.int .i64 0), (.int .i64 0), (.int .i64 0), (.int .i64 0), (.int .i64 0)] [(0, 3, (.t 36))]), oq 6 (.alloc [(.str ⟨#[]⟩), (.str ⟨#[]⟩), (.int .i64 0), (.int .i64 0), (.int .i64 0), (.int .i64 0), (.int .i64 0), (.int .i64 0), (.int .i64 0), (.int .i64 0), (.int .i64 0)]), ⟨none, none, .storeN 11 (.t 6) (.t 37)⟩]) <|
     .seq (.seq (.ops [oq 38 (.mov (ki 0))]) <|
     .block 4 (.loop (.seq (.ops [oq 39 (.bin .num .lss (.t 38) (ki 8))]) <|
       .seq (.cond (.t 39) (.skip) (.exit 4)) <|
       .seq (.block 5 (.seq (.ops [oq 40 (.mov (.t 38)), oq 7 (.mov (.t 40))]) <|
        .ops [oq 41 (.mov (.t 7)), oq 42 (.mov (.t 4)), oq 43 (.call .shared 34 [(.t 42), (ki 1073741824)]), oq 44 (.fieldAddr 3 (.t 6)), oq 45 (.idxAddrA 8 1 (.t 44) (.t 41)), ⟨none, none, .store1 (.t 45) (.t 43)⟩])) <|
       .ops [oq 46 (.bin .num .add (.t 38) (ki 1)), oq 38 (.mov (.t 46))]))) <|
     .ops [oq 47 (.fieldAddr 2 (.t 5)), oq 48 (.load1 (.t 47)), oq 49 (.loadN 11 (.t 6)), oq 50 (.buildSlice false 11 1 [(.str ⟨#[]⟩), (.str ⟨#[]⟩), (.int .i64 0), (.int .i64 0), (.int .i64 0), (.int .i64 0), (.int .i64 0), (.int .i64 0), (.int .i64 0), (.int .i64 0), (.int .i64 0)] [(0, 11, (.t 49))]), oq 51 (.append false false 11 104 (.t 48) (.t 50)), oq 52 (.fieldAddr 2 (.t 5)), ⟨none, none, .store1 (.t 52) (.t 51)⟩])) <|
    .ops [oq 53 (.bin .num .add (.t 28) (ki 1)), oq 28 (.mov (.t 53))]))) <|
  .seq (.seq (.ops [oq 54 (.mov (.t 4)), oq 55 (.call .shared 37 [(.t 54)]), oq 8 (.mov (.t 55))]) <|
  .seq (.ops [oq 56 (.mov (.t 8)), oq 57 (.bin .num .neq (.t 56) (ki 0))]) <|
  .cond (.t 57) (.seq (.ops [oq 58 (.build [(.int .i64 0), (.sl .nil 0 []), (.sl .nil 0 [])] []), oq 59 (.mov (.t 8)), ⟨none, none, .storeN 3 (.t 2) (.t 58)⟩, oq 3 (.mov (.t 59))]) <|
   .ret) (.skip)) <|
  .seq (.seq (.ops [oq 60 (.loadN 3 (.t 5)), oq 61 (.call .pure 38 [(.t 60)]), oq 62 (.un .not (.t 61))]) <|
  .cond (.t 62) (.seq (.ops [oq 63 (.build [(.int .i64 0), (.sl .nil 0 []), (.sl .nil 0 [])] []), ⟨none, none, .storeN 3 (.t 2) (.t 63)⟩, oq 3 (.mov (ki 11))]) <|
   .ret) (.skip)) <|
  .seq (.ops [oq 64 (.loadN 3 (.t 5)), ⟨none, none, .storeN 3 (.t 2) (.t 64)⟩, oq 3 (.mov (ki 0))]) <|
  .ret
def v23 : VFunc := ⟨65, [.cellN 3 2, .tmp 3], c23⟩
/-- berthing/record.Put -/
def c24 : VCode :=
  .seq (.ops [oq 1 (.box (.t 0)), oq 2 (.mov (.c (.sl .nil 0 [])))]) <|
  .seq (.seq (.ops [oq 15 (.loadN 3 (.t 1)), oq 16 (.call .pure 38 [(.t 15)]), oq 17 (.un .not (.t 16))]) <|
  .cond (.t 17) (.seq (.ops [oq 2 (.mov (.c (.sl .nil 0 [])))]) <|
   .ret) (.skip)) <|
  .seq (.ops [oq 18 (.build [(.sl .nil 0 [])] []), oq 19 (.box (.t 18)), oq 3 (.mov (.t 19))]) <|
  .seq (.ops [oq 20 (.mov (.t 3)), oq 21 (.fieldAddr 0 (.t 1)), oq 22 (.load1 (.t 21)), oq 23 (.conv .u64 (.t 22)), oq 24 (.call .shared 39 [(.t 20), (.t 23)])]) <|
  .seq (.ops [oq 25 (.mov (.t 3)), oq 26 (.fieldAddr 1 (.t 1)), oq 27 (.load1 (.t 26)), oq 28 (.lenS (.t 27)), oq 29 (.conv .u64 (.t 28)), oq 30 (.call .shared 39 [(.t 25), (.t 29)])]) <|
  .seq (.seq (.ops [oq 31 (.fieldAddr 1 (.t 1)), oq 32 (.load1 (.t 31)), oq 33 (.lenS (.t 32)), oq 34 (.mov (ki 0))]) <|
  .block 0 (.loop (.seq (.ops [oq 35 (.bin .num .lss (.t 34) (.t 33))]) <|
    .seq (.cond (.t 35) (.skip) (.exit 0)) <|
    .seq (.block 1 (.seq (.ops [oq 36 (.idxAddrS 10 (.t 32) (.t 34)), oq 37 (.loadN 10 (.t 36)), oq 5 (.alloc [(.str ⟨#[]⟩), (.int .i64 0), (.int .i64 0), (.sl .nil 0 []), (.str ⟨#[]⟩), (.int .i64 0), (.int .i64 0), (.sl .nil 0 []), (.int .i64 0), (.int .i64 0)]), ⟨none, none, .storeN 10 (.t 5) (.t 37)⟩]) <|
     .seq (.ops [oq 38 (.mov (.t 3)), oq 39 (.fieldAddr 0 (.t 5)), oq 40 (.fieldAddr 0 (.t 39)), oq 41 (.load1 (.t 40)), oq 42 (.call .shared 40 [(.t 38), (.t 41)])]) <|
     .seq (.ops [oq 43 (.mov (.t 3)), oq 44 (.fieldAddr 0 (.t 5)), oq 45 (.fieldAddr 1 (.t 44)), oq 46 (.load1 (.t 45)), oq 47 (.call .shared 41 [(.t 43), (.t 46)])]) <|
     .seq (.ops [oq 48 (.mov (.t 3)), oq 49 (.fieldAddr 0 (.t 5)), oq 50 (.fieldAddr 2 (.t 49)), oq 51 (.load1 (.t 50)), oq 52 (.conv .u64 (.t 51)), oq 53 (.call .shared 39 [(.t 48), (.t 52)])]) <|
     .seq (.ops [oq 54 (.mov (.t 3)), oq 55 (.fieldAddr 0 (.t 5)), oq 56 (.fieldAddr 3 (.t 55)), oq 57 (.load1 (.t 56)), oq 58 (.lenS (.t 57)), oq 59 (.conv .u64 (.t 58)), oq 60 (.call .shared 39 [(.t 54), (.t 59)])]) <|
     .seq (.seq (.ops [oq 61 (.fieldAddr 0 (.t 5)), oq 62 (.fieldAddr 3 (.t 61)), oq 63 (.load1 (.t 62)), oq 64 (.lenS (.t 63)), oq 65 (.mov (ki 0))]) <|
     .block 2 (.loop (.seq (.ops [oq 66 (.bin .num .lss (.t 65) (.t 64))]) <|
       .seq (.cond (.t 66) (.skip) (.exit 2)) <|
       .seq (.block 3 (.seq (.ops [oq 67 (.mov (.t 65)), oq 68 (.idxAddrS 10 (.t 63) (.t 65)), oq 69 (.loadN 10 (.t 68)), oq 7 (.alloc [(.str ⟨#[]⟩), (.int .i64 0), (.int .i64 0), (.int .i64 0), (.int .i64 0), (.int .i64 0), (.int .i64 0), (.bool false), (.bool false), (.bool false)]), oq 6 (.mov (.t 67)), ⟨none, none, .storeN 10 (.t 7) (.t 69)⟩]) <|
        .seq (.ops [oq 70 (.mov (.t 3)), oq 71 (.fieldAddr 0 (.t 7)), oq 72 (.load1 (.t 71)), oq 73 (.call .shared 40 [(.t 70), (.t 72)])]) <|
        .seq (.seq (.ops [oq 74 (.fieldAddr 7 (.t 7)), oq 75 (.loadN 3 (.t 74)), oq 76 (.mov (ki 0))]) <|
        .block 4 (.loop (.seq (.ops [oq 77 (.bin .num .lss (.t 76) (ki 3))]) <|
          .seq (.cond (.t 77) (.skip) (.exit 4)) <|
          .seq (.block 5 (.seq (.ops [oq 78 (.idxA1 3 (.t 75) (.t 76)), oq 9 (.mov (.t 78))]) <|
           .ops [oq 79 (.mov (.t 3)), oq 80 (.mov (.t 9)), oq 81 (.call .shared 42 [(.t 79), (.t 80)])])) <|
          .ops [oq 82 (.bin .num .add (.t 76) (ki 1)), oq 76 (.mov (.t 82))]))) <|
        .seq (.ops [oq 83 (.fieldAddr 4 (.t 5)), oq 84 (.fieldAddr 3 (.t 83)), oq 85 (.load1 (.t 84)), oq 86 (.mov (.t 6)), oq 87 (.idxAddrS 10 (.t 85) (.t 86)), oq 88 (.loadN 10 (.t 87)), oq 10 (.alloc [(.str ⟨#[]⟩), (.int .i64 0), (.int .i64 0), (.int .i64 0), (.int .i64 0), (.int .i64 0), (.int .i64 0), (.bool false), (.bool false), (.bool false)]), ⟨none, none, .storeN 10 (.t 10) (.t 88)⟩]) <|
        .ops [oq 89 (.mov (.t 3)), oq 90 (.fieldAddr 1 (.t 7)), oq 91 (.loadN 3 (.t 90)), oq 92 (.fieldAddr 4 (.t 7)), oq 93 (.loadN 3 (.t 92)), oq 94 (.fieldAddr 1 (.t 10)), oq 95 (.loadN 3 (.t 94)), oq 96 (.fieldAddr 4 (.t 10)), oq 97 (.loadN 3 (.t 96)), oq 98 (.buildSlice false 3 4 [(.int .i64 0), (.int .i64 0), (.int .i64 0), (.int .i64 0), (.int .i64 0), (.int .i64 0), (.int .i64 0), (.int .i64 0), (.int .i64 0), (.int .i64 0), (.int .i64 0), (.int .i64 0)] [(0, 3, (.t 91)), (3, 3, (.t 93)), (6, 3, (.t 95)), (9, 3, (.t 97))]), oq 99 (.call .shared 43 [(.t 89), (.t 98)])])) <|
       .ops [oq 100 (.bin .num .add (.t 65) (ki 1)), oq 65 (.mov (.t 100))]))) <|
     .seq (.ops [oq 101 (.mov (.t 3)), oq 102 (.fieldAddr 8 (.t 5)), oq 103 (.load1 (.t 102)), oq 104 (.conv .u64 (.t 103)), oq 105 (.call .shared 39 [(.t 101), (.t 104)])]) <|
     .ops [oq 106 (.mov (.t 3)), oq 107 (.fieldAddr 9 (.t 5)), oq 108 (.load1 (.t 107)), oq 109 (.conv .u64 (.t 108)), oq 110 (.call .shared 39 [(.t 106), (.t 109)])])) <|
    .ops [oq 111 (.bin .num .add (.t 34) (ki 1)), oq 34 (.mov (.t 111))]))) <|
  .seq (.ops [oq 112 (.mov (.t 3)), oq 113 (.fieldAddr 2 (.t 1)), oq 114 (.load1 (.t 113)), oq 115 (.lenS (.t 114)), oq 116 (.conv .u64 (.t 115)), oq 117 (.call .shared 39 [(.t 112), (.t 116)])]) <|
  .seq (.seq (.ops [oq 118 (.fieldAddr 2 (.t 1)), oq 119 (.load1 (.t 118)), oq 120 (.lenS (.t 119)), oq 121 (.mov (ki 0))]) <|
  .block 6 (.loop (.seq (.ops [oq 122 (.bin .num .lss (.t 121) (.t 120))]) <|
    .seq (.cond (.t 122) (.skip) (.exit 6)) <|
    .seq (.block 7 (.seq (.ops [oq 123 (.idxAddrS 11 (.t 119) (.t 121)), oq 124 (.loadN 11 (.t 123)), oq 12 (.alloc [(.str ⟨#[]⟩), (.str ⟨#[]⟩), (.int .i64 0), (.int .i64 0), (.int .i64 0), (.int .i64 0), (.int .i64 0), (.int .i64 0), (.int .i64 0), (.int .i64 0), (.int .i64 0)]), ⟨none, none, .storeN 11 (.t 12) (.t 124)⟩]) <|
     .seq (.ops [oq 125 (.mov (.t 3)), oq 126 (.fieldAddr 0 (.t 12)), oq 127 (.fieldAddr 0 (.t 126)), oq 128 (.load1 (.t 127)), oq 129 (.call .shared 40 [(.t 125), (.t 128)])]) <|
     .seq (.ops [oq 130 (.mov (.t 3)), oq 131 (.fieldAddr 0 (.t 12)), oq 132 (.fieldAddr 1 (.t 131)), oq 133 (.load1 (.t 132)), oq 134 (.call .shared 40 [(.t 130), (.t 133)])]) <|
     .seq (.ops [oq 135 (.mov (.t 3)), oq 136 (.fieldAddr 0 (.t 12)), oq 137 (.fieldAddr 2 (.t 136)), oq 138 (.load1 (.t 137)), oq 139 (.conv .u64 (.t 138)), oq 140 (.call .shared 39 [(.t 135), (.t 139)])]) <|
     .seq (.ops [oq 141 (.fieldAddr 3 (.t 12)), oq 142 (.loadN 8 (.t 141)), oq 143 (.mov (ki 0))]) <|
     .block 8 (.loop (.seq (.ops [oq 144 (.bin .num .lss (.t 143) (ki 8))]) <|
       .seq (.cond (.t 144) (.skip) (.exit 8)) <|
       .seq (.block 9 (.seq (.ops [oq 145 (.idxA1 8 (.t 142) (.t 143)), oq 14 (.mov (.t 145))]) <|
        .ops [oq 146 (.mov (.t 3)), oq 147 (.mov (.t 14)), oq 148 (.conv .u64 (.t 147)), oq 149 (.call .shared 39 [(.t 146), (.t 148)])])) <|
       .ops [oq 150 (.bin .num .add (.t 143) (ki 1)), oq 143 (.mov (.t 150))])))) <|
    .ops [oq 151 (.bin .num .add (.t 121) (ki 1)), oq 121 (.mov (.t 151))]))) <|
  .seq (.ops [oq 152 (.mov (.t 3)), oq 153 (.call .shared 44 [(.t 152)]), oq 2 (.mov (.t 153))]) <|
  .ret
def v24 : VFunc := ⟨154, [.tmp 2], c24⟩
/-- berthing/slot.Put -/
def c25 : VCode :=
  .seq (.ops [oq 4 (.mov (.c (.sl .nil 0 [])))]) <|
  .seq (.seq (.ops [oq 7 (.mov (.t 0)), oq 8 (.bin .num .lss (.t 7) (ki 1)), oq 9 (.mov (.t 8)), og 10 9 false (.mov (.t 0)), og 11 9 false (.bin .num .gtr (.t 10) (ki 1152921504606846976)), oq 12 (.pick (.t 9) (.c (.bool true)) (.t 11)), oq 13 (.mov (.t 12)), og 14 13 false (.mov (.t 1)), og 15 13 false (.lenS (.t 14)), og 16 13 false (.bin .num .gtr (.t 15) (ki 65536)), oq 17 (.pick (.t 13) (.c (.bool true)) (.t 16))]) <|
  .cond (.t 17) (.seq (.ops [oq 4 (.mov (.c (.sl .nil 0 [])))]) <|
   .ret) (.skip)) <|
  .seq (.ops [oq 18 (.buildSlice true 1 4 [(.int .u8 0), (.int .u8 0), (.int .u8 0), (.int .u8 0)] [(0, 1, (.c (.int .u8 66))), (1, 1, (.c (.int .u8 82))), (2, 1, (.c (.int .u8 84))), (3, 1, (.c (.int .u8 72)))]), oq 19 (.freeze (.t 18)), oq 20 (.mov (.t 0)), oq 21 (.conv .u64 (.t 20)), oq 22 (.call .pure 46 [(.t 21), (ki 8)]), oq 23 (.mov (.t 1)), oq 24 (.lenS (.t 23)), oq 25 (.conv .u64 (.t 24)), oq 26 (.call .pure 46 [(.t 25), (ki 4)]), oq 27 (.mov (.t 1)), oq 28 (.buildSlice false 1 4 [(.sl .nil 0 []), (.sl .nil 0 []), (.sl .nil 0 []), (.sl .nil 0 [])] [(0, 1, (.t 19)), (1, 1, (.t 22)), (2, 1, (.t 26)), (3, 1, (.t 27))]), oq 29 (.call .own 45 [(.t 28)]), oq 5 (.mov (.t 29))]) <|
  .seq (.ops [oq 30 (.mov (.t 5)), oq 31 (.buildSlice false 1 1 [(.sl .nil 0 [])] [(0, 1, (.t 30))]), oq 32 (.call .pure 48 [(.t 31)]), oq 33 (.call .pure 47 [(.t 32)]), oq 6 (.alloc [(.int .u8 0), (.int .u8 0), (.int .u8 0), (.int .u8 0)]), ⟨none, none, .storeN 4 (.t 6) (.t 33)⟩]) <|
  .seq (.ops [oq 34 (.mov (.t 5)), oq 35 (.sliceA 4 1 (.t 6) none none), oq 36 (.append false false 1 1 (.t 34) (.t 35)), oq 4 (.mov (.t 36))]) <|
  .ret
def v25 : VFunc := ⟨37, [.tmp 4], c25⟩
/-- slices.Clone[[][]byte,[]byte] -/
def c26 : VCode :=
  .seq (.ops [oq 2 (.mov (.c (.sl .nil 0 [])))]) <|
  .seq (.seq (.ops [oq 3 (.mov (.t 0)), oq 4 (.bin .sl .eql (.t 3) (.c (.sl .nil 0 [])))]) <|
  .cond (.t 4) (.seq (.ops [oq 2 (.mov (.c (.sl .nil 0 [])))]) <|
   .ret) (.skip)) <|
  .seq (.ops [oq 5 (.buildSlice false 1 0 [] []), oq 6 (.mov (.t 0)), oq 7 (.append false false 1 24 (.t 5) (.t 6)), oq 2 (.mov (.t 7))]) <|
  .ret
def v26 : VFunc := ⟨8, [.tmp 2], c26⟩
/-- slices.Clone[[]byte,byte] -/
def c27 : VCode :=
  .seq (.ops [oq 2 (.mov (.c (.sl .nil 0 [])))]) <|
  .seq (.seq (.ops [oq 3 (.mov (.t 0)), oq 4 (.bin .sl .eql (.t 3) (.c (.sl .nil 0 [])))]) <|
  .cond (.t 4) (.seq (.ops [oq 2 (.mov (.c (.sl .nil 0 [])))]) <|
   .ret) (.skip)) <|
  .seq (.ops [oq 5 (.buildSlice false 1 0 [] []), oq 6 (.mov (.t 0)), oq 7 (.append false false 1 1 (.t 5) (.t 6)), oq 2 (.mov (.t 7))]) <|
  .ret
def v27 : VFunc := ⟨8, [.tmp 2], c27⟩
/-- (*berthing/disk.Disk).able -/
def c28 : VCode :=
  .seq (.ops [oq 4 (.mov (ki 0))]) <|
  .seq (.block 0 (.seq (.ops [oq 6 (.mov (.t 0)), oq 7 (.bin .ptr .eql (.t 6) (.c .nilp)), oq 5 (.mov (.t 7))]) <|
   .cond (.t 5) (.seq (.ops [oq 4 (.mov (ki 1))]) <|
    .ret) (.seq (.ops [oq 9 (.mov (.t 0)), oq 10 (.nilCheck (.t 9)), oq 11 (.fieldAddr 3 (.t 10)), oq 12 (.load1 (.t 11)), oq 8 (.mov (.t 12))]) <|
    .cond (.t 8) (.seq (.ops [oq 4 (.mov (ki 26))]) <|
     .ret) (.seq (.ops [oq 14 (.mov (.t 1)), oq 15 (.bin .num .lss (.t 14) (ki 0)), oq 16 (.mov (.t 15)), og 17 16 false (.mov (.t 1)), og 18 16 false (.bin .num .geq (.t 17) (ki 2)), oq 19 (.pick (.t 16) (.c (.bool true)) (.t 18)), oq 13 (.mov (.t 19))]) <|
     .cond (.t 13) (.seq (.ops [oq 4 (.mov (ki 2))]) <|
      .ret) (.skip))))) <|
  .seq (.ops [oq 4 (.mov (ki 0))]) <|
  .ret
def v28 : VFunc := ⟨20, [.tmp 4], c28⟩
/-- berthing/berthingref05.Same -/
def c29 : VCode :=
  .seq (.ops [oq 2 (.box (.t 0)), oq 3 (.box (.t 1)), oq 4 (.mov (.c (.bool false)))]) <|
  .seq (.seq (.ops [oq 6 (.fieldAddr 0 (.t 2)), oq 7 (.load1 (.t 6)), oq 8 (.fieldAddr 0 (.t 3)), oq 9 (.load1 (.t 8)), oq 10 (.bin .num .neq (.t 7) (.t 9)), oq 11 (.mov (.t 10)), og 12 11 false (.fieldAddr 1 (.t 2)), og 13 11 false (.load1 (.t 12)), og 14 11 false (.fieldAddr 1 (.t 3)), og 15 11 false (.load1 (.t 14)), og 16 11 false (.bin .num .neq (.t 13) (.t 15)), oq 17 (.pick (.t 11) (.c (.bool true)) (.t 16)), oq 18 (.mov (.t 17)), og 19 18 false (.fieldAddr 2 (.t 2)), og 20 18 false (.load1 (.t 19)), og 21 18 false (.fieldAddr 2 (.t 3)), og 22 18 false (.load1 (.t 21)), og 23 18 false (.bin .num .neq (.t 20) (.t 22)), oq 24 (.pick (.t 18) (.c (.bool true)) (.t 23)), oq 25 (.mov (.t 24)), og 26 25 false (.fieldAddr 3 (.t 2)), og 27 25 false (.load1 (.t 26)), og 28 25 false (.lenS (.t 27)), og 29 25 false (.fieldAddr 3 (.t 3)), og 30 25 false (.load1 (.t 29)), og 31 25 false (.lenS (.t 30)), og 32 25 false (.bin .num .neq (.t 28) (.t 31)), oq 33 (.pick (.t 25) (.c (.bool true)) (.t 32))]) <|
  .cond (.t 33) (.seq (.ops [oq 4 (.mov (.c (.bool false)))]) <|
   .ret) (.skip)) <|
  .seq (.seq (.ops [oq 34 (.fieldAddr 3 (.t 2)), oq 35 (.load1 (.t 34)), oq 36 (.lenS (.t 35)), oq 37 (.mov (ki 0))]) <|
  .block 0 (.loop (.seq (.ops [oq 38 (.bin .num .lss (.t 37) (.t 36))]) <|
    .seq (.cond (.t 38) (.skip) (.exit 0)) <|
    .seq (.block 1 (.seq (.ops [oq 39 (.mov (.t 37)), oq 5 (.mov (.t 39))]) <|
     .seq (.ops [oq 40 (.fieldAddr 3 (.t 2)), oq 41 (.load1 (.t 40)), oq 42 (.mov (.t 5)), oq 43 (.idxAddrS 10 (.t 41) (.t 42)), oq 44 (.loadN 10 (.t 43)), oq 45 (.fieldAddr 3 (.t 3)), oq 46 (.load1 (.t 45)), oq 47 (.mov (.t 5)), oq 48 (.idxAddrS 10 (.t 46) (.t 47)), oq 49 (.loadN 10 (.t 48)), oq 50 (.bin (.agg [.s, .i, .i, .i, .i, .i, .i, .b, .b, .b]) .neq (.t 44) (.t 49))]) <|
     .cond (.t 50) (.seq (.ops [oq 4 (.mov (.c (.bool false)))]) <|
      .ret) (.skip))) <|
    .ops [oq 51 (.bin .num .add (.t 37) (ki 1)), oq 37 (.mov (.t 51))]))) <|
  .seq (.ops [oq 4 (.mov (.c (.bool true)))]) <|
  .ret
def v29 : VFunc := ⟨52, [.tmp 4], c29⟩
/-- berthing/slot.Size -/
def c30 : VCode :=
  .seq (.ops [oq 2 (.mov (ki 0))]) <|
  .seq (.seq (.ops [oq 3 (.mov (.t 0)), oq 4 (.bin .num .lss (.t 3) (ki 0)), oq 5 (.mov (.t 4)), og 6 5 false (.mov (.t 0)), og 7 5 false (.bin .num .gtr (.t 6) (ki 65536)), oq 8 (.pick (.t 5) (.c (.bool true)) (.t 7))]) <|
  .cond (.t 8) (.seq (.ops [oq 2 (.mov (ki 0))]) <|
   .ret) (.skip)) <|
  .seq (.ops [oq 9 (.mov (.t 0)), oq 10 (.bin .num .add (ki 16) (.t 9)), oq 11 (.bin .num .add (.t 10) (ki 4)), oq 2 (.mov (.t 11))]) <|
  .ret
def v30 : VFunc := ⟨12, [.tmp 2], c30⟩
/-- berthing/slot.Get -/
def c31 : VCode :=
  .seq (.ops [oq 2 (.mov (ki 0)), oq 3 (.mov (.c (.sl .nil 0 []))), oq 4 (.mov (ki 0))]) <|
  .seq (.block 0 (.seq (.ops [oq 9 (.mov (.t 0)), oq 10 (.lenS (.t 9)), oq 11 (.bin .num .lss (.t 10) (ki 4)), oq 8 (.mov (.t 11))]) <|
   .cond (.t 8) (.seq (.ops [oq 2 (.mov (ki 0)), oq 3 (.mov (.c (.sl .nil 0 []))), oq 4 (.mov (ki 10))]) <|
    .ret) (.seq (.ops [oq 13 (.mov (.t 0)), oq 14 (.sliceS 1 (.t 13) none (some (ki 4)) none), oq 15 (.strOfP (.t 14)), oq 16 (.bin .num .neq (.t 15) (.c (.str ⟨#[66, 82, 84, 72]⟩))), oq 12 (.mov (.t 16))]) <|
    .cond (.t 12) (.seq (.ops [oq 2 (.mov (ki 0)), oq 3 (.mov (.c (.sl .nil 0 []))), oq 4 (.mov (ki 11))]) <|
     .ret) (.seq (.ops [oq 18 (.mov (.t 0)), oq 19 (.lenS (.t 18)), oq 20 (.bin .num .lss (.t 19) (ki 16)), oq 17 (.mov (.t 20))]) <|
     .cond (.t 17) (.seq (.ops [oq 2 (.mov (ki 0)), oq 3 (.mov (.c (.sl .nil 0 []))), oq 4 (.mov (ki 10))]) <|
      .ret) (.skip))))) <|
  .seq (.ops [oq 21 (.mov (.t 0)), oq 22 (.sliceS 1 (.t 21) (some (ki 4)) (some (ki 12)) none), oq 23 (.call .pure 49 [(.t 22)]), oq 24 (.mov (.t 0)), oq 25 (.sliceS 1 (.t 24) (some (ki 12)) (some (ki 16)) none), oq 26 (.call .pure 49 [(.t 25)]), oq 5 (.mov (.t 23)), oq 6 (.mov (.t 26))]) <|
  .seq (.block 1 (.seq (.ops [oq 28 (.mov (.t 5)), oq 29 (.bin .num .lss (.t 28) (.c (.int .u64 1))), oq 30 (.mov (.t 29)), og 31 30 false (.mov (.t 5)), og 32 30 false (.bin .num .gtr (.t 31) (.c (.int .u64 1152921504606846976))), oq 33 (.pick (.t 30) (.c (.bool true)) (.t 32)), oq 27 (.mov (.t 33))]) <|
   .cond (.t 27) (.seq (.ops [oq 2 (.mov (ki 0)), oq 3 (.mov (.c (.sl .nil 0 []))), oq 4 (.mov (ki 11))]) <|
    .ret) (.seq (.ops [oq 35 (.mov (.t 6)), oq 36 (.bin .num .gtr (.t 35) (.c (.int .u64 65536))), oq 34 (.mov (.t 36))]) <|
    .cond (.t 34) (.seq (.ops [oq 2 (.mov (ki 0)), oq 3 (.mov (.c (.sl .nil 0 []))), oq 4 (.mov (ki 15))]) <|
     .ret) (.seq (.ops [oq 38 (.mov (.t 0)), oq 39 (.lenS (.t 38)), oq 40 (.mov (.t 6)), oq 41 (.conv .i64 (.t 40)), oq 42 (.call .pure 30 [(.t 41)]), oq 43 (.bin .num .lss (.t 39) (.t 42)), oq 37 (.mov (.t 43))]) <|
     .cond (.t 37) (.seq (.ops [oq 2 (.mov (ki 0)), oq 3 (.mov (.c (.sl .nil 0 []))), oq 4 (.mov (ki 10))]) <|
      .ret) (.skip))))) <|
  .seq (.ops [oq 44 (.mov (.t 6)), oq 45 (.conv .i64 (.t 44)), oq 46 (.bin .num .add (ki 16) (.t 45)), oq 7 (.mov (.t 46))]) <|
  .seq (.seq (.ops [oq 47 (.mov (.t 0)), oq 48 (.mov (.t 7)), oq 49 (.mov (.t 7)), oq 50 (.bin .num .add (.t 49) (ki 4)), oq 51 (.sliceS 1 (.t 47) (some (.t 48)) (some (.t 50)) none), oq 52 (.toArr 4 (.t 51)), oq 53 (.loadN 4 (.t 52)), oq 54 (.call .pure 50 [(.t 53)]), oq 55 (.mov (.t 0)), oq 56 (.mov (.t 7)), oq 57 (.sliceS 1 (.t 55) none (some (.t 56)) none), oq 58 (.buildSlice false 1 1 [(.sl .nil 0 [])] [(0, 1, (.t 57))]), oq 59 (.call .pure 48 [(.t 58)]), oq 60 (.bin .num .neq (.t 54) (.t 59))]) <|
  .cond (.t 60) (.seq (.ops [oq 2 (.mov (ki 0)), oq 3 (.mov (.c (.sl .nil 0 []))), oq 4 (.mov (ki 14))]) <|
   .ret) (.skip)) <|
  .seq (.ops [oq 61 (.mov (.t 5)), oq 62 (.conv .i64 (.t 61)), oq 63 (.mov (.t 0)), oq 64 (.mov (.t 7)), oq 65 (.sliceS 1 (.t 63) (some (ki 16)) (some (.t 64)) none), oq 66 (.call .pure 27 [(.t 65)]), oq 2 (.mov (.t 62)), oq 3 (.mov (.t 66)), oq 4 (.mov (ki 0))]) <|
  .ret
def v31 : VFunc := ⟨67, [.tmp 2, .tmp 3, .tmp 4], c31⟩
/-- (*berthing/disk.Disk).Image -/
def c32 : VCode :=
  .seq (.ops [oq 4 (.mov (.c (.sl .nil 0 [])))]) <|
  .seq (.seq (.ops [oq 5 (.mov (.t 0)), oq 6 (.bin .ptr .eql (.t 5) (.c .nilp)), oq 7 (.mov (.t 6)), og 8 7 false (.mov (.t 1)), og 9 7 false (.bin .num .lss (.t 8) (ki 0)), oq 10 (.pick (.t 7) (.c (.bool true)) (.t 9)), oq 11 (.mov (.t 10)), og 12 11 false (.mov (.t 1)), og 13 11 false (.bin .num .geq (.t 12) (ki 2)), oq 14 (.pick (.t 11) (.c (.bool true)) (.t 13))]) <|
  .cond (.t 14) (.seq (.ops [oq 4 (.mov (.c (.sl .nil 0 [])))]) <|
   .ret) (.skip)) <|
  .seq (.ops [oq 15 (.mov (.t 0)), oq 16 (.mov (.t 1)), oq 17 (.nilCheck (.t 15)), oq 18 (.fieldAddr 0 (.t 17)), oq 19 (.idxAddrA 2 1 (.t 18) (.t 16)), oq 20 (.load1 (.t 19)), oq 21 (.call (.lend false) 27 [(.t 20)]), oq 4 (.mov (.t 21))]) <|
  .ret
def v32 : VFunc := ⟨22, [.tmp 4], c32⟩
/-- berthing/tape.Read -/
def c33 : VCode :=
  .seq (.ops [oq 2 (.mov (.c .nilp))]) <|
  .seq (.ops [oq 3 (.mov (.t 0)), oq 4 (.call .pure 27 [(.t 3)]), oq 5 (.build [(.sl .nil 0 []), (.int .i64 0)] [(0, 1, (.t 4))]), oq 6 (.box (.t 5)), oq 2 (.mov (.t 6))]) <|
  .ret
def v33 : VFunc := ⟨7, [.tmp 2], c33⟩
/-- berthing/record.number -/
def c34 : VCode :=
  .seq (.ops [oq 4 (.mov (ki 0))]) <|
  .seq (.ops [oq 5 (.mov (.t 0)), oq 6 (.mov (.t 1)), oq 7 (.conv .u64 (.t 6)), oq 8 (.call .shared 51 [(.t 5), (.t 7)]), oq 9 (.conv .i64 (.t 8)), oq 4 (.mov (.t 9))]) <|
  .ret
def v34 : VFunc := ⟨10, [.tmp 4], c34⟩
/-- berthing/record.entry -/
def c35 : VCode :=
  .seq (.ops [oq 2 (.alloc [(.str ⟨#[]⟩), (.int .i64 0), (.int .i64 0), (.sl .nil 0 []), (.str ⟨#[]⟩), (.int .i64 0), (.int .i64 0), (.sl .nil 0 []), (.int .i64 0), (.int .i64 0)])]) <|
  .seq (.ops [oq 7 (.mov (.t 0)), oq 8 (.call .shared 36 [(.t 7), (ki 16)]), oq 9 (.mov (.t 0)), oq 10 (.call .shared 52 [(.t 9), (.c (.int .i64 (-1000))), (ki 1000)]), oq 11 (.mov (.t 0)), oq 12 (.call .shared 34 [(.t 11), (ki 2)]), oq 13 (.build [(.str ⟨#[]⟩), (.int .i64 0), (.int .i64 0), (.sl .nil 0 [])] [(0, 1, (.t 8)), (1, 1, (.t 10)), (2, 1, (.t 12))]), oq 3 (.alloc [(.str ⟨#[]⟩), (.int .i64 0), (.int .i64 0), (.sl .nil 0 [])]), ⟨none, none, .storeN 4 (.t 3) (.t 13)⟩]) <|
  .seq (.ops [oq 14 (.loadN 4 (.t 3)), oq 15 (.loadN 4 (.t 3)), oq 16 (.build [(.str ⟨#[]⟩), (.int .i64 0), (.int .i64 0), (.sl .nil 0 []), (.str ⟨#[]⟩), (.int .i64 0), (.int .i64 0), (.sl .nil 0 []), (.int .i64 0), (.int .i64 0)] [(0, 4, (.t 14)), (4, 4, (.t 15))]), oq 4 (.alloc [(.str ⟨#[]⟩), (.int .i64 0), (.int .i64 0), (.sl .nil 0 []), (.str ⟨#[]⟩), (.int .i64 0), (.int .i64 0), (.sl .nil 0 []), (.int .i64 0), (.int .i64 0)]), ⟨none, none, .storeN 10 (.t 4) (.t 16)⟩]) <|
  .seq (.seq (.ops [oq 17 (.mov (.t 0)), oq 18 (.call .shared 34 [(.t 17), (ki 6)]), oq 19 (.mov (ki 0))]) <|
  .block 0 (.loop (.seq (.ops [oq 20 (.bin .num .lss (.t 19) (.t 18))]) <|
    .seq (.cond (.t 20) (.skip) (.exit 0)) <|
    .seq (.block 1 (.seq (.ops [oq 22 (.mov (.t 0)), oq 23 (.call .shared 53 [(.t 22)]), oq 21 (.mov (.t 23)), oq 24 (.extract 0 (.t 21)), oq 25 (.extract 1 (.t 21)), oq 5 (.alloc [(.str ⟨#[]⟩), (.int .i64 0), (.int .i64 0), (.int .i64 0), (.int .i64 0), (.int .i64 0), (.int .i64 0), (.bool false), (.bool false), (.bool false)]), oq 6 (.alloc [(.str ⟨#[]⟩), (.int .i64 0), (.int .i64 0), (.int .i64 0), (.int .i64 0), (.int .i64 0), (.int .i64 0), (.bool false), (.bool false), (.bool false)]), ⟨none, none, .storeN 10 (.t 5) (.t 24)⟩, ⟨none, none, .storeN 10 (.t 6) (.t 25)⟩]) <|
     .seq (.ops [oq 26 (.fieldAddr 0 (.t 4)), oq 27 (.fieldAddr 3 (.t 26)), oq 28 (.load1 (.t 27)), oq 29 (.loadN 10 (.t 5)), oq 30 (.buildSlice false 10 1 [(.str ⟨#[]⟩), (.int .i64 0), (.int .i64 0), (.int .i64 0), (.int .i64 0), (.int .i64 0), (.int .i64 0), (.bool false), (.bool false), (.bool false)] [(0, 10, (.t 29))]), oq 31 (.append false false 10 72 (.t 28) (.t 30)), oq 32 (.fieldAddr 0 (.t 4)), oq 33 (.fieldAddr 3 (.t 32)), ⟨none, none, .store1 (.t 33) (.t 31)⟩]) <|
     .ops [oq 34 (.fieldAddr 4 (.t 4)), oq 35 (.fieldAddr 3 (.t 34)), oq 36 (.load1 (.t 35)), oq 37 (.loadN 10 (.t 6)), oq 38 (.buildSlice false 10 1 [(.str ⟨#[]⟩), (.int .i64 0), (.int .i64 0), (.int .i64 0), (.int .i64 0), (.int .i64 0), (.int .i64 0), (.bool false), (.bool false), (.bool false)] [(0, 10, (.t 37))]), oq 39 (.append false false 10 72 (.t 36) (.t 38)), oq 40 (.fieldAddr 4 (.t 4)), oq 41 (.fieldAddr 3 (.t 40)), ⟨none, none, .store1 (.t 41) (.t 39)⟩])) <|
    .ops [oq 42 (.bin .num .add (.t 19) (ki 1)), oq 19 (.mov (.t 42))]))) <|
  .seq (.ops [oq 43 (.mov (.t 0)), oq 44 (.call .shared 34 [(.t 43), (ki 1099511627776)]), oq 45 (.mov (.t 0)), oq 46 (.call .shared 34 [(.t 45), (ki 63)]), oq 47 (.fieldAddr 8 (.t 4)), ⟨none, none, .store1 (.t 47) (.t 44)⟩, oq 48 (.fieldAddr 9 (.t 4)), ⟨none, none, .store1 (.t 48) (.t 46)⟩]) <|
  .seq (.ops [oq 49 (.loadN 10 (.t 4)), ⟨none, none, .storeN 10 (.t 2) (.t 49)⟩]) <|
  .ret
def v35 : VFunc := ⟨50, [.cellN 10 2], c35⟩
/-- (*berthing/tape.Reader).Text -/
def c36 : VCode :=
  .seq (.ops [oq 4 (.mov (.c (.str ⟨#[]⟩)))]) <|
  .seq (.seq (.ops [oq 7 (.mov (.t 0)), oq 8 (.bin .ptr .eql (.t 7) (.c .nilp))]) <|
  .cond (.t 8) (.seq (.ops [oq 4 (.mov (.c (.str ⟨#[]⟩)))]) <|
   .ret) (.skip)) <|
  .seq (.ops [oq 9 (.mov (.t 0)), oq 10 (.call .shared 51 [(.t 9), (.c (.int .u64 18446744073709551615))]), oq 5 (.mov (.t 10))]) <|
  .seq (.block 0 (.seq (.ops [oq 12 (.mov (.t 0)), oq 13 (.nilCheck (.t 12)), oq 14 (.fieldAddr 1 (.t 13)), oq 15 (.load1 (.t 14)), oq 16 (.bin .num .neq (.t 15) (ki 0)), oq 11 (.mov (.t 16))]) <|
   .cond (.t 11) (.seq (.ops [oq 4 (.mov (.c (.str ⟨#[]⟩)))]) <|
    .ret) (.seq (.ops [oq 18 (.mov (.t 1)), oq 19 (.bin .num .lss (.t 18) (ki 0)), oq 20 (.mov (.t 19)), og 21 20 false (.mov (.t 5)), og 22 20 false (.mov (.t 1)), og 23 20 false (.conv .u64 (.t 22)), og 24 20 false (.bin .num .gtr (.t 21) (.t 23)), oq 25 (.pick (.t 20) (.c (.bool true)) (.t 24)), oq 17 (.mov (.t 25))]) <|
    .cond (.t 17) (.seq (.ops [oq 26 (.mov (.t 0)), oq 27 (.call .shared 54 [(.t 26), (ki 15)])]) <|
     .seq (.ops [oq 4 (.mov (.c (.str ⟨#[]⟩)))]) <|
     .ret) (.seq (.ops [oq 29 (.mov (.t 5)), oq 30 (.mov (.t 0)), oq 31 (.nilCheck (.t 30)), oq 32 (.fieldAddr 0 (.t 31)), oq 33 (.load1 (.t 32)), oq 34 (.lenS (.t 33)), oq 35 (.conv .u64 (.t 34)), oq 36 (.bin .num .gtr (.t 29) (.t 35)), oq 28 (.mov (.t 36))]) <|
     .cond (.t 28) (.seq (.ops [oq 37 (.mov (.t 0)), oq 38 (.call .shared 54 [(.t 37), (ki 10)])]) <|
      .seq (.ops [oq 4 (.mov (.c (.str ⟨#[]⟩)))]) <|
      .ret) (.skip))))) <|
  .seq (.ops [oq 39 (.mov (.t 0)), oq 40 (.nilCheck (.t 39)), oq 41 (.fieldAddr 0 (.t 40)), oq 42 (.load1 (.t 41)), oq 43 (.mov (.t 5)), oq 44 (.sliceS 1 (.t 42) none (some (.t 43)) none), oq 45 (.strOfP (.t 44)), oq 6 (.mov (.t 45))]) <|
  .seq (.ops [oq 46 (.mov (.t 0)), oq 47 (.mov (.t 0)), oq 48 (.nilCheck (.t 47)), oq 49 (.fieldAddr 0 (.t 48)), oq 50 (.load1 (.t 49)), oq 51 (.mov (.t 5)), oq 52 (.sliceS 1 (.t 50) (some (.t 51)) none none), oq 53 (.nilCheck (.t 46)), oq 54 (.fieldAddr 0 (.t 53)), ⟨none, none, .store1 (.t 54) (.t 52)⟩]) <|
  .seq (.ops [oq 55 (.mov (.t 6)), oq 4 (.mov (.t 55))]) <|
  .ret
def v36 : VFunc := ⟨56, [.tmp 4], c36⟩
/-- (*berthing/tape.Reader).End -/
def c37 : VCode :=
  .seq (.ops [oq 2 (.mov (ki 0))]) <|
  .seq (.seq (.ops [oq 3 (.mov (.t 0)), oq 4 (.call .shared 55 [(.t 3)]), oq 5 (.bin .num .gtr (.t 4) (ki 0))]) <|
  .cond (.t 5) (.ops [oq 6 (.mov (.t 0)), oq 7 (.call .shared 54 [(.t 6), (ki 13)])]) (.skip)) <|
  .seq (.ops [oq 8 (.mov (.t 0)), oq 9 (.call .shared 56 [(.t 8)]), oq 2 (.mov (.t 9))]) <|
  .ret
def v37 : VFunc := ⟨10, [.tmp 2], c37⟩
/-- berthing/record.Right -/
def c38 : VCode :=
  .seq (.ops [oq 1 (.box (.t 0)), oq 2 (.mov (.c (.bool false)))]) <|
  .seq (.seq (.ops [oq 5 (.fieldAddr 0 (.t 1)), oq 6 (.load1 (.t 5)), oq 7 (.bin .num .lss (.t 6) (ki 0)), oq 8 (.mov (.t 7)), og 9 8 false (.fieldAddr 0 (.t 1)), og 10 8 false (.load1 (.t 9)), og 11 8 false (.bin .num .gtr (.t 10) (ki 1099511627776)), oq 12 (.pick (.t 8) (.c (.bool true)) (.t 11)), oq 13 (.mov (.t 12)), og 14 13 false (.fieldAddr 1 (.t 1)), og 15 13 false (.load1 (.t 14)), og 16 13 false (.lenS (.t 15)), og 17 13 false (.bin .num .gtr (.t 16) (ki 16)), oq 18 (.pick (.t 13) (.c (.bool true)) (.t 17)), oq 19 (.mov (.t 18)), og 20 19 false (.loadN 3 (.t 1)), og 21 19 false (.call .pure 57 [(.t 20)]), og 22 19 false (.un .not (.t 21)), oq 23 (.pick (.t 19) (.c (.bool true)) (.t 22))]) <|
  .cond (.t 23) (.seq (.ops [oq 2 (.mov (.c (.bool false)))]) <|
   .ret) (.skip)) <|
  .seq (.seq (.ops [oq 24 (.fieldAddr 2 (.t 1)), oq 25 (.load1 (.t 24)), oq 26 (.lenS (.t 25)), oq 27 (.mov (ki 0))]) <|
  .block 0 (.loop (.seq (.ops [oq 28 (.bin .num .lss (.t 27) (.t 26))]) <|
    .seq (.cond (.t 28) (.skip) (.exit 0)) <|
    .seq (.block 1 (.seq (.ops [oq 29 (.mov (.t 27)), oq 30 (.idxAddrS 11 (.t 25) (.t 27)), oq 31 (.loadN 11 (.t 30)), oq 4 (.alloc [(.str ⟨#[]⟩), (.str ⟨#[]⟩), (.int .i64 0), (.int .i64 0), (.int .i64 0), (.int .i64 0), (.int .i64 0), (.int .i64 0), (.int .i64 0), (.int .i64 0), (.int .i64 0)]), oq 3 (.mov (.t 29)), ⟨none, none, .storeN 11 (.t 4) (.t 31)⟩]) <|
     .seq (.ops [oq 32 (.loadN 3 (.t 1)), oq 33 (.loadN 11 (.t 4)), oq 34 (.call .pure 58 [(.t 32), (.t 33)]), oq 35 (.un .not (.t 34)), oq 36 (.mov (.t 35)), og 37 36 false (.mov (.t 3)), og 38 36 false (.bin .num .gtr (.t 37) (ki 0)), og 39 36 false (.mov (.t 38)), og 40 39 true (.fieldAddr 2 (.t 1)), og 41 39 true (.load1 (.t 40)), og 42 39 true (.mov (.t 3)), og 43 39 true (.bin .num .sub (.t 42) (ki 1)), og 44 39 true (.idxAddrS 11 (.t 41) (.t 43)), og 45 39 true (.fieldAddr 0 (.t 44)), og 46 39 true (.loadN 3 (.t 45)), og 47 39 true (.fieldAddr 0 (.t 4)), og 48 39 true (.loadN 3 (.t 47)), og 49 39 true (.call .pure 59 [(.t 46), (.t 48)]), og 50 39 true (.bin .num .geq (.t 49) (ki 0)), og 51 36 false (.pick (.t 39) (.t 50) (.c (.bool false))), oq 52 (.pick (.t 36) (.c (.bool true)) (.t 51))]) <|
     .cond (.t 52) (.seq (.ops [oq 2 (.mov (.c (.bool false)))]) <|
      .ret) (.skip))) <|
    .ops [oq 53 (.bin .num .add (.t 27) (ki 1)), oq 27 (.mov (.t 53))]))) <|
  .seq (.ops [oq 2 (.mov (.c (.bool true)))]) <|
  .ret
def v38 : VFunc := ⟨54, [.tmp 2], c38⟩
/-- (*berthing/tape.Tape).Number -/
def c39 : VCode :=
  .seq (.seq (.ops [oq 4 (.mov (.t 0)), oq 5 (.bin .ptr .eql (.t 4) (.c .nilp))]) <|
  .cond (.t 5) (.ret) (.skip)) <|
  .seq (.block 0 (.loop (.seq (.seq (.ops [oq 6 (.mov (.t 1)), oq 7 (.bin .num .geq (.t 6) (.c (.int .u64 128)))]) <|
    .cond (.t 7) (.skip) (.exit 0)) <|
    .seq (.block 1 (.ops [oq 10 (.mov (.t 0)), oq 11 (.mov (.t 0)), oq 12 (.nilCheck (.t 11)), oq 13 (.fieldAddr 0 (.t 12)), oq 14 (.load1 (.t 13)), oq 15 (.mov (.t 1)), oq 16 (.conv .u8 (.t 15)), oq 17 (.bin .num .or (.t 16) (.c (.int .u8 128))), oq 18 (.buildSlice false 1 1 [(.int .u8 0)] [(0, 1, (.t 17))]), oq 19 (.append false false 1 1 (.t 14) (.t 18)), oq 20 (.nilCheck (.t 10)), oq 21 (.fieldAddr 0 (.t 20)), ⟨none, none, .store1 (.t 21) (.t 19)⟩])) <|
    .ops [oq 8 (.mov (.t 1)), oq 9 (.bin .num .shr (.t 8) (.c (.int .u64 7))), oq 1 (.mov (.t 9))]))) <|
  .ops [oq 22 (.mov (.t 0)), oq 23 (.mov (.t 0)), oq 24 (.nilCheck (.t 23)), oq 25 (.fieldAddr 0 (.t 24)), oq 26 (.load1 (.t 25)), oq 27 (.mov (.t 1)), oq 28 (.conv .u8 (.t 27)), oq 29 (.buildSlice false 1 1 [(.int .u8 0)] [(0, 1, (.t 28))]), oq 30 (.append false false 1 1 (.t 26) (.t 29)), oq 31 (.nilCheck (.t 22)), oq 32 (.fieldAddr 0 (.t 31)), ⟨none, none, .store1 (.t 32) (.t 30)⟩]
def v39 : VFunc := ⟨33, [], c39⟩
/-- (*berthing/tape.Tape).Text -/
def c40 : VCode :=
  .seq (.ops [oq 4 (.mov (.t 0)), oq 5 (.mov (.t 1)), oq 6 (.lenStr (.t 5)), oq 7 (.conv .u64 (.t 6)), oq 8 (.call .shared 39 [(.t 4), (.t 7)])]) <|
  .seq (.ops [oq 9 (.mov (.t 0)), oq 10 (.bin .ptr .neq (.t 9) (.c .nilp))]) <|
  .cond (.t 10) (.ops [oq 11 (.mov (.t 0)), oq 12 (.mov (.t 0)), oq 13 (.nilCheck (.t 12)), oq 14 (.fieldAddr 0 (.t 13)), oq 15 (.load1 (.t 14)), oq 16 (.mov (.t 1)), oq 17 (.append false true 1 1 (.t 15) (.t 16)), oq 18 (.nilCheck (.t 11)), oq 19 (.fieldAddr 0 (.t 18)), ⟨none, none, .store1 (.t 19) (.t 17)⟩]) (.skip)
def v40 : VFunc := ⟨20, [], c40⟩
/-- (*berthing/tape.Tape).Signed -/
def c41 : VCode :=
  .ops [oq 4 (.mov (.t 0)), oq 5 (.mov (.t 1)), oq 6 (.call .pure 60 [(.t 5)]), oq 7 (.call .shared 39 [(.t 4), (.t 6)])]
def v41 : VFunc := ⟨8, [], c41⟩
/-- (*berthing/tape.Tape).Flag -/
def c42 : VCode :=
  .seq (.seq (.ops [oq 4 (.mov (.t 1))]) <|
  .cond (.t 4) (.seq (.ops [oq 5 (.mov (.t 0)), oq 6 (.call .shared 39 [(.t 5), (.c (.int .u64 1))])]) <|
   .ret) (.skip)) <|
  .ops [oq 7 (.mov (.t 0)), oq 8 (.call .shared 39 [(.t 7), (.c (.int .u64 0))])]
def v42 : VFunc := ⟨9, [], c42⟩
/-- berthing/record.put -/
def c43 : VCode :=
  .seq (.ops [oq 8 (.mov (.t 1)), oq 9 (.lenS (.t 8)), oq 10 (.mov (ki 0))]) <|
  .block 0 (.loop (.seq (.ops [oq 11 (.bin .num .lss (.t 10) (.t 9))]) <|
    .seq (.cond (.t 11) (.skip) (.exit 0)) <|
    .seq (.block 1 (.seq (.ops [oq 12 (.idxAddrS 3 (.t 8) (.t 10)), oq 13 (.loadN 3 (.t 12)), oq 5 (.alloc [(.int .i64 0), (.int .i64 0), (.int .i64 0)]), ⟨none, none, .storeN 3 (.t 5) (.t 13)⟩]) <|
     .seq (.ops [oq 14 (.fieldAddr 0 (.t 5)), oq 15 (.load1 (.t 14)), oq 16 (.fieldAddr 1 (.t 5)), oq 17 (.load1 (.t 16)), oq 18 (.fieldAddr 2 (.t 5)), oq 19 (.load1 (.t 18)), oq 20 (.buildSlice false 1 3 [(.int .i64 0), (.int .i64 0), (.int .i64 0)] [(0, 1, (.t 15)), (1, 1, (.t 17)), (2, 1, (.t 19))]), oq 21 (.lenS (.t 20)), oq 22 (.mov (ki 0))]) <|
     .block 2 (.loop (.seq (.ops [oq 23 (.bin .num .lss (.t 22) (.t 21))]) <|
       .seq (.cond (.t 23) (.skip) (.exit 2)) <|
       .seq (.block 3 (.seq (.ops [oq 24 (.idxAddrS 1 (.t 20) (.t 22)), oq 25 (.load1 (.t 24)), oq 7 (.mov (.t 25))]) <|
        .ops [oq 26 (.mov (.t 0)), oq 27 (.mov (.t 7)), oq 28 (.conv .u64 (.t 27)), oq 29 (.call .shared 39 [(.t 26), (.t 28)])])) <|
       .ops [oq 30 (.bin .num .add (.t 22) (ki 1)), oq 22 (.mov (.t 30))])))) <|
    .ops [oq 31 (.bin .num .add (.t 10) (ki 1)), oq 10 (.mov (.t 31))]))
def v43 : VFunc := ⟨32, [], c43⟩
/-- (*berthing/tape.Tape).Bytes -/
def c44 : VCode :=
  .seq (.ops [oq 2 (.mov (.c (.sl .nil 0 [])))]) <|
  .seq (.seq (.ops [oq 3 (.mov (.t 0)), oq 4 (.bin .ptr .eql (.t 3) (.c .nilp))]) <|
  .cond (.t 4) (.seq (.ops [oq 2 (.mov (.c (.sl .nil 0 [])))]) <|
   .ret) (.skip)) <|
  .seq (.ops [oq 5 (.mov (.t 0)), oq 6 (.nilCheck (.t 5)), oq 7 (.fieldAddr 0 (.t 6)), oq 8 (.load1 (.t 7)), oq 9 (.call .pure 27 [(.t 8)]), oq 2 (.mov (.t 9))]) <|
  .ret
def v44 : VFunc := ⟨10, [.tmp 2], c44⟩
/-- slices.Concat[[]byte,byte] -/
def c45 : VCode :=
  .seq (.ops [oq 2 (.mov (.c (.sl .nil 0 [])))]) <|
  .seq (.ops [oq 3 (.mov (ki 0))]) <|
  .seq (.seq (.ops [oq 9 (.mov (.t 0)), oq 10 (.lenS (.t 9)), oq 11 (.mov (ki 0))]) <|
  .block 0 (.loop (.seq (.ops [oq 12 (.bin .num .lss (.t 11) (.t 10))]) <|
    .seq (.cond (.t 12) (.skip) (.exit 0)) <|
    .seq (.block 1 (.seq (.ops [oq 13 (.idxAddrS 1 (.t 9) (.t 11)), oq 14 (.load1 (.t 13)), oq 5 (.mov (.t 14))]) <|
     .seq (.ops [oq 15 (.mov (.t 3)), oq 16 (.mov (.t 5)), oq 17 (.lenS (.t 16)), oq 18 (.bin .num .add (.t 15) (.t 17)), oq 3 (.mov (.t 18))]) <|
     .seq (.ops [oq 19 (.mov (.t 3)), oq 20 (.bin .num .lss (.t 19) (ki 0))]) <|
     .cond (.t 20) (.ops [⟨none, none, .bad⟩, ⟨none, none, .bad⟩]) (.skip))) <|
    .ops [oq 22 (.bin .num .add (.t 11) (ki 1)), oq 11 (.mov (.t 22))]))) <|
  .seq (.ops [oq 23 (.mov (.t 3)), oq 24 (.call .own 61 [(.c (.sl .nil 0 [])), (.t 23)]), oq 6 (.mov (.t 24))]) <|
  .seq (.seq (.ops [oq 25 (.mov (.t 0)), oq 26 (.lenS (.t 25)), oq 27 (.mov (ki 0))]) <|
  .block 2 (.loop (.seq (.ops [oq 28 (.bin .num .lss (.t 27) (.t 26))]) <|
    .seq (.cond (.t 28) (.skip) (.exit 2)) <|
    .seq (.block 3 (.seq (.ops [oq 29 (.idxAddrS 1 (.t 25) (.t 27)), oq 30 (.load1 (.t 29)), oq 8 (.mov (.t 30))]) <|
     .ops [oq 31 (.mov (.t 6)), oq 32 (.mov (.t 8)), oq 33 (.append false false 1 1 (.t 31) (.t 32)), oq 6 (.mov (.t 33))])) <|
    .ops [oq 34 (.bin .num .add (.t 27) (ki 1)), oq 27 (.mov (.t 34))]))) <|
  .seq (.ops [oq 35 (.mov (.t 6)), oq 2 (.mov (.t 35))]) <|
  .ret
def v45 : VFunc := ⟨36, [.tmp 2], c45⟩
/-- berthing/slot.big -/
def c46 : VCode :=
  .seq (.ops [oq 4 (.mov (.c (.sl .nil 0 [])))]) <|
  .seq (.ops [oq 7 (.mov (.t 1)), oq 8 (.mkSlice true 1 [(.int .u8 0)] (.t 7) (.t 7)), oq 5 (.mov (.t 8))]) <|
  .seq (.seq (.ops [oq 9 (.mov (.t 5)), oq 10 (.lenS (.t 9)), oq 11 (.mov (ki 0))]) <|
  .block 0 (.loop (.seq (.ops [oq 12 (.bin .num .lss (.t 11) (.t 10))]) <|
    .seq (.cond (.t 12) (.skip) (.exit 0)) <|
    .seq (.block 1 (.seq (.ops [oq 13 (.mov (.t 11)), oq 6 (.mov (.t 13))]) <|
     .ops [oq 14 (.mov (.t 5)), oq 15 (.mov (.t 6)), oq 16 (.mov (.t 0)), oq 17 (.mov (.t 1)), oq 18 (.bin .num .sub (.t 17) (ki 1)), oq 19 (.mov (.t 6)), oq 20 (.bin .num .sub (.t 18) (.t 19)), oq 21 (.bin .num .mul (ki 8) (.t 20)), oq 22 (.bin .num .shr (.t 16) (.t 21)), oq 23 (.conv .u8 (.t 22)), oq 24 (.idxAddrS 1 (.t 14) (.t 15)), ⟨none, none, .store1 (.t 24) (.t 23)⟩])) <|
    .ops [oq 25 (.bin .num .add (.t 11) (ki 1)), oq 11 (.mov (.t 25))]))) <|
  .seq (.ops [oq 26 (.mov (.t 5)), oq 4 (.mov (.t 26))]) <|
  .ret
def v46 : VFunc := ⟨27, [.tmp 4], c46⟩
/-- berthing/crc.Bytes -/
def c47 : VCode :=
  .seq (.ops [oq 2 (.alloc [(.int .u8 0), (.int .u8 0), (.int .u8 0), (.int .u8 0)])]) <|
  .seq (.ops [oq 3 (.mov (.t 0)), oq 4 (.bin .num .shr (.t 3) (.c (.int .u64 24))), oq 5 (.conv .u8 (.t 4)), oq 6 (.mov (.t 0)), oq 7 (.bin .num .shr (.t 6) (.c (.int .u64 16))), oq 8 (.conv .u8 (.t 7)), oq 9 (.mov (.t 0)), oq 10 (.bin .num .shr (.t 9) (.c (.int .u64 8))), oq 11 (.conv .u8 (.t 10)), oq 12 (.mov (.t 0)), oq 13 (.conv .u8 (.t 12)), oq 14 (.build [(.int .u8 0), (.int .u8 0), (.int .u8 0), (.int .u8 0)] [(0, 1, (.t 5)), (1, 1, (.t 8)), (2, 1, (.t 11)), (3, 1, (.t 13))]), ⟨none, none, .storeN 4 (.t 2) (.t 14)⟩]) <|
  .ret
def v47 : VFunc := ⟨15, [.cellN 4 2], c47⟩
/-- berthing/crc.Of -/
def c48 : VCode :=
  .seq (.ops [oq 2 (.mov (.c (.int .u32 0)))]) <|
  .seq (.ops [oq 4 (.call .shared 62 []), oq 3 (.mov (.t 4))]) <|
  .seq (.ops [oq 5 (.mov (.t 3)), oq 6 (.mov (.t 0)), oq 7 (.call .shared 63 [(.t 5), (.t 6)])]) <|
  .seq (.ops [oq 8 (.mov (.t 3)), oq 9 (.call .shared 64 [(.t 8)]), oq 2 (.mov (.t 9))]) <|
  .ret
def v48 : VFunc := ⟨10, [.tmp 2], c48⟩
/-- berthing/slot.number -/
def c49 : VCode :=
  .seq (.ops [oq 2 (.mov (.c (.int .u64 0)))]) <|
  .seq (.ops [oq 3 (.mov (.c (.int .u64 0)))]) <|
  .seq (.seq (.ops [oq 6 (.mov (.t 0)), oq 7 (.lenS (.t 6)), oq 8 (.mov (ki 0))]) <|
  .block 0 (.loop (.seq (.ops [oq 9 (.bin .num .lss (.t 8) (.t 7))]) <|
    .seq (.cond (.t 9) (.skip) (.exit 0)) <|
    .seq (.block 1 (.seq (.ops [oq 10 (.idxAddrS 1 (.t 6) (.t 8)), oq 11 (.load1 (.t 10)), oq 5 (.mov (.t 11))]) <|
     .ops [oq 12 (.mov (.t 3)), oq 13 (.bin .num .shl (.t 12) (.c (.int .u64 8))), oq 14 (.mov (.t 5)), oq 15 (.conv .u64 (.t 14)), oq 16 (.bin .num .or (.t 13) (.t 15)), oq 3 (.mov (.t 16))])) <|
    .ops [oq 17 (.bin .num .add (.t 8) (ki 1)), oq 8 (.mov (.t 17))]))) <|
  .seq (.ops [oq 18 (.mov (.t 3)), oq 2 (.mov (.t 18))]) <|
  .ret
def v49 : VFunc := ⟨19, [.tmp 2], c49⟩
/-- berthing/crc.Value -/
def c50 : VCode :=
  .seq (.ops [oq 1 (.box (.t 0)), oq 2 (.mov (.c (.int .u32 0)))]) <|
  .seq (.ops [oq 3 (.mov (.c (.int .u32 0)))]) <|
  .seq (.seq (.ops [oq 6 (.loadN 4 (.t 1)), oq 7 (.mov (ki 0))]) <|
  .block 0 (.loop (.seq (.ops [oq 8 (.bin .num .lss (.t 7) (ki 4))]) <|
    .seq (.cond (.t 8) (.skip) (.exit 0)) <|
    .seq (.block 1 (.seq (.ops [oq 9 (.idxA1 4 (.t 6) (.t 7)), oq 5 (.mov (.t 9))]) <|
     .ops [oq 10 (.mov (.t 3)), oq 11 (.bin .num .shl (.t 10) (.c (.int .u64 8))), oq 12 (.mov (.t 5)), oq 13 (.conv .u32 (.t 12)), oq 14 (.bin .num .or (.t 11) (.t 13)), oq 3 (.mov (.t 14))])) <|
    .ops [oq 15 (.bin .num .add (.t 7) (ki 1)), oq 7 (.mov (.t 15))]))) <|
  .seq (.ops [oq 16 (.mov (.t 3)), oq 2 (.mov (.t 16))]) <|
  .ret
def v50 : VFunc := ⟨17, [.tmp 2], c50⟩
/-- (*berthing/tape.Reader).Number -/
def c51 : VCode :=
  .seq (.ops [oq 4 (.mov (.c (.int .u64 0)))]) <|
  .seq (.seq (.ops [oq 7 (.mov (.t 0)), oq 8 (.bin .ptr .eql (.t 7) (.c .nilp)), oq 9 (.mov (.t 8)), og 10 9 false (.mov (.t 0)), og 11 9 false (.nilCheck (.t 10)), og 12 9 false (.fieldAddr 1 (.t 11)), og 13 9 false (.load1 (.t 12)), og 14 9 false (.bin .num .neq (.t 13) (ki 0)), oq 15 (.pick (.t 9) (.c (.bool true)) (.t 14))]) <|
  .cond (.t 15) (.seq (.ops [oq 4 (.mov (.c (.int .u64 0)))]) <|
   .ret) (.skip)) <|
  .seq (.ops [oq 17 (.mov (.t 0)), oq 18 (.call .shared 65 [(.t 17)]), oq 16 (.mov (.t 18)), oq 19 (.extract 0 (.t 16)), oq 20 (.extract 1 (.t 16)), oq 5 (.mov (.t 19)), oq 6 (.mov (.t 20))]) <|
  .seq (.seq (.ops [oq 21 (.mov (.t 6)), oq 22 (.bin .num .eql (.t 21) (ki 0)), oq 23 (.mov (.t 22)), og 24 23 true (.mov (.t 5)), og 25 23 true (.mov (.t 1)), og 26 23 true (.bin .num .gtr (.t 24) (.t 25)), oq 27 (.pick (.t 23) (.t 26) (.c (.bool false)))]) <|
  .cond (.t 27) (.ops [oq 6 (.mov (ki 15))]) (.skip)) <|
  .seq (.ops [oq 28 (.mov (.t 0)), oq 29 (.mov (.t 6)), oq 30 (.call .shared 54 [(.t 28), (.t 29)])]) <|
  .seq (.seq (.ops [oq 31 (.mov (.t 6)), oq 32 (.bin .num .neq (.t 31) (ki 0))]) <|
  .cond (.t 32) (.seq (.ops [oq 4 (.mov (.c (.int .u64 0)))]) <|
   .ret) (.skip)) <|
  .seq (.ops [oq 33 (.mov (.t 5)), oq 4 (.mov (.t 33))]) <|
  .ret
def v51 : VFunc := ⟨34, [.tmp 4], c51⟩
/-- (*berthing/tape.Reader).Signed -/
def c52 : VCode :=
  .seq (.ops [oq 6 (.mov (ki 0))]) <|
  .seq (.ops [oq 8 (.mov (.t 0)), oq 9 (.call .shared 51 [(.t 8), (.c (.int .u64 18446744073709551615))]), oq 10 (.call .pure 66 [(.t 9)]), oq 7 (.mov (.t 10))]) <|
  .seq (.seq (.ops [oq 11 (.mov (.t 0)), oq 12 (.bin .ptr .eql (.t 11) (.c .nilp)), oq 13 (.mov (.t 12)), og 14 13 false (.mov (.t 0)), og 15 13 false (.nilCheck (.t 14)), og 16 13 false (.fieldAddr 1 (.t 15)), og 17 13 false (.load1 (.t 16)), og 18 13 false (.bin .num .neq (.t 17) (ki 0)), oq 19 (.pick (.t 13) (.c (.bool true)) (.t 18))]) <|
  .cond (.t 19) (.seq (.ops [oq 6 (.mov (ki 0))]) <|
   .ret) (.skip)) <|
  .seq (.seq (.ops [oq 20 (.mov (.t 7)), oq 21 (.mov (.t 1)), oq 22 (.bin .num .lss (.t 20) (.t 21)), oq 23 (.mov (.t 22)), og 24 23 false (.mov (.t 7)), og 25 23 false (.mov (.t 2)), og 26 23 false (.bin .num .gtr (.t 24) (.t 25)), oq 27 (.pick (.t 23) (.c (.bool true)) (.t 26))]) <|
  .cond (.t 27) (.seq (.ops [oq 28 (.mov (.t 0)), oq 29 (.call .shared 54 [(.t 28), (ki 15)])]) <|
   .seq (.ops [oq 6 (.mov (ki 0))]) <|
   .ret) (.skip)) <|
  .seq (.ops [oq 30 (.mov (.t 7)), oq 6 (.mov (.t 30))]) <|
  .ret
def v52 : VFunc := ⟨31, [.tmp 6], c52⟩
/-- berthing/record.container -/
def c53 : VCode :=
  .seq (.ops [oq 2 (.alloc [(.str ⟨#[]⟩), (.int .i64 0), (.int .i64 0), (.int .i64 0), (.int .i64 0), (.int .i64 0), (.int .i64 0), (.bool false), (.bool false), (.bool false)]), oq 3 (.alloc [(.str ⟨#[]⟩), (.int .i64 0), (.int .i64 0), (.int .i64 0), (.int .i64 0), (.int .i64 0), (.int .i64 0), (.bool false), (.bool false), (.bool false)])]) <|
  .seq (.ops [oq 7 (.mov (.t 0)), oq 8 (.call .shared 36 [(.t 7), (ki 16)]), oq 9 (.build [(.str ⟨#[]⟩), (.int .i64 0), (.int .i64 0), (.int .i64 0), (.int .i64 0), (.int .i64 0), (.int .i64 0), (.bool false), (.bool false), (.bool false)] [(0, 1, (.t 8))]), oq 4 (.alloc [(.str ⟨#[]⟩), (.int .i64 0), (.int .i64 0), (.int .i64 0), (.int .i64 0), (.int .i64 0), (.int .i64 0), (.bool false), (.bool false), (.bool false)]), ⟨none, none, .storeN 10 (.t 4) (.t 9)⟩]) <|
  .seq (.seq (.ops [oq 10 (.mov (ki 0))]) <|
  .block 0 (.loop (.seq (.ops [oq 11 (.bin .num .lss (.t 10) (ki 3))]) <|
    .seq (.cond (.t 11) (.skip) (.exit 0)) <|
    .seq (.block 1 (.seq (.ops [oq 12 (.mov (.t 10)), oq 5 (.mov (.t 12))]) <|
     .ops [oq 13 (.mov (.t 5)), oq 14 (.mov (.t 0)), oq 15 (.call .shared 67 [(.t 14)]), oq 16 (.fieldAddr 7 (.t 4)), oq 17 (.idxAddrA 3 1 (.t 16) (.t 13)), ⟨none, none, .store1 (.t 17) (.t 15)⟩])) <|
    .ops [oq 18 (.bin .num .add (.t 10) (ki 1)), oq 10 (.mov (.t 18))]))) <|
  .seq (.ops [oq 19 (.loadN 10 (.t 4)), oq 6 (.alloc [(.str ⟨#[]⟩), (.int .i64 0), (.int .i64 0), (.int .i64 0), (.int .i64 0), (.int .i64 0), (.int .i64 0), (.bool false), (.bool false), (.bool false)]), ⟨none, none, .storeN 10 (.t 6) (.t 19)⟩]) <|
  .seq (.ops [oq 20 (.mov (.t 0)), oq 21 (.call .shared 68 [(.t 20)]), oq 22 (.mov (.t 0)), oq 23 (.call .shared 68 [(.t 22)]), oq 24 (.fieldAddr 1 (.t 4)), ⟨none, none, .storeN 3 (.t 24) (.t 21)⟩, oq 25 (.fieldAddr 4 (.t 4)), ⟨none, none, .storeN 3 (.t 25) (.t 23)⟩]) <|
  .seq (.ops [oq 26 (.mov (.t 0)), oq 27 (.call .shared 68 [(.t 26)]), oq 28 (.mov (.t 0)), oq 29 (.call .shared 68 [(.t 28)]), oq 30 (.fieldAddr 1 (.t 6)), ⟨none, none, .storeN 3 (.t 30) (.t 27)⟩, oq 31 (.fieldAddr 4 (.t 6)), ⟨none, none, .storeN 3 (.t 31) (.t 29)⟩]) <|
  .seq (.draw [] [oq 32 (.loadN 10 (.t 4)), oq 33 (.loadN 10 (.t 6)), ⟨none, none, .storeN 10 (.t 2) (.t 32)⟩, ⟨none, none, .storeN 10 (.t 3) (.t 33)⟩] [(1, 2)]) <|
  .ret
def v53 : VFunc := ⟨34, [.cellN 10 2, .cellN 10 3], c53⟩
/-- (*berthing/tape.Reader).Fail -/
def c54 : VCode :=
  .seq (.ops [oq 4 (.mov (.t 0)), oq 5 (.bin .ptr .neq (.t 4) (.c .nilp)), oq 6 (.mov (.t 5)), og 7 6 true (.mov (.t 0)), og 8 6 true (.nilCheck (.t 7)), og 9 6 true (.fieldAddr 1 (.t 8)), og 10 6 true (.load1 (.t 9)), og 11 6 true (.bin .num .eql (.t 10) (ki 0)), oq 12 (.pick (.t 6) (.t 11) (.c (.bool false))), oq 13 (.mov (.t 12)), og 14 13 true (.mov (.t 1)), og 15 13 true (.bin .num .neq (.t 14) (ki 0)), oq 16 (.pick (.t 13) (.t 15) (.c (.bool false)))]) <|
  .cond (.t 16) (.ops [oq 17 (.mov (.t 0)), oq 18 (.mov (.t 0)), oq 19 (.mov (.t 1)), oq 20 (.nilCheck (.t 17)), oq 21 (.fieldAddr 0 (.t 20)), ⟨none, none, .store1 (.t 21) (.c (.sl .nil 0 []))⟩, oq 22 (.nilCheck (.t 18)), oq 23 (.fieldAddr 1 (.t 22)), ⟨none, none, .store1 (.t 23) (.t 19)⟩]) (.skip)
def v54 : VFunc := ⟨24, [], c54⟩
/-- (*berthing/tape.Reader).Left -/
def c55 : VCode :=
  .seq (.ops [oq 2 (.mov (ki 0))]) <|
  .seq (.seq (.ops [oq 3 (.mov (.t 0)), oq 4 (.bin .ptr .eql (.t 3) (.c .nilp))]) <|
  .cond (.t 4) (.seq (.ops [oq 2 (.mov (ki 0))]) <|
   .ret) (.skip)) <|
  .seq (.ops [oq 5 (.mov (.t 0)), oq 6 (.nilCheck (.t 5)), oq 7 (.fieldAddr 0 (.t 6)), oq 8 (.load1 (.t 7)), oq 9 (.lenS (.t 8)), oq 2 (.mov (.t 9))]) <|
  .ret
def v55 : VFunc := ⟨10, [.tmp 2], c55⟩
/-- (*berthing/tape.Reader).Err -/
def c56 : VCode :=
  .seq (.ops [oq 2 (.mov (ki 0))]) <|
  .seq (.seq (.ops [oq 3 (.mov (.t 0)), oq 4 (.bin .ptr .eql (.t 3) (.c .nilp))]) <|
  .cond (.t 4) (.seq (.ops [oq 2 (.mov (ki 1))]) <|
   .ret) (.skip)) <|
  .seq (.ops [oq 5 (.mov (.t 0)), oq 6 (.nilCheck (.t 5)), oq 7 (.fieldAddr 1 (.t 6)), oq 8 (.load1 (.t 7)), oq 2 (.mov (.t 8))]) <|
  .ret
def v56 : VFunc := ⟨9, [.tmp 2], c56⟩
/-- berthing/record.entries -/
def c57 : VCode :=
  .seq (.ops [oq 1 (.box (.t 0)), oq 2 (.mov (.c (.bool false)))]) <|
  .seq (.ops [oq 6 (.mkMap), oq 3 (.mov (.t 6))]) <|
  .seq (.seq (.ops [oq 7 (.fieldAddr 1 (.t 1)), oq 8 (.load1 (.t 7)), oq 9 (.lenS (.t 8)), oq 10 (.mov (ki 0))]) <|
  .block 0 (.loop (.seq (.ops [oq 11 (.bin .num .lss (.t 10) (.t 9))]) <|
    .seq (.cond (.t 11) (.skip) (.exit 0)) <|
    .seq (.block 1 (.seq (.ops [oq 12 (.mov (.t 10)), oq 13 (.idxAddrS 10 (.t 8) (.t 10)), oq 14 (.loadN 10 (.t 13)), oq 5 (.alloc [(.str ⟨#[]⟩), (.int .i64 0), (.int .i64 0), (.sl .nil 0 []), (.str ⟨#[]⟩), (.int .i64 0), (.int .i64 0), (.sl .nil 0 []), (.int .i64 0), (.int .i64 0)]), oq 4 (.mov (.t 12)), ⟨none, none, .storeN 10 (.t 5) (.t 14)⟩]) <|
     .seq (.ops [oq 15 (.mov (.t 3)), oq 16 (.fieldAddr 8 (.t 5)), oq 17 (.load1 (.t 16)), oq 18 (.lookM false .i (.int .i64 0) (.t 15) (.t 17)), oq 19 (.bin .num .add (.t 18) (ki 1)), ⟨none, none, .updM .i (.t 15) (.t 17) (.t 19)⟩]) <|
     .seq (.ops [oq 20 (.loadN 10 (.t 5)), oq 21 (.call .pure 69 [(.t 20)]), oq 22 (.un .not (.t 21)), oq 23 (.mov (.t 22)), og 24 23 false (.fieldAddr 8 (.t 5)), og 25 23 false (.load1 (.t 24)), og 26 23 false (.fieldAddr 0 (.t 1)), og 27 23 false (.load1 (.t 26)), og 28 23 false (.bin .num .geq (.t 25) (.t 27)), oq 29 (.pick (.t 23) (.c (.bool true)) (.t 28)), oq 30 (.mov (.t 29)), og 31 30 false (.mov (.t 3)), og 32 30 false (.fieldAddr 8 (.t 5)), og 33 30 false (.load1 (.t 32)), og 34 30 false (.lookM false .i (.int .i64 0) (.t 31) (.t 33)), og 35 30 false (.bin .num .gtr (.t 34) (ki 1)), oq 36 (.pick (.t 30) (.c (.bool true)) (.t 35)), oq 37 (.mov (.t 36)), og 38 37 false (.mov (.t 4)), og 39 37 false (.bin .num .gtr (.t 38) (ki 0)), og 40 37 false (.mov (.t 39)), og 41 40 true (.fieldAddr 1 (.t 1)), og 42 40 true (.load1 (.t 41)), og 43 40 true (.mov (.t 4)), og 44 40 true (.bin .num .sub (.t 43) (ki 1)), og 45 40 true (.idxAddrS 10 (.t 42) (.t 44)), og 46 40 true (.fieldAddr 0 (.t 45)), og 47 40 true (.fieldAddr 0 (.t 46)), og 48 40 true (.load1 (.t 47)), og 49 40 true (.fieldAddr 0 (.t 5)), og 50 40 true (.fieldAddr 0 (.t 49)), og 51 40 true (.load1 (.t 50)), og 52 40 true (.bin .num .geq (.t 48) (.t 51)), og 53 37 false (.pick (.t 40) (.t 52) (.c (.bool false))), oq 54 (.pick (.t 37) (.c (.bool true)) (.t 53))]) <|
     .cond (.t 54) (.seq (.ops [oq 2 (.mov (.c (.bool false)))]) <|
      .ret) (.skip))) <|
    .ops [oq 55 (.bin .num .add (.t 10) (ki 1)), oq 10 (.mov (.t 55))]))) <|
  .seq (.ops [oq 56 (.fieldAddr 1 (.t 1)), oq 57 (.load1 (.t 56)), oq 58 (.lenS (.t 57)), oq 59 (.bin .num .leq (.t 58) (ki 16)), oq 2 (.mov (.t 59))]) <|
  .ret
def v57 : VFunc := ⟨60, [.tmp 2], c57⟩
/-- berthing/record.hold -/
def c58 : VCode :=
  .seq (.ops [oq 2 (.box (.t 0)), oq 3 (.box (.t 1)), oq 4 (.mov (.c (.bool false)))]) <|
  .seq (.ops [oq 12 (.loadN 3 (.t 2)), oq 13 (.fieldAddr 0 (.t 3)), oq 14 (.fieldAddr 0 (.t 13)), oq 15 (.load1 (.t 14)), oq 16 (.call .pure 70 [(.t 12), (.t 15)]), oq 11 (.mov (.t 16)), oq 17 (.extract 0 (.t 11)), oq 18 (.extract 1 (.t 11)), oq 5 (.mov (.t 17)), oq 6 (.mov (.t 18))]) <|
  .seq (.seq (.ops [oq 19 (.mov (.t 6)), oq 20 (.un .not (.t 19)), oq 21 (.mov (.t 20)), og 22 21 false (.fieldAddr 0 (.t 3)), og 23 21 false (.fieldAddr 2 (.t 22)), og 24 21 false (.load1 (.t 23)), og 25 21 false (.bin .num .lss (.t 24) (ki 0)), oq 26 (.pick (.t 21) (.c (.bool true)) (.t 25)), oq 27 (.mov (.t 26)), og 28 27 false (.fieldAddr 0 (.t 3)), og 29 27 false (.fieldAddr 2 (.t 28)), og 30 27 false (.load1 (.t 29)), og 31 27 false (.bin .num .gtr (.t 30) (ki 1)), oq 32 (.pick (.t 27) (.c (.bool true)) (.t 31)), oq 33 (.mov (.t 32)), og 34 33 false (.fieldAddr 3 (.t 3)), og 35 33 false (.loadN 8 (.t 34)), og 36 33 false (.build [(.int .i64 0), (.int .i64 0), (.int .i64 0), (.int .i64 0), (.int .i64 0), (.int .i64 0), (.int .i64 0), (.int .i64 0)] []), og 37 33 false (.bin (.agg [.i, .i, .i, .i, .i, .i, .i, .i]) .eql (.t 35) (.t 36)), oq 38 (.pick (.t 33) (.c (.bool true)) (.t 37))]) <|
  .cond (.t 38) (.seq (.ops [oq 4 (.mov (.c (.bool false)))]) <|
   .ret) (.skip)) <|
  .seq (.seq (.ops [oq 39 (.fieldAddr 3 (.t 3)), oq 40 (.loadN 8 (.t 39)), oq 41 (.mov (ki 0))]) <|
  .block 0 (.loop (.seq (.ops [oq 42 (.bin .num .lss (.t 41) (ki 8))]) <|
    .seq (.cond (.t 42) (.skip) (.exit 0)) <|
    .seq (.block 1 (.seq (.ops [oq 43 (.idxA1 8 (.t 40) (.t 41)), oq 8 (.mov (.t 43))]) <|
     .seq (.ops [oq 44 (.mov (.t 8)), oq 45 (.bin .num .lss (.t 44) (ki 0)), oq 46 (.mov (.t 45)), og 47 46 false (.mov (.t 8)), og 48 46 false (.bin .num .gtr (.t 47) (ki 1073741824)), oq 49 (.pick (.t 46) (.c (.bool true)) (.t 48))]) <|
     .cond (.t 49) (.seq (.ops [oq 4 (.mov (.c (.bool false)))]) <|
      .ret) (.skip))) <|
    .ops [oq 50 (.bin .num .add (.t 41) (ki 1)), oq 41 (.mov (.t 50))]))) <|
  .seq (.ops [oq 52 (.fieldAddr 1 (.t 2)), oq 53 (.load1 (.t 52)), oq 54 (.mov (.t 5)), oq 55 (.idxAddrS 10 (.t 53) (.t 54)), oq 56 (.fieldAddr 0 (.t 55)), oq 57 (.loadN 4 (.t 56)), oq 58 (.fieldAddr 0 (.t 3)), oq 59 (.fieldAddr 1 (.t 58)), oq 60 (.load1 (.t 59)), oq 61 (.call .shared 71 [(.t 57), (.t 60)]), oq 51 (.mov (.t 61)), oq 62 (.extract 0 (.t 51)), oq 63 (.extract 1 (.t 51)), oq 9 (.mov (.t 62)), oq 10 (.mov (.t 63))]) <|
  .seq (.ops [oq 64 (.mov (.t 10)), oq 4 (.mov (.t 64))]) <|
  .ret
def v58 : VFunc := ⟨65, [.tmp 4], c58⟩
/-- berthing/record.compare -/
def c59 : VCode :=
  .seq (.ops [oq 2 (.box (.t 0)), oq 3 (.box (.t 1)), oq 4 (.mov (ki 0))]) <|
  .seq (.ops [oq 5 (.fieldAddr 0 (.t 2)), oq 6 (.load1 (.t 5)), oq 7 (.fieldAddr 0 (.t 3)), oq 8 (.load1 (.t 7)), oq 9 (.call .pure 73 [(.t 6), (.t 8)]), oq 10 (.fieldAddr 1 (.t 2)), oq 11 (.load1 (.t 10)), oq 12 (.fieldAddr 1 (.t 3)), oq 13 (.load1 (.t 12)), oq 14 (.call .pure 73 [(.t 11), (.t 13)]), oq 15 (.fieldAddr 2 (.t 2)), oq 16 (.load1 (.t 15)), oq 17 (.fieldAddr 2 (.t 3)), oq 18 (.load1 (.t 17)), oq 19 (.call .pure 74 [(.t 16), (.t 18)]), oq 20 (.buildSlice false 1 3 [(.int .i64 0), (.int .i64 0), (.int .i64 0)] [(0, 1, (.t 9)), (1, 1, (.t 14)), (2, 1, (.t 19))]), oq 21 (.call .pure 72 [(.t 20)]), oq 4 (.mov (.t 21))]) <|
  .ret
def v59 : VFunc := ⟨22, [.tmp 4], c59⟩
/-- berthing/checked.Zig -/
def c60 : VCode :=
  .seq (.ops [oq 2 (.mov (.c (.int .u64 0)))]) <|
  .seq (.ops [oq 3 (.mov (.t 0)), oq 4 (.conv .u64 (.t 3)), oq 5 (.bin .num .shl (.t 4) (.c (.int .u64 1))), oq 6 (.mov (.t 0)), oq 7 (.bin .num .shr (.t 6) (.c (.int .u64 63))), oq 8 (.conv .u64 (.t 7)), oq 9 (.bin .num .xor (.t 5) (.t 8)), oq 2 (.mov (.t 9))]) <|
  .ret
def v60 : VFunc := ⟨10, [.tmp 2], c60⟩
/-- slices.Grow[[]byte,byte] -/
def c61 : VCode :=
  .seq (.ops [oq 4 (.mov (.c (.sl .nil 0 [])))]) <|
  .seq (.seq (.ops [oq 5 (.mov (.t 1)), oq 6 (.bin .num .lss (.t 5) (ki 0))]) <|
  .cond (.t 6) (.ops [⟨none, none, .bad⟩, ⟨none, none, .bad⟩]) (.skip)) <|
  .seq (.seq (.ops [oq 8 (.mov (.t 1)), oq 9 (.mov (.t 0)), oq 10 (.capS (.t 9)), oq 11 (.mov (.t 0)), oq 12 (.lenS (.t 11)), oq 13 (.bin .num .sub (.t 10) (.t 12)), oq 14 (.bin .num .sub (.t 8) (.t 13)), oq 1 (.mov (.t 14))]) <|
  .seq (.ops [oq 15 (.mov (.t 1)), oq 16 (.bin .num .gtr (.t 15) (ki 0))]) <|
  .cond (.t 16) (.ops [oq 17 (.mov (.t 0)), oq 18 (.mov (.t 0)), oq 19 (.capS (.t 18)), oq 20 (.sliceS 1 (.t 17) none (some (.t 19)) none), oq 21 (.mov (.t 1)), oq 22 (.appendZ true 1 1 [(.int .u8 0)] (.t 20) (.t 21)), oq 23 (.mov (.t 0)), oq 24 (.lenS (.t 23)), oq 25 (.sliceS 1 (.t 22) none (some (.t 24)) none), oq 0 (.mov (.t 25))]) (.skip)) <|
  .seq (.ops [oq 26 (.mov (.t 0)), oq 4 (.mov (.t 26))]) <|
  .ret
def v61 : VFunc := ⟨27, [.tmp 4], c61⟩
/-- berthing/crc.New -/
def c62 : VCode :=
  .seq (.ops [oq 0 (.mov (.c .nilp))]) <|
  .seq (.ops [oq 1 (.build [(.int .u32 0)] [(0, 1, (.c (.int .u32 4294967295)))]), oq 2 (.box (.t 1)), oq 0 (.mov (.t 2))]) <|
  .ret
def v62 : VFunc := ⟨3, [.tmp 0], c62⟩
/-- (*berthing/crc.Sum).Add -/
def c63 : VCode :=
  .seq (.seq (.ops [oq 8 (.mov (.t 0)), oq 9 (.bin .ptr .eql (.t 8) (.c .nilp))]) <|
  .cond (.t 9) (.ret) (.skip)) <|
  .seq (.ops [oq 10 (.mov (.t 1)), oq 11 (.lenS (.t 10)), oq 12 (.mov (ki 0))]) <|
  .block 0 (.loop (.seq (.ops [oq 13 (.bin .num .lss (.t 12) (.t 11))]) <|
    .seq (.cond (.t 13) (.skip) (.exit 0)) <|
    .seq (.block 1 (.seq (.ops [oq 14 (.idxAddrS 1 (.t 10) (.t 12)), oq 15 (.load1 (.t 14)), oq 5 (.mov (.t 15))]) <|
     .seq (.ops [oq 16 (.mov (.t 5)), oq 17 (.lenS (.t 16)), oq 18 (.mov (ki 0))]) <|
     .block 2 (.loop (.seq (.ops [oq 19 (.bin .num .lss (.t 18) (.t 17))]) <|
       .seq (.cond (.t 19) (.skip) (.exit 2)) <|
       .seq (.block 3 (.seq (.ops [oq 20 (.idxAddrS 1 (.t 16) (.t 18)), oq 21 (.load1 (.t 20)), oq 7 (.mov (.t 21))]) <|
        .seq (.ops [oq 22 (.mov (.t 0)), oq 23 (.nilCheck (.t 22)), oq 24 (.fieldAddr 0 (.t 23)), oq 25 (.load1 (.t 24)), oq 26 (.mov (.t 7)), oq 27 (.conv .u32 (.t 26)), oq 28 (.bin .num .xor (.t 25) (.t 27)), oq 29 (.nilCheck (.t 22)), oq 30 (.fieldAddr 0 (.t 29)), ⟨none, none, .store1 (.t 30) (.t 28)⟩]) <|
        .seq (.ops [oq 31 (.mov (ki 0))]) <|
        .block 4 (.loop (.seq (.ops [oq 32 (.bin .num .lss (.t 31) (ki 8))]) <|
          .seq (.cond (.t 32) (.skip) (.exit 4)) <|
          .seq (.block 5 (.ops [oq 33 (.mov (.t 0)), oq 34 (.mov (.t 0)), oq 35 (.nilCheck (.t 34)), oq 36 (.fieldAddr 0 (.t 35)), oq 37 (.load1 (.t 36)), oq 38 (.bin .num .shr (.t 37) (.c (.int .u64 1))), oq 39 (.mov (.t 0)), oq 40 (.nilCheck (.t 39)), oq 41 (.fieldAddr 0 (.t 40)), oq 42 (.load1 (.t 41)), oq 43 (.bin .num .and (.t 42) (.c (.int .u32 1))), oq 44 (.un .neg (.t 43)), oq 45 (.bin .num .and (.c (.int .u32 3988292384)) (.t 44)), oq 46 (.bin .num .xor (.t 38) (.t 45)), oq 47 (.nilCheck (.t 33)), oq 48 (.fieldAddr 0 (.t 47)), ⟨none, none, .store1 (.t 48) (.t 46)⟩])) <|
          .ops [oq 49 (.bin .num .add (.t 31) (ki 1)), oq 31 (.mov (.t 49))])))) <|
       .ops [oq 50 (.bin .num .add (.t 18) (ki 1)), oq 18 (.mov (.t 50))])))) <|
    .ops [oq 51 (.bin .num .add (.t 12) (ki 1)), oq 12 (.mov (.t 51))]))
def v63 : VFunc := ⟨52, [], c63⟩
/-- (*berthing/crc.Sum).Value -/
def c64 : VCode :=
  .seq (.ops [oq 2 (.mov (.c (.int .u32 0)))]) <|
  .seq (.seq (.ops [oq 3 (.mov (.t 0)), oq 4 (.bin .ptr .eql (.t 3) (.c .nilp))]) <|
  .cond (.t 4) (.seq (.ops [oq 2 (.mov (.c (.int .u32 0)))]) <|
   .ret) (.skip)) <|
  .seq (.ops [oq 5 (.mov (.t 0)), oq 6 (.nilCheck (.t 5)), oq 7 (.fieldAddr 0 (.t 6)), oq 8 (.load1 (.t 7)), oq 9 (.un .xor (.t 8)), oq 2 (.mov (.t 9))]) <|
  .ret
def v64 : VFunc := ⟨10, [.tmp 2], c64⟩
/-- (*berthing/tape.Reader).number -/
def c65 : VCode :=
  .seq (.ops [oq 2 (.mov (.c (.int .u64 0))), oq 3 (.mov (ki 0))]) <|
  .seq (.ops [oq 4 (.mov (.c (.int .u64 0)))]) <|
  .seq (.seq (.ops [oq 7 (.mov (.t 0)), oq 8 (.nilCheck (.t 7)), oq 9 (.fieldAddr 0 (.t 8)), oq 10 (.load1 (.t 9)), oq 11 (.lenS (.t 10)), oq 12 (.mov (ki 0))]) <|
  .block 0 (.loop (.seq (.ops [oq 13 (.bin .num .lss (.t 12) (.t 11))]) <|
    .seq (.cond (.t 13) (.skip) (.exit 0)) <|
    .seq (.block 1 (.seq (.ops [oq 14 (.mov (.t 12)), oq 15 (.idxAddrS 1 (.t 10) (.t 12)), oq 16 (.load1 (.t 15)), oq 5 (.mov (.t 14)), oq 6 (.mov (.t 16))]) <|
     .seq (.ops [oq 17 (.mov (.t 4)), oq 18 (.mov (.t 6)), oq 19 (.bin .num .andNot (.t 18) (.c (.int .u8 128))), oq 20 (.conv .u64 (.t 19)), oq 21 (.mov (.t 5)), oq 22 (.bin .num .mul (ki 7) (.t 21)), oq 23 (.bin .num .shl (.t 20) (.t 22)), oq 24 (.bin .num .or (.t 17) (.t 23)), oq 4 (.mov (.t 24))]) <|
     .block 2 (.seq (.ops [oq 26 (.mov (.t 5)), oq 27 (.bin .num .eql (.t 26) (ki 9)), oq 28 (.mov (.t 27)), og 29 28 true (.mov (.t 6)), og 30 28 true (.bin .num .gtr (.t 29) (.c (.int .u8 1))), oq 31 (.pick (.t 28) (.t 30) (.c (.bool false))), oq 25 (.mov (.t 31))]) <|
      .cond (.t 25) (.seq (.ops [oq 2 (.mov (.c (.int .u64 0))), oq 3 (.mov (ki 11))]) <|
       .ret) (.seq (.ops [oq 33 (.mov (.t 6)), oq 34 (.bin .num .lss (.t 33) (.c (.int .u8 128))), oq 35 (.mov (.t 34)), og 36 35 true (.mov (.t 6)), og 37 35 true (.bin .num .eql (.t 36) (.c (.int .u8 0))), oq 38 (.pick (.t 35) (.t 37) (.c (.bool false))), oq 39 (.mov (.t 38)), og 40 39 true (.mov (.t 5)), og 41 39 true (.bin .num .gtr (.t 40) (ki 0)), oq 42 (.pick (.t 39) (.t 41) (.c (.bool false))), oq 32 (.mov (.t 42))]) <|
       .cond (.t 32) (.seq (.ops [oq 2 (.mov (.c (.int .u64 0))), oq 3 (.mov (ki 11))]) <|
        .ret) (.seq (.ops [oq 44 (.mov (.t 6)), oq 45 (.bin .num .lss (.t 44) (.c (.int .u8 128))), oq 43 (.mov (.t 45))]) <|
        .cond (.t 43) (.seq (.ops [oq 46 (.mov (.t 0)), oq 47 (.mov (.t 0)), oq 48 (.nilCheck (.t 47)), oq 49 (.fieldAddr 0 (.t 48)), oq 50 (.load1 (.t 49)), oq 51 (.mov (.t 5)), oq 52 (.bin .num .add (.t 51) (ki 1)), oq 53 (.sliceS 1 (.t 50) (some (.t 52)) none none), oq 54 (.nilCheck (.t 46)), oq 55 (.fieldAddr 0 (.t 54)), ⟨none, none, .store1 (.t 55) (.t 53)⟩]) <|
         .seq (.ops [oq 56 (.mov (.t 4)), oq 2 (.mov (.t 56)), oq 3 (.mov (ki 0))]) <|
         .ret) (.skip)))))) <|
    .ops [oq 57 (.bin .num .add (.t 12) (ki 1)), oq 12 (.mov (.t 57))]))) <|
  .seq (.ops [oq 2 (.mov (.c (.int .u64 0))), oq 3 (.mov (ki 10))]) <|
  .ret
def v65 : VFunc := ⟨58, [.tmp 2, .tmp 3], c65⟩
/-- berthing/checked.Zag -/
def c66 : VCode :=
  .seq (.ops [oq 2 (.mov (ki 0))]) <|
  .seq (.ops [oq 3 (.mov (.t 0)), oq 4 (.bin .num .shr (.t 3) (.c (.int .u64 1))), oq 5 (.conv .i64 (.t 4)), oq 6 (.mov (.t 0)), oq 7 (.bin .num .and (.t 6) (.c (.int .u64 1))), oq 8 (.conv .i64 (.t 7)), oq 9 (.un .neg (.t 8)), oq 10 (.bin .num .xor (.t 5) (.t 9)), oq 2 (.mov (.t 10))]) <|
  .ret
def v66 : VFunc := ⟨11, [.tmp 2], c66⟩
/-- (*berthing/tape.Reader).Flag -/
def c67 : VCode :=
  .seq (.ops [oq 2 (.mov (.c (.bool false)))]) <|
  .seq (.seq (.ops [oq 4 (.mov (.t 0)), oq 5 (.bin .ptr .eql (.t 4) (.c .nilp)), oq 6 (.mov (.t 5)), og 7 6 false (.mov (.t 0)), og 8 6 false (.nilCheck (.t 7)), og 9 6 false (.fieldAddr 1 (.t 8)), og 10 6 false (.load1 (.t 9)), og 11 6 false (.bin .num .neq (.t 10) (ki 0)), oq 12 (.pick (.t 6) (.c (.bool true)) (.t 11))]) <|
  .cond (.t 12) (.seq (.ops [oq 2 (.mov (.c (.bool false)))]) <|
   .ret) (.skip)) <|
  .seq (.block 0 (.seq (.ops [oq 14 (.mov (.t 0)), oq 15 (.nilCheck (.t 14)), oq 16 (.fieldAddr 0 (.t 15)), oq 17 (.load1 (.t 16)), oq 18 (.lenS (.t 17)), oq 19 (.bin .num .eql (.t 18) (ki 0)), oq 13 (.mov (.t 19))]) <|
   .cond (.t 13) (.seq (.ops [oq 20 (.mov (.t 0)), oq 21 (.call .shared 54 [(.t 20), (ki 10)])]) <|
    .seq (.ops [oq 2 (.mov (.c (.bool false)))]) <|
    .ret) (.seq (.ops [oq 23 (.mov (.t 0)), oq 24 (.nilCheck (.t 23)), oq 25 (.fieldAddr 0 (.t 24)), oq 26 (.load1 (.t 25)), oq 27 (.idxAddrS 1 (.t 26) (ki 0)), oq 28 (.load1 (.t 27)), oq 29 (.bin .num .gtr (.t 28) (.c (.int .u8 1))), oq 22 (.mov (.t 29))]) <|
    .cond (.t 22) (.seq (.ops [oq 30 (.mov (.t 0)), oq 31 (.call .shared 54 [(.t 30), (ki 11)])]) <|
     .seq (.ops [oq 2 (.mov (.c (.bool false)))]) <|
     .ret) (.skip)))) <|
  .seq (.ops [oq 32 (.mov (.t 0)), oq 33 (.nilCheck (.t 32)), oq 34 (.fieldAddr 0 (.t 33)), oq 35 (.load1 (.t 34)), oq 36 (.idxAddrS 1 (.t 35) (ki 0)), oq 37 (.load1 (.t 36)), oq 38 (.bin .num .eql (.t 37) (.c (.int .u8 1))), oq 3 (.mov (.t 38))]) <|
  .seq (.ops [oq 39 (.mov (.t 0)), oq 40 (.mov (.t 0)), oq 41 (.nilCheck (.t 40)), oq 42 (.fieldAddr 0 (.t 41)), oq 43 (.load1 (.t 42)), oq 44 (.sliceS 1 (.t 43) (some (ki 1)) none none), oq 45 (.nilCheck (.t 39)), oq 46 (.fieldAddr 0 (.t 45)), ⟨none, none, .store1 (.t 46) (.t 44)⟩]) <|
  .seq (.ops [oq 47 (.mov (.t 3)), oq 2 (.mov (.t 47))]) <|
  .ret
def v67 : VFunc := ⟨48, [.tmp 2], c67⟩
/-- berthing/record.vector -/
def c68 : VCode :=
  .seq (.ops [oq 2 (.alloc [(.int .i64 0), (.int .i64 0), (.int .i64 0)])]) <|
  .seq (.ops [oq 3 (.mov (.t 0)), oq 4 (.call .shared 34 [(.t 3), (ki 1099511627776)]), oq 5 (.mov (.t 0)), oq 6 (.call .shared 34 [(.t 5), (ki 1125899906842624)]), oq 7 (.mov (.t 0)), oq 8 (.call .shared 34 [(.t 7), (ki 1125899906842624)]), oq 9 (.build [(.int .i64 0), (.int .i64 0), (.int .i64 0)] [(0, 1, (.t 4)), (1, 1, (.t 6)), (2, 1, (.t 8))]), ⟨none, none, .storeN 3 (.t 2) (.t 9)⟩]) <|
  .ret
def v68 : VFunc := ⟨10, [.cellN 3 2], c68⟩
/-- berthing/record.Entry -/
def c69 : VCode :=
  .seq (.ops [oq 1 (.box (.t 0)), oq 2 (.mov (.c (.bool false)))]) <|
  .seq (.ops [oq 3 (.fieldAddr 0 (.t 1)), oq 4 (.loadN 4 (.t 3)), oq 5 (.call .pure 75 [(.t 4)]), oq 6 (.mov (.t 5)), og 7 6 true (.fieldAddr 4 (.t 1)), og 8 6 true (.loadN 4 (.t 7)), og 9 6 true (.call .pure 75 [(.t 8)]), oq 10 (.pick (.t 6) (.t 9) (.c (.bool false))), oq 11 (.mov (.t 10)), og 12 11 true (.fieldAddr 0 (.t 1)), og 13 11 true (.loadN 4 (.t 12)), og 14 11 true (.fieldAddr 4 (.t 1)), og 15 11 true (.loadN 4 (.t 14)), og 16 11 true (.call .pure 76 [(.t 13), (.t 15)]), oq 17 (.pick (.t 11) (.t 16) (.c (.bool false))), oq 18 (.mov (.t 17)), og 19 18 true (.fieldAddr 0 (.t 1)), og 20 18 true (.loadN 4 (.t 19)), og 21 18 true (.call .pure 77 [(.t 20)]), og 22 18 true (.fieldAddr 4 (.t 1)), og 23 18 true (.loadN 4 (.t 22)), og 24 18 true (.call .pure 77 [(.t 23)]), og 25 18 true (.bin .num .eql (.t 21) (.t 24)), oq 26 (.pick (.t 18) (.t 25) (.c (.bool false))), oq 27 (.mov (.t 26)), og 28 27 true (.fieldAddr 8 (.t 1)), og 29 27 true (.load1 (.t 28)), og 30 27 true (.bin .num .geq (.t 29) (ki 0)), oq 31 (.pick (.t 27) (.t 30) (.c (.bool false))), oq 32 (.mov (.t 31)), og 33 32 true (.fieldAddr 8 (.t 1)), og 34 32 true (.load1 (.t 33)), og 35 32 true (.bin .num .leq (.t 34) (ki 1099511627776)), oq 36 (.pick (.t 32) (.t 35) (.c (.bool false))), oq 37 (.mov (.t 36)), og 38 37 true (.fieldAddr 9 (.t 1)), og 39 37 true (.load1 (.t 38)), og 40 37 true (.bin .num .geq (.t 39) (ki 0)), oq 41 (.pick (.t 37) (.t 40) (.c (.bool false))), oq 42 (.mov (.t 41)), og 43 42 true (.fieldAddr 9 (.t 1)), og 44 42 true (.load1 (.t 43)), og 45 42 true (.fieldAddr 0 (.t 1)), og 46 42 true (.fieldAddr 3 (.t 45)), og 47 42 true (.load1 (.t 46)), og 48 42 true (.lenS (.t 47)), og 49 42 true (.bin .num .shl (ki 1) (.t 48)), og 50 42 true (.bin .num .lss (.t 44) (.t 49)), oq 51 (.pick (.t 42) (.t 50) (.c (.bool false))), oq 2 (.mov (.t 51))]) <|
  .ret
def v69 : VFunc := ⟨52, [.tmp 2], c69⟩
/-- berthing/record.Find -/
def c70 : VCode :=
  .seq (.ops [oq 2 (.box (.t 0)), oq 3 (.box (.t 1)), oq 4 (.mov (ki 0)), oq 5 (.mov (.c (.bool false)))]) <|
  .seq (.ops [oq 7 (.fieldAddr 1 (.t 2)), oq 8 (.load1 (.t 7)), oq 9 (.mkFn 79 [] [(.t 3)]), oq 10 (.call .shared 78 [(.t 8), (.t 9)]), oq 6 (.mov (.t 10))]) <|
  .seq (.ops [oq 11 (.mov (.t 6)), oq 12 (.minmax true [(.t 11), (ki 0)]), oq 13 (.mov (.t 6)), oq 14 (.bin .num .geq (.t 13) (ki 0)), oq 4 (.mov (.t 12)), oq 5 (.mov (.t 14))]) <|
  .ret
def v70 : VFunc := ⟨15, [.tmp 4, .tmp 5], c70⟩
/-- berthing/spec.Find -/
def c71 : VCode :=
  .seq (.ops [oq 2 (.box (.t 0)), oq 3 (.box (.t 1)), oq 4 (.mov (ki 0)), oq 5 (.mov (.c (.bool false)))]) <|
  .seq (.ops [oq 7 (.fieldAddr 3 (.t 2)), oq 8 (.load1 (.t 7)), oq 9 (.mkFn 81 [] [(.t 3)]), oq 10 (.call .shared 80 [(.t 8), (.t 9)]), oq 6 (.mov (.t 10))]) <|
  .seq (.ops [oq 11 (.mov (.t 6)), oq 12 (.minmax true [(.t 11), (ki 0)]), oq 13 (.mov (.t 6)), oq 14 (.bin .num .geq (.t 13) (ki 0)), oq 4 (.mov (.t 12)), oq 5 (.mov (.t 14))]) <|
  .ret
def v71 : VFunc := ⟨15, [.tmp 4, .tmp 5], c71⟩
/-- cmp.Or[int] -/
def c72 : VCode :=
  .seq (.ops [oq 2 (.mov (ki 0))]) <|
  .seq (.ops [oq 3 (.mov (ki 0))]) <|
  .seq (.seq (.ops [oq 6 (.mov (.t 0)), oq 7 (.lenS (.t 6)), oq 8 (.mov (ki 0))]) <|
  .block 0 (.loop (.seq (.ops [oq 9 (.bin .num .lss (.t 8) (.t 7))]) <|
    .seq (.cond (.t 9) (.skip) (.exit 0)) <|
    .seq (.block 1 (.seq (.ops [oq 10 (.idxAddrS 1 (.t 6) (.t 8)), oq 11 (.load1 (.t 10)), oq 5 (.mov (.t 11))]) <|
     .seq (.ops [oq 12 (.mov (.t 5)), oq 13 (.mov (.t 3)), oq 14 (.bin .num .neq (.t 12) (.t 13))]) <|
     .cond (.t 14) (.seq (.ops [oq 15 (.mov (.t 5)), oq 2 (.mov (.t 15))]) <|
      .ret) (.skip))) <|
    .ops [oq 16 (.bin .num .add (.t 8) (ki 1)), oq 8 (.mov (.t 16))]))) <|
  .seq (.ops [oq 17 (.mov (.t 3)), oq 2 (.mov (.t 17))]) <|
  .ret
def v72 : VFunc := ⟨18, [.tmp 2], c72⟩
/-- cmp.Compare[string] -/
def c73 : VCode :=
  .seq (.ops [oq 4 (.mov (ki 0))]) <|
  .seq (.ops [oq 7 (.mov (.t 0)), oq 8 (.call .pure 82 [(.t 7)]), oq 5 (.mov (.t 8))]) <|
  .seq (.ops [oq 9 (.mov (.t 1)), oq 10 (.call .pure 82 [(.t 9)]), oq 6 (.mov (.t 10))]) <|
  .seq (.seq (.ops [oq 11 (.mov (.t 5))]) <|
  .cond (.t 11) (.seq (.seq (.ops [oq 12 (.mov (.t 6))]) <|
   .cond (.t 12) (.seq (.ops [oq 4 (.mov (ki 0))]) <|
    .ret) (.skip)) <|
   .seq (.ops [oq 4 (.mov (.c (.int .i64 (-1))))]) <|
   .ret) (.skip)) <|
  .seq (.seq (.ops [oq 13 (.mov (.t 6))]) <|
  .cond (.t 13) (.seq (.ops [oq 4 (.mov (ki 1))]) <|
   .ret) (.skip)) <|
  .seq (.seq (.ops [oq 14 (.mov (.t 0)), oq 15 (.mov (.t 1)), oq 16 (.bin .num .lss (.t 14) (.t 15))]) <|
  .cond (.t 16) (.seq (.ops [oq 4 (.mov (.c (.int .i64 (-1))))]) <|
   .ret) (.skip)) <|
  .seq (.seq (.ops [oq 17 (.mov (.t 0)), oq 18 (.mov (.t 1)), oq 19 (.bin .num .gtr (.t 17) (.t 18))]) <|
  .cond (.t 19) (.seq (.ops [oq 4 (.mov (ki 1))]) <|
   .ret) (.skip)) <|
  .seq (.ops [oq 4 (.mov (ki 0))]) <|
  .ret
def v73 : VFunc := ⟨20, [.tmp 4], c73⟩
/-- cmp.Compare[int] -/
def c74 : VCode :=
  .seq (.ops [oq 4 (.mov (ki 0))]) <|
  .seq (.ops [oq 7 (.mov (.t 0)), oq 8 (.call .pure 83 [(.t 7)]), oq 5 (.mov (.t 8))]) <|
  .seq (.ops [oq 9 (.mov (.t 1)), oq 10 (.call .pure 83 [(.t 9)]), oq 6 (.mov (.t 10))]) <|
  .seq (.seq (.ops [oq 11 (.mov (.t 5))]) <|
  .cond (.t 11) (.seq (.seq (.ops [oq 12 (.mov (.t 6))]) <|
   .cond (.t 12) (.seq (.ops [oq 4 (.mov (ki 0))]) <|
    .ret) (.skip)) <|
   .seq (.ops [oq 4 (.mov (.c (.int .i64 (-1))))]) <|
   .ret) (.skip)) <|
  .seq (.seq (.ops [oq 13 (.mov (.t 6))]) <|
  .cond (.t 13) (.seq (.ops [oq 4 (.mov (ki 1))]) <|
   .ret) (.skip)) <|
  .seq (.seq (.ops [oq 14 (.mov (.t 0)), oq 15 (.mov (.t 1)), oq 16 (.bin .num .lss (.t 14) (.t 15))]) <|
  .cond (.t 16) (.seq (.ops [oq 4 (.mov (.c (.int .i64 (-1))))]) <|
   .ret) (.skip)) <|
  .seq (.seq (.ops [oq 17 (.mov (.t 0)), oq 18 (.mov (.t 1)), oq 19 (.bin .num .gtr (.t 17) (.t 18))]) <|
  .cond (.t 19) (.seq (.ops [oq 4 (.mov (ki 1))]) <|
   .ret) (.skip)) <|
  .seq (.ops [oq 4 (.mov (ki 0))]) <|
  .ret
def v74 : VFunc := ⟨20, [.tmp 4], c74⟩
/-- berthing/spec.Pod -/
def c75 : VCode :=
  .seq (.ops [oq 1 (.box (.t 0)), oq 2 (.mov (.c (.bool false)))]) <|
  .seq (.ops [oq 11 (.fieldAddr 3 (.t 1)), oq 12 (.load1 (.t 11)), oq 13 (.lenS (.t 12)), oq 3 (.mov (.t 13))]) <|
  .seq (.seq (.ops [oq 14 (.fieldAddr 0 (.t 1)), oq 15 (.load1 (.t 14)), oq 16 (.call .pure 84 [(.t 15)]), oq 17 (.un .not (.t 16)), oq 18 (.mov (.t 17)), og 19 18 false (.fieldAddr 1 (.t 1)), og 20 18 false (.load1 (.t 19)), og 21 18 false (.bin .num .lss (.t 20) (.c (.int .i64 (-1000)))), oq 22 (.pick (.t 18) (.c (.bool true)) (.t 21)), oq 23 (.mov (.t 22)), og 24 23 false (.fieldAddr 1 (.t 1)), og 25 23 false (.load1 (.t 24)), og 26 23 false (.bin .num .gtr (.t 25) (ki 1000)), oq 27 (.pick (.t 23) (.c (.bool true)) (.t 26)), oq 28 (.mov (.t 27)), og 29 28 false (.fieldAddr 2 (.t 1)), og 30 28 false (.load1 (.t 29)), og 31 28 false (.bin .num .lss (.t 30) (ki 0)), oq 32 (.pick (.t 28) (.c (.bool true)) (.t 31)), oq 33 (.mov (.t 32)), og 34 33 false (.fieldAddr 2 (.t 1)), og 35 33 false (.load1 (.t 34)), og 36 33 false (.bin .num .gtr (.t 35) (ki 2)), oq 37 (.pick (.t 33) (.c (.bool true)) (.t 36)), oq 38 (.mov (.t 37)), og 39 38 false (.mov (.t 3)), og 40 38 false (.bin .num .lss (.t 39) (ki 1)), oq 41 (.pick (.t 38) (.c (.bool true)) (.t 40)), oq 42 (.mov (.t 41)), og 43 42 false (.mov (.t 3)), og 44 42 false (.bin .num .gtr (.t 43) (ki 6)), oq 45 (.pick (.t 42) (.c (.bool true)) (.t 44))]) <|
  .cond (.t 45) (.seq (.ops [oq 2 (.mov (.c (.bool false)))]) <|
   .ret) (.skip)) <|
  .seq (.seq (.ops [oq 46 (.fieldAddr 3 (.t 1)), oq 47 (.load1 (.t 46)), oq 48 (.lenS (.t 47)), oq 49 (.mov (ki 0))]) <|
  .block 0 (.loop (.seq (.ops [oq 50 (.bin .num .lss (.t 49) (.t 48))]) <|
    .seq (.cond (.t 50) (.skip) (.exit 0)) <|
    .seq (.block 1 (.seq (.ops [oq 51 (.mov (.t 49)), oq 52 (.idxAddrS 10 (.t 47) (.t 49)), oq 53 (.loadN 10 (.t 52)), oq 5 (.alloc [(.str ⟨#[]⟩), (.int .i64 0), (.int .i64 0), (.int .i64 0), (.int .i64 0), (.int .i64 0), (.int .i64 0), (.bool false), (.bool false), (.bool false)]), oq 4 (.mov (.t 51)), ⟨none, none, .storeN 10 (.t 5) (.t 53)⟩]) <|
     .seq (.ops [oq 55 (.loadN 4 (.t 1)), oq 56 (.fieldAddr 0 (.t 5)), oq 57 (.load1 (.t 56)), oq 58 (.call .shared 71 [(.t 55), (.t 57)]), oq 54 (.mov (.t 58)), oq 59 (.extract 0 (.t 54)), oq 60 (.extract 1 (.t 54)), oq 6 (.mov (.t 59)), oq 7 (.mov (.t 60))]) <|
     .seq (.ops [oq 61 (.mov (.t 6)), oq 62 (.mov (.t 4)), oq 63 (.bin .num .neq (.t 61) (.t 62)), oq 64 (.mov (.t 63)), og 65 64 false (.loadN 10 (.t 5)), og 66 64 false (.call .pure 85 [(.t 65)]), og 67 64 false (.un .not (.t 66)), oq 68 (.pick (.t 64) (.c (.bool true)) (.t 67))]) <|
     .cond (.t 68) (.seq (.ops [oq 2 (.mov (.c (.bool false)))]) <|
      .ret) (.skip))) <|
    .ops [oq 69 (.bin .num .add (.t 49) (ki 1)), oq 49 (.mov (.t 69))]))) <|
  .seq (.ops [oq 71 (.loadN 4 (.t 1)), oq 72 (.call .shared 86 [(.t 71)]), oq 70 (.mov (.t 72)), oq 73 (.extract 0 (.t 70)), oq 74 (.extract 1 (.t 70)), oq 75 (.extract 2 (.t 70)), oq 8 (.alloc [(.int .i64 0), (.int .i64 0), (.int .i64 0)]), oq 9 (.alloc [(.int .i64 0), (.int .i64 0), (.int .i64 0)]), ⟨none, none, .storeN 3 (.t 8) (.t 73)⟩, ⟨none, none, .storeN 3 (.t 9) (.t 74)⟩, oq 10 (.mov (.t 75))]) <|
  .seq (.ops [oq 76 (.mov (.t 10)), oq 2 (.mov (.t 76))]) <|
  .ret
def v75 : VFunc := ⟨77, [.tmp 2], c75⟩
/-- berthing/record.Kin -/
def c76 : VCode :=
  .seq (.ops [oq 2 (.box (.t 0)), oq 3 (.box (.t 1)), oq 4 (.mov (.c (.bool false)))]) <|
  .seq (.ops [oq 5 (.mov (.f 87))]) <|
  .seq (.ops [oq 6 (.fieldAddr 0 (.t 2)), oq 7 (.load1 (.t 6)), oq 8 (.fieldAddr 0 (.t 3)), oq 9 (.load1 (.t 8)), oq 10 (.bin .num .eql (.t 7) (.t 9)), oq 11 (.mov (.t 10)), og 12 11 true (.fieldAddr 1 (.t 2)), og 13 11 true (.load1 (.t 12)), og 14 11 true (.fieldAddr 1 (.t 3)), og 15 11 true (.load1 (.t 14)), og 16 11 true (.bin .num .eql (.t 13) (.t 15)), oq 17 (.pick (.t 11) (.t 16) (.c (.bool false))), oq 18 (.mov (.t 17)), og 19 18 true (.fieldAddr 2 (.t 2)), og 20 18 true (.load1 (.t 19)), og 21 18 true (.fieldAddr 2 (.t 3)), og 22 18 true (.load1 (.t 21)), og 23 18 true (.bin .num .eql (.t 20) (.t 22)), oq 24 (.pick (.t 18) (.t 23) (.c (.bool false))), oq 25 (.mov (.t 24)), og 26 25 true (.fieldAddr 3 (.t 2)), og 27 25 true (.load1 (.t 26)), og 28 25 true (.fieldAddr 3 (.t 3)), og 29 25 true (.load1 (.t 28)), og 30 25 true (.mov (.t 5)), og 31 25 true (.call .pure 88 [(.t 27), (.t 29), (.t 30)]), oq 32 (.pick (.t 25) (.t 31) (.c (.bool false))), oq 4 (.mov (.t 32))]) <|
  .ret
def v76 : VFunc := ⟨33, [.tmp 4], c76⟩
/-- berthing/spec.Class -/
def c77 : VCode :=
  .seq (.ops [oq 1 (.box (.t 0)), oq 2 (.mov (ki 0))]) <|
  .seq (.ops [oq 3 (.mov (.c (.bool true))), oq 4 (.mov (.c (.bool true)))]) <|
  .seq (.seq (.ops [oq 9 (.fieldAddr 3 (.t 1)), oq 10 (.load1 (.t 9)), oq 11 (.lenS (.t 10)), oq 12 (.mov (ki 0))]) <|
  .block 0 (.loop (.seq (.ops [oq 13 (.bin .num .lss (.t 12) (.t 11))]) <|
    .seq (.cond (.t 13) (.skip) (.exit 0)) <|
    .seq (.block 1 (.seq (.ops [oq 14 (.idxAddrS 10 (.t 10) (.t 12)), oq 15 (.loadN 10 (.t 14)), oq 6 (.alloc [(.str ⟨#[]⟩), (.int .i64 0), (.int .i64 0), (.int .i64 0), (.int .i64 0), (.int .i64 0), (.int .i64 0), (.bool false), (.bool false), (.bool false)]), ⟨none, none, .storeN 10 (.t 6) (.t 15)⟩]) <|
     .seq (.draw [(7, .z [(.int .i64 0), (.int .i64 0), (.int .i64 0)]), (8, .z [(.int .i64 0), (.int .i64 0), (.int .i64 0)])] [oq 16 (.fieldAddr 1 (.t 6)), oq 17 (.loadN 3 (.t 16)), oq 18 (.fieldAddr 4 (.t 6)), oq 19 (.loadN 3 (.t 18)), ⟨none, none, .idle⟩, ⟨none, none, .idle⟩, ⟨none, none, .storeN 3 (.t 7) (.t 17)⟩, ⟨none, none, .storeN 3 (.t 8) (.t 19)⟩] [(3, 6)]) <|
     .seq (.ops [oq 20 (.mov (.t 3)), oq 21 (.mov (.t 20)), og 22 21 true (.fieldAddr 0 (.t 7)), og 23 21 true (.load1 (.t 22)), og 24 21 true (.fieldAddr 0 (.t 8)), og 25 21 true (.load1 (.t 24)), og 26 21 true (.bin .num .eql (.t 23) (.t 25)), oq 27 (.pick (.t 21) (.t 26) (.c (.bool false))), oq 28 (.mov (.t 27)), og 29 28 true (.fieldAddr 1 (.t 7)), og 30 28 true (.load1 (.t 29)), og 31 28 true (.fieldAddr 1 (.t 8)), og 32 28 true (.load1 (.t 31)), og 33 28 true (.bin .num .eql (.t 30) (.t 32)), oq 34 (.pick (.t 28) (.t 33) (.c (.bool false))), oq 35 (.mov (.t 34)), og 36 35 true (.fieldAddr 0 (.t 7)), og 37 35 true (.load1 (.t 36)), og 38 35 true (.bin .num .neq (.t 37) (ki 0)), oq 39 (.pick (.t 35) (.t 38) (.c (.bool false))), oq 40 (.mov (.t 39)), og 41 40 true (.fieldAddr 1 (.t 7)), og 42 40 true (.load1 (.t 41)), og 43 40 true (.bin .num .neq (.t 42) (ki 0)), oq 44 (.pick (.t 40) (.t 43) (.c (.bool false))), oq 3 (.mov (.t 44))]) <|
     .ops [oq 45 (.mov (.t 4)), oq 46 (.mov (.t 45)), og 47 46 true (.fieldAddr 0 (.t 7)), og 48 46 true (.load1 (.t 47)), og 49 46 true (.bin .num .eql (.t 48) (ki 0)), oq 50 (.pick (.t 46) (.t 49) (.c (.bool false))), oq 51 (.mov (.t 50)), og 52 51 true (.fieldAddr 0 (.t 8)), og 53 51 true (.load1 (.t 52)), og 54 51 true (.bin .num .eql (.t 53) (ki 0)), oq 55 (.pick (.t 51) (.t 54) (.c (.bool false))), oq 56 (.mov (.t 55)), og 57 56 true (.fieldAddr 1 (.t 7)), og 58 56 true (.load1 (.t 57)), og 59 56 true (.bin .num .eql (.t 58) (ki 0)), oq 60 (.pick (.t 56) (.t 59) (.c (.bool false))), oq 61 (.mov (.t 60)), og 62 61 true (.fieldAddr 1 (.t 8)), og 63 61 true (.load1 (.t 62)), og 64 61 true (.bin .num .eql (.t 63) (ki 0)), oq 65 (.pick (.t 61) (.t 64) (.c (.bool false))), oq 4 (.mov (.t 65))])) <|
    .ops [oq 66 (.bin .num .add (.t 12) (ki 1)), oq 12 (.mov (.t 66))]))) <|
  .seq (.block 2 (.seq (.ops [oq 68 (.mov (.t 4)), oq 67 (.mov (.t 68))]) <|
   .cond (.t 67) (.seq (.ops [oq 2 (.mov (ki 2))]) <|
    .ret) (.seq (.ops [oq 70 (.mov (.t 3)), oq 69 (.mov (.t 70))]) <|
    .cond (.t 69) (.seq (.ops [oq 2 (.mov (ki 0))]) <|
     .ret) (.skip)))) <|
  .seq (.ops [oq 2 (.mov (ki 1))]) <|
  .ret
def v77 : VFunc := ⟨71, [.tmp 2], c77⟩
/-- slices.IndexFunc[[]berthing/api.Entry,berthing/api.Entry] -/
def c78 : VCode :=
  .seq (.ops [oq 4 (.mov (ki 0))]) <|
  .seq (.seq (.ops [oq 6 (.mov (.t 0)), oq 7 (.lenS (.t 6)), oq 8 (.mov (ki 0))]) <|
  .block 0 (.loop (.seq (.ops [oq 9 (.bin .num .lss (.t 8) (.t 7))]) <|
    .seq (.cond (.t 9) (.skip) (.exit 0)) <|
    .seq (.block 1 (.seq (.ops [oq 10 (.mov (.t 8)), oq 5 (.mov (.t 10))]) <|
     .seq (.ops [oq 11 (.mov (.t 1)), oq 12 (.mov (.t 0)), oq 13 (.mov (.t 5)), oq 14 (.idxAddrS 10 (.t 12) (.t 13)), oq 15 (.loadN 10 (.t 14)), oq 16 (.callV (.t 11) [(.t 15)])]) <|
     .cond (.t 16) (.seq (.ops [oq 17 (.mov (.t 5)), oq 4 (.mov (.t 17))]) <|
      .ret) (.skip))) <|
    .ops [oq 18 (.bin .num .add (.t 8) (ki 1)), oq 8 (.mov (.t 18))]))) <|
  .seq (.ops [oq 4 (.mov (.c (.int .i64 (-1))))]) <|
  .ret
def v78 : VFunc := ⟨19, [.tmp 4], c78⟩
/-- berthing/record.Find$1 -/
def c79 : VCode :=
  .seq (.ops [oq 2 (.box (.t 0)), oq 3 (.mov (.c (.bool false)))]) <|
  .seq (.ops [oq 4 (.fieldAddr 0 (.t 2)), oq 5 (.fieldAddr 0 (.t 4)), oq 6 (.load1 (.t 5)), oq 7 (.load1 (.t 1)), oq 8 (.bin .num .eql (.t 6) (.t 7)), oq 3 (.mov (.t 8))]) <|
  .ret
def v79 : VFunc := ⟨9, [.tmp 3], c79⟩
/-- slices.IndexFunc[[]berthing/api.Container,berthing/api.Container] -/
def c80 : VCode :=
  .seq (.ops [oq 4 (.mov (ki 0))]) <|
  .seq (.seq (.ops [oq 6 (.mov (.t 0)), oq 7 (.lenS (.t 6)), oq 8 (.mov (ki 0))]) <|
  .block 0 (.loop (.seq (.ops [oq 9 (.bin .num .lss (.t 8) (.t 7))]) <|
    .seq (.cond (.t 9) (.skip) (.exit 0)) <|
    .seq (.block 1 (.seq (.ops [oq 10 (.mov (.t 8)), oq 5 (.mov (.t 10))]) <|
     .seq (.ops [oq 11 (.mov (.t 1)), oq 12 (.mov (.t 0)), oq 13 (.mov (.t 5)), oq 14 (.idxAddrS 10 (.t 12) (.t 13)), oq 15 (.loadN 10 (.t 14)), oq 16 (.callV (.t 11) [(.t 15)])]) <|
     .cond (.t 16) (.seq (.ops [oq 17 (.mov (.t 5)), oq 4 (.mov (.t 17))]) <|
      .ret) (.skip))) <|
    .ops [oq 18 (.bin .num .add (.t 8) (ki 1)), oq 8 (.mov (.t 18))]))) <|
  .seq (.ops [oq 4 (.mov (.c (.int .i64 (-1))))]) <|
  .ret
def v80 : VFunc := ⟨19, [.tmp 4], c80⟩
/-- berthing/spec.Find$1 -/
def c81 : VCode :=
  .seq (.ops [oq 2 (.box (.t 0)), oq 3 (.mov (.c (.bool false)))]) <|
  .seq (.ops [oq 4 (.fieldAddr 0 (.t 2)), oq 5 (.load1 (.t 4)), oq 6 (.load1 (.t 1)), oq 7 (.bin .num .eql (.t 5) (.t 6)), oq 3 (.mov (.t 7))]) <|
  .ret
def v81 : VFunc := ⟨8, [.tmp 3], c81⟩
/-- cmp.isNaN[string] -/
def c82 : VCode :=
  .seq (.ops [oq 2 (.mov (.c (.bool false)))]) <|
  .seq (.ops [oq 3 (.mov (.t 0)), oq 4 (.mov (.t 0)), oq 5 (.bin .num .neq (.t 3) (.t 4)), oq 2 (.mov (.t 5))]) <|
  .ret
def v82 : VFunc := ⟨6, [.tmp 2], c82⟩
/-- cmp.isNaN[int] -/
def c83 : VCode :=
  .seq (.ops [oq 2 (.mov (.c (.bool false)))]) <|
  .seq (.ops [oq 3 (.mov (.t 0)), oq 4 (.mov (.t 0)), oq 5 (.bin .num .neq (.t 3) (.t 4)), oq 2 (.mov (.t 5))]) <|
  .ret
def v83 : VFunc := ⟨6, [.tmp 2], c83⟩
/-- berthing/spec.Name -/
def c84 : VCode :=
  .seq (.ops [oq 2 (.mov (.c (.bool false)))]) <|
  .seq (.seq (.ops [oq 5 (.mov (.t 0)), oq 6 (.lenStr (.t 5)), oq 7 (.bin .num .lss (.t 6) (ki 1)), oq 8 (.mov (.t 7)), og 9 8 false (.mov (.t 0)), og 10 8 false (.lenStr (.t 9)), og 11 8 false (.bin .num .gtr (.t 10) (ki 16)), oq 12 (.pick (.t 8) (.c (.bool true)) (.t 11)), oq 13 (.mov (.t 12)), og 14 13 false (.mov (.t 0)), og 15 13 false (.idxStr (.t 14) (ki 0)), og 16 13 false (.bin .num .eql (.t 15) (.c (.int .u8 45))), oq 17 (.pick (.t 13) (.c (.bool true)) (.t 16)), oq 18 (.mov (.t 17)), og 19 18 false (.mov (.t 0)), og 20 18 false (.mov (.t 0)), og 21 18 false (.lenStr (.t 20)), og 22 18 false (.bin .num .sub (.t 21) (ki 1)), og 23 18 false (.idxStr (.t 19) (.t 22)), og 24 18 false (.bin .num .eql (.t 23) (.c (.int .u8 45))), oq 25 (.pick (.t 18) (.c (.bool true)) (.t 24))]) <|
  .cond (.t 25) (.seq (.ops [oq 2 (.mov (.c (.bool false)))]) <|
   .ret) (.skip)) <|
  .seq (.seq (.ops [oq 26 (.mov (.t 0)), oq 27 (.lenStr (.t 26)), oq 28 (.mov (ki 0))]) <|
  .block 0 (.loop (.seq (.ops [oq 29 (.bin .num .lss (.t 28) (.t 27))]) <|
    .seq (.cond (.t 29) (.skip) (.exit 0)) <|
    .seq (.block 1 (.seq (.ops [oq 30 (.mov (.t 28)), oq 3 (.mov (.t 30))]) <|
     .seq (.ops [oq 31 (.mov (.t 0)), oq 32 (.mov (.t 3)), oq 33 (.idxStr (.t 31) (.t 32)), oq 4 (.mov (.t 33))]) <|
     .seq (.ops [oq 34 (.mov (.t 4)), oq 35 (.bin .num .lss (.t 34) (.c (.int .u8 97))), oq 36 (.mov (.t 35)), og 37 36 false (.mov (.t 4)), og 38 36 false (.bin .num .gtr (.t 37) (.c (.int .u8 122))), oq 39 (.pick (.t 36) (.c (.bool true)) (.t 38)), oq 40 (.mov (.t 39)), og 41 40 true (.mov (.t 4)), og 42 40 true (.bin .num .lss (.t 41) (.c (.int .u8 48))), og 43 40 true (.mov (.t 42)), og 44 43 false (.mov (.t 4)), og 45 43 false (.bin .num .gtr (.t 44) (.c (.int .u8 57))), og 46 40 true (.pick (.t 43) (.c (.bool true)) (.t 45)), oq 47 (.pick (.t 40) (.t 46) (.c (.bool false))), oq 48 (.mov (.t 47)), og 49 48 true (.mov (.t 4)), og 50 48 true (.bin .num .neq (.t 49) (.c (.int .u8 45))), oq 51 (.pick (.t 48) (.t 50) (.c (.bool false)))]) <|
     .cond (.t 51) (.seq (.ops [oq 2 (.mov (.c (.bool false)))]) <|
      .ret) (.skip))) <|
    .ops [oq 52 (.bin .num .add (.t 28) (ki 1)), oq 28 (.mov (.t 52))]))) <|
  .seq (.ops [oq 2 (.mov (.c (.bool true)))]) <|
  .ret
def v84 : VFunc := ⟨53, [.tmp 2], c84⟩
/-- berthing/spec.Container -/
def c85 : VCode :=
  .seq (.ops [oq 1 (.box (.t 0)), oq 2 (.mov (.c (.bool false)))]) <|
  .seq (.seq (.ops [oq 5 (.fieldAddr 0 (.t 1)), oq 6 (.load1 (.t 5)), oq 7 (.call .pure 84 [(.t 6)]), oq 8 (.un .not (.t 7)), oq 9 (.mov (.t 8)), og 10 9 false (.fieldAddr 1 (.t 1)), og 11 9 false (.loadN 3 (.t 10)), og 12 9 false (.call .pure 89 [(.t 11)]), og 13 9 false (.un .not (.t 12)), oq 14 (.pick (.t 9) (.c (.bool true)) (.t 13)), oq 15 (.mov (.t 14)), og 16 15 false (.fieldAddr 4 (.t 1)), og 17 15 false (.loadN 3 (.t 16)), og 18 15 false (.call .pure 89 [(.t 17)]), og 19 15 false (.un .not (.t 18)), oq 20 (.pick (.t 15) (.c (.bool true)) (.t 19)), oq 21 (.mov (.t 20)), og 22 21 false (.fieldAddr 1 (.t 1)), og 23 21 false (.fieldAddr 2 (.t 22)), og 24 21 false (.load1 (.t 23)), og 25 21 false (.fieldAddr 4 (.t 1)), og 26 21 false (.fieldAddr 2 (.t 25)), og 27 21 false (.load1 (.t 26)), og 28 21 false (.bin .num .neq (.t 24) (.t 27)), oq 29 (.pick (.t 21) (.c (.bool true)) (.t 28))]) <|
  .cond (.t 29) (.seq (.ops [oq 2 (.mov (.c (.bool false)))]) <|
   .ret) (.skip)) <|
  .seq (.seq (.ops [oq 3 (.mov (ki 0))]) <|
  .block 0 (.loop (.seq (.seq (.ops [oq 30 (.mov (.t 3)), oq 31 (.bin .num .leq (.t 30) (ki 1))]) <|
    .cond (.t 31) (.skip) (.exit 0)) <|
    .seq (.block 1 (.seq (.ops [oq 34 (.fieldAddr 4 (.t 1)), oq 35 (.loadN 3 (.t 34)), oq 36 (.mov (.t 3)), oq 37 (.call .pure 90 [(.t 35), (.t 36)]), oq 4 (.mov (.t 37))]) <|
     .seq (.ops [oq 38 (.mov (.t 4)), oq 39 (.bin .num .gtr (.t 38) (ki 0)), oq 40 (.mov (.t 39)), og 41 40 true (.mov (.t 4)), og 42 40 true (.fieldAddr 1 (.t 1)), og 43 40 true (.loadN 3 (.t 42)), og 44 40 true (.mov (.t 3)), og 45 40 true (.call .pure 90 [(.t 43), (.t 44)]), og 46 40 true (.bin .num .lss (.t 41) (.t 45)), oq 47 (.pick (.t 40) (.t 46) (.c (.bool false)))]) <|
     .cond (.t 47) (.seq (.ops [oq 2 (.mov (.c (.bool false)))]) <|
      .ret) (.skip))) <|
    .ops [oq 32 (.mov (.t 3)), oq 33 (.bin .num .add (.t 32) (ki 1)), oq 3 (.mov (.t 33))]))) <|
  .seq (.ops [oq 2 (.mov (.c (.bool true)))]) <|
  .ret
def v85 : VFunc := ⟨48, [.tmp 2], c85⟩
/-- berthing/spec.sums -/
def c86 : VCode :=
  .seq (.ops [oq 1 (.box (.t 0)), oq 2 (.alloc [(.int .i64 0), (.int .i64 0), (.int .i64 0)]), oq 3 (.alloc [(.int .i64 0), (.int .i64 0), (.int .i64 0)]), oq 4 (.mov (.c (.bool false)))]) <|
  .seq (.ops [oq 5 (.mov (.c (.sl .nil 0 []))), oq 6 (.mov (.c (.sl .nil 0 [])))]) <|
  .seq (.seq (.ops [oq 13 (.fieldAddr 3 (.t 1)), oq 14 (.load1 (.t 13)), oq 15 (.lenS (.t 14)), oq 16 (.mov (ki 0))]) <|
  .block 0 (.loop (.seq (.ops [oq 17 (.bin .num .lss (.t 16) (.t 15))]) <|
    .seq (.cond (.t 17) (.skip) (.exit 0)) <|
    .seq (.block 1 (.seq (.ops [oq 18 (.idxAddrS 10 (.t 14) (.t 16)), oq 19 (.loadN 10 (.t 18)), oq 8 (.alloc [(.str ⟨#[]⟩), (.int .i64 0), (.int .i64 0), (.int .i64 0), (.int .i64 0), (.int .i64 0), (.int .i64 0), (.bool false), (.bool false), (.bool false)]), ⟨none, none, .storeN 10 (.t 8) (.t 19)⟩]) <|
     .draw [] [oq 20 (.mov (.t 5)), oq 21 (.fieldAddr 1 (.t 8)), oq 22 (.loadN 3 (.t 21)), oq 23 (.buildSlice false 3 1 [(.int .i64 0), (.int .i64 0), (.int .i64 0)] [(0, 3, (.t 22))]), oq 24 (.append false false 3 24 (.t 20) (.t 23)), oq 25 (.mov (.t 6)), oq 26 (.fieldAddr 4 (.t 8)), oq 27 (.loadN 3 (.t 26)), oq 28 (.buildSlice false 3 1 [(.int .i64 0), (.int .i64 0), (.int .i64 0)] [(0, 3, (.t 27))]), oq 29 (.append false false 3 24 (.t 25) (.t 28)), oq 5 (.mov (.t 24)), oq 6 (.mov (.t 29))] [(7, 4)])) <|
    .ops [oq 30 (.bin .num .add (.t 16) (ki 1)), oq 16 (.mov (.t 30))]))) <|
  .seq (.ops [oq 32 (.mov (.t 5)), oq 33 (.call .pure 91 [(.t 32)]), oq 31 (.mov (.t 33)), oq 34 (.extract 0 (.t 31)), oq 35 (.extract 1 (.t 31)), oq 9 (.alloc [(.int .i64 0), (.int .i64 0), (.int .i64 0)]), ⟨none, none, .storeN 3 (.t 9) (.t 34)⟩, oq 10 (.mov (.t 35))]) <|
  .seq (.ops [oq 37 (.mov (.t 6)), oq 38 (.call .pure 91 [(.t 37)]), oq 36 (.mov (.t 38)), oq 39 (.extract 0 (.t 36)), oq 40 (.extract 1 (.t 36)), oq 11 (.alloc [(.int .i64 0), (.int .i64 0), (.int .i64 0)]), ⟨none, none, .storeN 3 (.t 11) (.t 39)⟩, oq 12 (.mov (.t 40))]) <|
  .seq (.draw [] [oq 41 (.loadN 3 (.t 9)), oq 42 (.loadN 3 (.t 11)), oq 43 (.mov (.t 10)), oq 44 (.mov (.t 43)), og 45 44 true (.mov (.t 12)), oq 46 (.pick (.t 44) (.t 45) (.c (.bool false))), ⟨none, none, .storeN 3 (.t 2) (.t 41)⟩, ⟨none, none, .storeN 3 (.t 3) (.t 42)⟩, oq 4 (.mov (.t 46))] [(1, 6)]) <|
  .ret
def v86 : VFunc := ⟨47, [.cellN 3 2, .cellN 3 3, .tmp 4], c86⟩
/-- berthing/record.Kin$1 -/
def c87 : VCode :=
  .seq (.ops [oq 2 (.box (.t 0)), oq 3 (.box (.t 1)), oq 4 (.mov (.c (.bool false)))]) <|
  .seq (.ops [oq 5 (.fieldAddr 0 (.t 2)), oq 6 (.load1 (.t 5)), oq 7 (.fieldAddr 0 (.t 3)), oq 8 (.load1 (.t 7)), oq 9 (.bin .num .eql (.t 6) (.t 8)), oq 10 (.mov (.t 9)), og 11 10 true (.fieldAddr 7 (.t 2)), og 12 10 true (.loadN 3 (.t 11)), og 13 10 true (.fieldAddr 7 (.t 3)), og 14 10 true (.loadN 3 (.t 13)), og 15 10 true (.bin (.agg [.b, .b, .b]) .eql (.t 12) (.t 14)), oq 16 (.pick (.t 10) (.t 15) (.c (.bool false))), oq 4 (.mov (.t 16))]) <|
  .ret
def v87 : VFunc := ⟨17, [.tmp 4], c87⟩
/-- slices.EqualFunc[[]berthing/api.Container,[]berthing/api.Container,berthing/api.Container,berthing/api.Container] -/
def c88 : VCode :=
  .seq (.ops [oq 6 (.mov (.c (.bool false)))]) <|
  .seq (.seq (.ops [oq 10 (.mov (.t 0)), oq 11 (.lenS (.t 10)), oq 12 (.mov (.t 1)), oq 13 (.lenS (.t 12)), oq 14 (.bin .num .neq (.t 11) (.t 13))]) <|
  .cond (.t 14) (.seq (.ops [oq 6 (.mov (.c (.bool false)))]) <|
   .ret) (.skip)) <|
  .seq (.seq (.ops [oq 15 (.mov (.t 0)), oq 16 (.lenS (.t 15)), oq 17 (.mov (ki 0))]) <|
  .block 0 (.loop (.seq (.ops [oq 18 (.bin .num .lss (.t 17) (.t 16))]) <|
    .seq (.cond (.t 18) (.skip) (.exit 0)) <|
    .seq (.block 1 (.seq (.ops [oq 19 (.mov (.t 17)), oq 20 (.idxAddrS 10 (.t 15) (.t 17)), oq 21 (.loadN 10 (.t 20)), oq 8 (.alloc [(.str ⟨#[]⟩), (.int .i64 0), (.int .i64 0), (.int .i64 0), (.int .i64 0), (.int .i64 0), (.int .i64 0), (.bool false), (.bool false), (.bool false)]), oq 7 (.mov (.t 19)), ⟨none, none, .storeN 10 (.t 8) (.t 21)⟩]) <|
     .seq (.ops [oq 22 (.mov (.t 1)), oq 23 (.mov (.t 7)), oq 24 (.idxAddrS 10 (.t 22) (.t 23)), oq 25 (.loadN 10 (.t 24)), oq 9 (.alloc [(.str ⟨#[]⟩), (.int .i64 0), (.int .i64 0), (.int .i64 0), (.int .i64 0), (.int .i64 0), (.int .i64 0), (.bool false), (.bool false), (.bool false)]), ⟨none, none, .storeN 10 (.t 9) (.t 25)⟩]) <|
     .seq (.ops [oq 26 (.mov (.t 2)), oq 27 (.loadN 10 (.t 8)), oq 28 (.loadN 10 (.t 9)), oq 29 (.callV (.t 26) [(.t 27), (.t 28)]), oq 30 (.un .not (.t 29))]) <|
     .cond (.t 30) (.seq (.ops [oq 6 (.mov (.c (.bool false)))]) <|
      .ret) (.skip))) <|
    .ops [oq 31 (.bin .num .add (.t 17) (ki 1)), oq 17 (.mov (.t 31))]))) <|
  .seq (.ops [oq 6 (.mov (.c (.bool true)))]) <|
  .ret
def v88 : VFunc := ⟨32, [.tmp 6], c88⟩
/-- berthing/vector.Right -/
def c89 : VCode :=
  .seq (.ops [oq 1 (.box (.t 0)), oq 2 (.mov (.c (.bool false)))]) <|
  .seq (.seq (.ops [oq 5 (.loadN 3 (.t 1)), oq 6 (.call .pure 92 [(.t 5)]), oq 7 (.mov (ki 0))]) <|
  .block 0 (.loop (.seq (.ops [oq 8 (.bin .num .lss (.t 7) (ki 3))]) <|
    .seq (.cond (.t 8) (.skip) (.exit 0)) <|
    .seq (.block 1 (.seq (.ops [oq 9 (.mov (.t 7)), oq 10 (.idxA1 3 (.t 6) (.t 7)), oq 3 (.mov (.t 9)), oq 4 (.mov (.t 10))]) <|
     .seq (.ops [oq 11 (.mov (.t 3)), oq 12 (.mov (.t 4)), oq 13 (.call .pure 93 [(.t 11), (.t 12)]), oq 14 (.un .not (.t 13))]) <|
     .cond (.t 14) (.seq (.ops [oq 2 (.mov (.c (.bool false)))]) <|
      .ret) (.skip))) <|
    .ops [oq 15 (.bin .num .add (.t 7) (ki 1)), oq 7 (.mov (.t 15))]))) <|
  .seq (.ops [oq 16 (.fieldAddr 2 (.t 1)), oq 17 (.load1 (.t 16)), oq 18 (.bin .num .and (.t 17) (ki 2097151)), oq 19 (.bin .num .eql (.t 18) (ki 0)), oq 2 (.mov (.t 19))]) <|
  .ret
def v89 : VFunc := ⟨20, [.tmp 2], c89⟩
/-- berthing/vector.At -/
def c90 : VCode :=
  .seq (.ops [oq 2 (.box (.t 0)), oq 4 (.mov (ki 0))]) <|
  .seq (.seq (.ops [oq 5 (.mov (.t 1)), oq 6 (.bin .num .lss (.t 5) (ki 0)), oq 7 (.mov (.t 6)), og 8 7 false (.mov (.t 1)), og 9 7 false (.bin .num .gtr (.t 8) (ki 2)), oq 10 (.pick (.t 7) (.c (.bool true)) (.t 9))]) <|
  .cond (.t 10) (.seq (.ops [oq 4 (.mov (ki 0))]) <|
   .ret) (.skip)) <|
  .seq (.ops [oq 11 (.loadN 3 (.t 2)), oq 12 (.call .pure 92 [(.t 11)]), oq 13 (.mov (.t 1)), oq 14 (.idxA1 3 (.t 12) (.t 13)), oq 4 (.mov (.t 14))]) <|
  .ret
def v90 : VFunc := ⟨15, [.tmp 4], c90⟩
/-- berthing/vector.Sum -/
def c91 : VCode :=
  .seq (.ops [oq 2 (.alloc [(.int .i64 0), (.int .i64 0), (.int .i64 0)]), oq 3 (.mov (.c (.bool false)))]) <|
  .seq (.ops [oq 4 (.alloc [(.int .i64 0), (.int .i64 0), (.int .i64 0)])]) <|
  .seq (.seq (.ops [oq 9 (.mov (.t 0)), oq 10 (.lenS (.t 9)), oq 11 (.mov (ki 0))]) <|
  .block 0 (.loop (.seq (.ops [oq 12 (.bin .num .lss (.t 11) (.t 10))]) <|
    .seq (.cond (.t 12) (.skip) (.exit 0)) <|
    .seq (.block 1 (.seq (.ops [oq 13 (.idxAddrS 3 (.t 9) (.t 11)), oq 14 (.loadN 3 (.t 13)), oq 6 (.alloc [(.int .i64 0), (.int .i64 0), (.int .i64 0)]), ⟨none, none, .storeN 3 (.t 6) (.t 14)⟩]) <|
     .seq (.ops [oq 16 (.loadN 3 (.t 4)), oq 17 (.loadN 3 (.t 6)), oq 18 (.call .pure 94 [(.t 16), (.t 17)]), oq 15 (.mov (.t 18)), oq 19 (.extract 0 (.t 15)), oq 20 (.extract 1 (.t 15)), oq 7 (.alloc [(.int .i64 0), (.int .i64 0), (.int .i64 0)]), ⟨none, none, .storeN 3 (.t 7) (.t 19)⟩, oq 8 (.mov (.t 20))]) <|
     .seq (.seq (.ops [oq 21 (.mov (.t 8)), oq 22 (.un .not (.t 21))]) <|
     .cond (.t 22) (.seq (.ops [oq 23 (.build [(.int .i64 0), (.int .i64 0), (.int .i64 0)] []), ⟨none, none, .storeN 3 (.t 2) (.t 23)⟩, oq 3 (.mov (.c (.bool false)))]) <|
      .ret) (.skip)) <|
     .ops [oq 24 (.loadN 3 (.t 7)), ⟨none, none, .storeN 3 (.t 4) (.t 24)⟩])) <|
    .ops [oq 25 (.bin .num .add (.t 11) (ki 1)), oq 11 (.mov (.t 25))]))) <|
  .seq (.ops [oq 26 (.loadN 3 (.t 4)), ⟨none, none, .storeN 3 (.t 2) (.t 26)⟩, oq 3 (.mov (.c (.bool true)))]) <|
  .ret
def v91 : VFunc := ⟨27, [.cellN 3 2, .tmp 3], c91⟩
/-- berthing/vector.parts -/
def c92 : VCode :=
  .seq (.ops [oq 1 (.box (.t 0)), oq 2 (.alloc [(.int .i64 0), (.int .i64 0), (.int .i64 0)])]) <|
  .seq (.ops [oq 3 (.fieldAddr 0 (.t 1)), oq 4 (.load1 (.t 3)), oq 5 (.fieldAddr 1 (.t 1)), oq 6 (.load1 (.t 5)), oq 7 (.fieldAddr 2 (.t 1)), oq 8 (.load1 (.t 7)), oq 9 (.build [(.int .i64 0), (.int .i64 0), (.int .i64 0)] [(0, 1, (.t 4)), (1, 1, (.t 6)), (2, 1, (.t 8))]), ⟨none, none, .storeN 3 (.t 2) (.t 9)⟩]) <|
  .ret
def v92 : VFunc := ⟨10, [.cellN 3 2], c92⟩
/-- berthing/vector.fits -/
def c93 : VCode :=
  .seq (.ops [oq 4 (.mov (.c (.bool false)))]) <|
  .seq (.seq (.ops [oq 5 (.mov (.t 0)), oq 6 (.bin .num .eql (.t 5) (ki 0))]) <|
  .cond (.t 6) (.seq (.ops [oq 7 (.mov (.t 1)), oq 8 (.bin .num .geq (.t 7) (ki 0)), oq 9 (.mov (.t 8)), og 10 9 true (.mov (.t 1)), og 11 9 true (.bin .num .leq (.t 10) (ki 1099511627776)), oq 12 (.pick (.t 9) (.t 11) (.c (.bool false))), oq 4 (.mov (.t 12))]) <|
   .ret) (.skip)) <|
  .seq (.ops [oq 13 (.mov (.t 1)), oq 14 (.bin .num .geq (.t 13) (ki 0)), oq 15 (.mov (.t 14)), og 16 15 true (.mov (.t 1)), og 17 15 true (.bin .num .leq (.t 16) (ki 1125899906842624)), oq 18 (.pick (.t 15) (.t 17) (.c (.bool false))), oq 4 (.mov (.t 18))]) <|
  .ret
def v93 : VFunc := ⟨19, [.tmp 4], c93⟩
/-- berthing/vector.Add -/
def c94 : VCode :=
  .seq (.ops [oq 2 (.box (.t 0)), oq 3 (.box (.t 1)), oq 4 (.alloc [(.int .i64 0), (.int .i64 0), (.int .i64 0)]), oq 5 (.mov (.c (.bool false)))]) <|
  .seq (.ops [oq 6 (.loadN 3 (.t 2)), oq 7 (.loadN 3 (.t 3)), oq 8 (.call .pure 95 [(.t 6), (.t 7), (.f 96)]), oq 9 (.extract 0 (.t 8)), oq 10 (.extract 1 (.t 8)), ⟨none, none, .storeN 3 (.t 4) (.t 9)⟩, oq 5 (.mov (.t 10))]) <|
  .ret
def v94 : VFunc := ⟨11, [.cellN 3 4, .tmp 5], c94⟩
/-- berthing/vector.both -/
def c95 : VCode :=
  .seq (.ops [oq 3 (.box (.t 0)), oq 4 (.box (.t 1)), oq 6 (.alloc [(.int .i64 0), (.int .i64 0), (.int .i64 0)]), oq 7 (.mov (.c (.bool false)))]) <|
  .seq (.seq (.ops [oq 12 (.loadN 3 (.t 3)), oq 13 (.call .pure 89 [(.t 12)]), oq 14 (.un .not (.t 13)), oq 15 (.mov (.t 14)), og 16 15 false (.loadN 3 (.t 4)), og 17 15 false (.call .pure 89 [(.t 16)]), og 18 15 false (.un .not (.t 17)), oq 19 (.pick (.t 15) (.c (.bool true)) (.t 18))]) <|
  .cond (.t 19) (.seq (.ops [oq 20 (.build [(.int .i64 0), (.int .i64 0), (.int .i64 0)] []), ⟨none, none, .storeN 3 (.t 6) (.t 20)⟩, oq 7 (.mov (.c (.bool false)))]) <|
   .ret) (.skip)) <|
  .seq (.draw [(8, .z [(.int .i64 0), (.int .i64 0), (.int .i64 0)]), (9, .z [(.int .i64 0), (.int .i64 0), (.int .i64 0)])] [oq 21 (.loadN 3 (.t 3)), oq 22 (.call .pure 92 [(.t 21)]), oq 23 (.loadN 3 (.t 4)), oq 24 (.call .pure 92 [(.t 23)]), ⟨none, none, .idle⟩, ⟨none, none, .idle⟩, ⟨none, none, .storeN 3 (.t 8) (.t 22)⟩, ⟨none, none, .storeN 3 (.t 9) (.t 24)⟩] []) <|
  .seq (.seq (.ops [oq 25 (.mov (ki 0))]) <|
  .block 0 (.loop (.seq (.ops [oq 26 (.bin .num .lss (.t 25) (ki 3))]) <|
    .seq (.cond (.t 26) (.skip) (.exit 0)) <|
    .seq (.block 1 (.seq (.ops [oq 27 (.mov (.t 25)), oq 10 (.mov (.t 27))]) <|
     .ops [oq 29 (.mov (.t 10)), oq 30 (.mov (.t 2)), oq 31 (.mov (.t 10)), oq 32 (.idxAddrA 3 1 (.t 8) (.t 31)), oq 33 (.load1 (.t 32)), oq 34 (.mov (.t 10)), oq 35 (.idxAddrA 3 1 (.t 9) (.t 34)), oq 36 (.load1 (.t 35)), oq 37 (.callV (.t 30) [(.t 33), (.t 36)]), oq 28 (.mov (.t 37)), oq 38 (.extract 0 (.t 28)), oq 39 (.extract 1 (.t 28)), oq 40 (.idxAddrA 3 1 (.t 8) (.t 29)), ⟨none, none, .store1 (.t 40) (.t 38)⟩])) <|
    .ops [oq 41 (.bin .num .add (.t 25) (ki 1)), oq 25 (.mov (.t 41))]))) <|
  .seq (.seq (.ops [oq 42 (.loadN 3 (.t 8)), oq 43 (.call .pure 97 [(.t 42)]), oq 11 (.alloc [(.int .i64 0), (.int .i64 0), (.int .i64 0)]), ⟨none, none, .storeN 3 (.t 11) (.t 43)⟩]) <|
  .seq (.ops [oq 44 (.loadN 3 (.t 11)), oq 45 (.call .pure 89 [(.t 44)])]) <|
  .cond (.t 45) (.seq (.ops [oq 46 (.loadN 3 (.t 11)), ⟨none, none, .storeN 3 (.t 6) (.t 46)⟩, oq 7 (.mov (.c (.bool true)))]) <|
   .ret) (.skip)) <|
  .seq (.ops [oq 47 (.build [(.int .i64 0), (.int .i64 0), (.int .i64 0)] []), ⟨none, none, .storeN 3 (.t 6) (.t 47)⟩, oq 7 (.mov (.c (.bool false)))]) <|
  .ret
def v95 : VFunc := ⟨48, [.cellN 3 6, .tmp 7], c95⟩
/-- berthing/checked.Add -/
def c96 : VCode :=
  .seq (.ops [oq 4 (.mov (ki 0)), oq 5 (.mov (.c (.bool false)))]) <|
  .seq (.ops [oq 7 (.mov (.t 0)), oq 8 (.conv .u64 (.t 7)), oq 9 (.mov (.t 1)), oq 10 (.conv .u64 (.t 9)), oq 11 (.bin .num .add (.t 8) (.t 10)), oq 12 (.conv .i64 (.t 11)), oq 6 (.mov (.t 12))]) <|
  .seq (.seq (.ops [oq 13 (.mov (.t 0)), oq 14 (.mov (.t 6)), oq 15 (.bin .num .xor (.t 13) (.t 14)), oq 16 (.mov (.t 1)), oq 17 (.mov (.t 6)), oq 18 (.bin .num .xor (.t 16) (.t 17)), oq 19 (.bin .num .and (.t 15) (.t 18)), oq 20 (.bin .num .lss (.t 19) (ki 0))]) <|
  .cond (.t 20) (.seq (.ops [oq 4 (.mov (ki 0)), oq 5 (.mov (.c (.bool false)))]) <|
   .ret) (.skip)) <|
  .seq (.ops [oq 21 (.mov (.t 6)), oq 4 (.mov (.t 21)), oq 5 (.mov (.c (.bool true)))]) <|
  .ret
def v96 : VFunc := ⟨22, [.tmp 4, .tmp 5], c96⟩
/-- berthing/vector.of -/
def c97 : VCode :=
  .seq (.ops [oq 1 (.box (.t 0)), oq 2 (.alloc [(.int .i64 0), (.int .i64 0), (.int .i64 0)])]) <|
  .seq (.ops [oq 3 (.idxAddrA 3 1 (.t 1) (ki 0)), oq 4 (.load1 (.t 3)), oq 5 (.idxAddrA 3 1 (.t 1) (ki 1)), oq 6 (.load1 (.t 5)), oq 7 (.idxAddrA 3 1 (.t 1) (ki 2)), oq 8 (.load1 (.t 7)), oq 9 (.build [(.int .i64 0), (.int .i64 0), (.int .i64 0)] [(0, 1, (.t 4)), (1, 1, (.t 6)), (2, 1, (.t 8))]), ⟨none, none, .storeN 3 (.t 2) (.t 9)⟩]) <|
  .ret
def v97 : VFunc := ⟨10, [.cellN 3 2], c97⟩
def ft : FuncId → Option VFunc := fun f => bif Nat.beq f 3 then some v3 else bif Nat.beq f 4 then some v4 else bif Nat.beq f 5 then some v5 else bif Nat.beq f 6 then some v6 else bif Nat.beq f 7 then some v7 else bif Nat.beq f 8 then some v8 else bif Nat.beq f 9 then some v9 else bif Nat.beq f 10 then some v10 else bif Nat.beq f 11 then some v11 else bif Nat.beq f 12 then some v12 else bif Nat.beq f 13 then some v13 else bif Nat.beq f 14 then some v14 else bif Nat.beq f 15 then some v15 else bif Nat.beq f 16 then some v16 else bif Nat.beq f 17 then some v17 else bif Nat.beq f 18 then some v18 else bif Nat.beq f 19 then some v19 else bif Nat.beq f 20 then some v20 else bif Nat.beq f 21 then some v21 else bif Nat.beq f 22 then some v22 else bif Nat.beq f 23 then some v23 else bif Nat.beq f 24 then some v24 else bif Nat.beq f 25 then some v25 else bif Nat.beq f 26 then some v26 else bif Nat.beq f 27 then some v27 else bif Nat.beq f 28 then some v28 else bif Nat.beq f 29 then some v29 else bif Nat.beq f 30 then some v30 else bif Nat.beq f 31 then some v31 else bif Nat.beq f 32 then some v32 else bif Nat.beq f 33 then some v33 else bif Nat.beq f 34 then some v34 else bif Nat.beq f 35 then some v35 else bif Nat.beq f 36 then some v36 else bif Nat.beq f 37 then some v37 else bif Nat.beq f 38 then some v38 else bif Nat.beq f 39 then some v39 else bif Nat.beq f 40 then some v40 else bif Nat.beq f 41 then some v41 else bif Nat.beq f 42 then some v42 else bif Nat.beq f 43 then some v43 else bif Nat.beq f 44 then some v44 else bif Nat.beq f 45 then some v45 else bif Nat.beq f 46 then some v46 else bif Nat.beq f 47 then some v47 else bif Nat.beq f 48 then some v48 else bif Nat.beq f 49 then some v49 else bif Nat.beq f 50 then some v50 else bif Nat.beq f 51 then some v51 else bif Nat.beq f 52 then some v52 else bif Nat.beq f 53 then some v53 else bif Nat.beq f 54 then some v54 else bif Nat.beq f 55 then some v55 else bif Nat.beq f 56 then some v56 else bif Nat.beq f 57 then some v57 else bif Nat.beq f 58 then some v58 else bif Nat.beq f 59 then some v59 else bif Nat.beq f 60 then some v60 else bif Nat.beq f 61 then some v61 else bif Nat.beq f 62 then some v62 else bif Nat.beq f 63 then some v63 else bif Nat.beq f 64 then some v64 else bif Nat.beq f 65 then some v65 else bif Nat.beq f 66 then some v66 else bif Nat.beq f 67 then some v67 else bif Nat.beq f 68 then some v68 else bif Nat.beq f 69 then some v69 else bif Nat.beq f 70 then some v70 else bif Nat.beq f 71 then some v71 else bif Nat.beq f 72 then some v72 else bif Nat.beq f 73 then some v73 else bif Nat.beq f 74 then some v74 else bif Nat.beq f 75 then some v75 else bif Nat.beq f 76 then some v76 else bif Nat.beq f 77 then some v77 else bif Nat.beq f 78 then some v78 else bif Nat.beq f 79 then some v79 else bif Nat.beq f 80 then some v80 else bif Nat.beq f 81 then some v81 else bif Nat.beq f 82 then some v82 else bif Nat.beq f 83 then some v83 else bif Nat.beq f 84 then some v84 else bif Nat.beq f 85 then some v85 else bif Nat.beq f 86 then some v86 else bif Nat.beq f 87 then some v87 else bif Nat.beq f 88 then some v88 else bif Nat.beq f 89 then some v89 else bif Nat.beq f 90 then some v90 else bif Nat.beq f 91 then some v91 else bif Nat.beq f 92 then some v92 else bif Nat.beq f 93 then some v93 else bif Nat.beq f 94 then some v94 else bif Nat.beq f 95 then some v95 else bif Nat.beq f 96 then some v96 else bif Nat.beq f 97 then some v97 else none
def pr : FuncId → Option (List PV → Option PV) := fun _ => none
def gi : Imm := fun _ => none
def gn : Addr → Bool := fun _ => false
def env : Env := ⟨ft, md, pr⟩
theorem is3 : FnComp ⟨Try.prog, md, gi, gn⟩ 3 v3 := ⟨Try.f3, _, fun t => ⟨false, md⟩, Try.func3, rfl, by kernel_rfl, by kernel_rfl, by kernel_rfl⟩
theorem is4 : FnComp ⟨Try.prog, md, gi, gn⟩ 4 v4 := ⟨Try.f4, _, fun t => ⟨false, md⟩, Try.func4, rfl, by kernel_rfl, by kernel_rfl, by kernel_rfl⟩
theorem is5 : FnComp ⟨Try.prog, md, gi, gn⟩ 5 v5 := ⟨Try.f5, _, fun t => ⟨false, md⟩, Try.func5, rfl, by kernel_rfl, by kernel_rfl, by kernel_rfl⟩
theorem is6 : FnComp ⟨Try.prog, md, gi, gn⟩ 6 v6 := ⟨Try.f6, _, fun t => ⟨Nat.beq t 11 || Nat.beq t 13 || false, md⟩, Try.func6, rfl, by kernel_rfl, by kernel_rfl, by kernel_rfl⟩
theorem is7 : FnComp ⟨Try.prog, md, gi, gn⟩ 7 v7 := ⟨Try.f7, _, fun t => ⟨false, md⟩, Try.func7, rfl, by kernel_rfl, by kernel_rfl, by kernel_rfl⟩
theorem is8 : FnComp ⟨Try.prog, md, gi, gn⟩ 8 v8 := ⟨Try.f8, _, fun t => ⟨false, md⟩, Try.func8, rfl, by kernel_rfl, by kernel_rfl, by kernel_rfl⟩
theorem is9 : FnComp ⟨Try.prog, md, gi, gn⟩ 9 v9 := ⟨Try.f9, _, fun t => ⟨false, md⟩, Try.func9, rfl, by kernel_rfl, by kernel_rfl, by kernel_rfl⟩
theorem is10 : FnComp ⟨Try.prog, md, gi, gn⟩ 10 v10 := ⟨Try.f10, _, fun t => ⟨false, md⟩, Try.func10, rfl, by kernel_rfl, by kernel_rfl, by kernel_rfl⟩
theorem is11 : FnComp ⟨Try.prog, md, gi, gn⟩ 11 v11 := ⟨Try.f11, _, fun t => ⟨false, bif Nat.beq t 27 then fun _ => .lend true else md⟩, Try.func11, rfl, by kernel_rfl, by kernel_rfl, by kernel_rfl⟩
theorem is12 : FnComp ⟨Try.prog, md, gi, gn⟩ 12 v12 := ⟨Try.f12, _, fun t => ⟨false, md⟩, Try.func12, rfl, by kernel_rfl, by kernel_rfl, by kernel_rfl⟩
theorem is13 : FnComp ⟨Try.prog, md, gi, gn⟩ 13 v13 := ⟨Try.f13, _, fun t => ⟨false, md⟩, Try.func13, rfl, by kernel_rfl, by kernel_rfl, by kernel_rfl⟩
theorem is14 : FnComp ⟨Try.prog, md, gi, gn⟩ 14 v14 := ⟨Try.f14, _, fun t => ⟨false, md⟩, Try.func14, rfl, by kernel_rfl, by kernel_rfl, by kernel_rfl⟩
theorem is15 : FnComp ⟨Try.prog, md, gi, gn⟩ 15 v15 := ⟨Try.f15, _, fun t => ⟨false, md⟩, Try.func15, rfl, by kernel_rfl, by kernel_rfl, by kernel_rfl⟩
theorem is16 : FnComp ⟨Try.prog, md, gi, gn⟩ 16 v16 := ⟨Try.f16, _, fun t => ⟨false, md⟩, Try.func16, rfl, by kernel_rfl, by kernel_rfl, by kernel_rfl⟩
theorem is17 : FnComp ⟨Try.prog, md, gi, gn⟩ 17 v17 := ⟨Try.f17, _, fun t => ⟨false, md⟩, Try.func17, rfl, by kernel_rfl, by kernel_rfl, by kernel_rfl⟩
theorem is18 : FnComp ⟨Try.prog, md, gi, gn⟩ 18 v18 := ⟨Try.f18, _, fun t => ⟨false, md⟩, Try.func18, rfl, by kernel_rfl, by kernel_rfl, by kernel_rfl⟩
theorem is19 : FnComp ⟨Try.prog, md, gi, gn⟩ 19 v19 := ⟨Try.f19, _, fun t => ⟨false, md⟩, Try.func19, rfl, by kernel_rfl, by kernel_rfl, by kernel_rfl⟩
theorem is20 : FnComp ⟨Try.prog, md, gi, gn⟩ 20 v20 := ⟨Try.f20, _, fun t => ⟨false, md⟩, Try.func20, rfl, by kernel_rfl, by kernel_rfl, by kernel_rfl⟩
theorem is21 : FnComp ⟨Try.prog, md, gi, gn⟩ 21 v21 := ⟨Try.f21, _, fun t => ⟨false, md⟩, Try.func21, rfl, by kernel_rfl, by kernel_rfl, by kernel_rfl⟩
theorem is22 : FnComp ⟨Try.prog, md, gi, gn⟩ 22 v22 := ⟨Try.f22, _, fun t => ⟨false, md⟩, Try.func22, rfl, by kernel_rfl, by kernel_rfl, by kernel_rfl⟩
theorem is23 : FnComp ⟨Try.prog, md, gi, gn⟩ 23 v23 := ⟨Try.f23, _, fun t => ⟨false, md⟩, Try.func23, rfl, by kernel_rfl, by kernel_rfl, by kernel_rfl⟩
theorem is24 : FnComp ⟨Try.prog, md, gi, gn⟩ 24 v24 := ⟨Try.f24, _, fun t => ⟨false, md⟩, Try.func24, rfl, by kernel_rfl, by kernel_rfl, by kernel_rfl⟩
theorem is25 : FnComp ⟨Try.prog, md, gi, gn⟩ 25 v25 := ⟨Try.f25, _, fun t => ⟨Nat.beq t 18 || false, md⟩, Try.func25, rfl, by kernel_rfl, by kernel_rfl, by kernel_rfl⟩
theorem is26 : FnComp ⟨Try.prog, md, gi, gn⟩ 26 v26 := ⟨Try.f26, _, fun t => ⟨false, md⟩, Try.func26, rfl, by kernel_rfl, by kernel_rfl, by kernel_rfl⟩
theorem is27 : FnComp ⟨Try.prog, md, gi, gn⟩ 27 v27 := ⟨Try.f27, _, fun t => ⟨false, md⟩, Try.func27, rfl, by kernel_rfl, by kernel_rfl, by kernel_rfl⟩
theorem is28 : FnComp ⟨Try.prog, md, gi, gn⟩ 28 v28 := ⟨Try.f28, _, fun t => ⟨false, md⟩, Try.func28, rfl, by kernel_rfl, by kernel_rfl, by kernel_rfl⟩
theorem is29 : FnComp ⟨Try.prog, md, gi, gn⟩ 29 v29 := ⟨Try.f29, _, fun t => ⟨false, md⟩, Try.func29, rfl, by kernel_rfl, by kernel_rfl, by kernel_rfl⟩
theorem is30 : FnComp ⟨Try.prog, md, gi, gn⟩ 30 v30 := ⟨Try.f30, _, fun t => ⟨false, md⟩, Try.func30, rfl, by kernel_rfl, by kernel_rfl, by kernel_rfl⟩
theorem is31 : FnComp ⟨Try.prog, md, gi, gn⟩ 31 v31 := ⟨Try.f31, _, fun t => ⟨false, md⟩, Try.func31, rfl, by kernel_rfl, by kernel_rfl, by kernel_rfl⟩
theorem is32 : FnComp ⟨Try.prog, md, gi, gn⟩ 32 v32 := ⟨Try.f32, _, fun t => ⟨false, bif Nat.beq t 21 then fun _ => .lend false else md⟩, Try.func32, rfl, by kernel_rfl, by kernel_rfl, by kernel_rfl⟩
theorem is33 : FnComp ⟨Try.prog, md, gi, gn⟩ 33 v33 := ⟨Try.f33, _, fun t => ⟨false, md⟩, Try.func33, rfl, by kernel_rfl, by kernel_rfl, by kernel_rfl⟩
theorem is34 : FnComp ⟨Try.prog, md, gi, gn⟩ 34 v34 := ⟨Try.f34, _, fun t => ⟨false, md⟩, Try.func34, rfl, by kernel_rfl, by kernel_rfl, by kernel_rfl⟩
theorem is35 : FnComp ⟨Try.prog, md, gi, gn⟩ 35 v35 := ⟨Try.f35, _, fun t => ⟨false, md⟩, Try.func35, rfl, by kernel_rfl, by kernel_rfl, by kernel_rfl⟩
theorem is36 : FnComp ⟨Try.prog, md, gi, gn⟩ 36 v36 := ⟨Try.f36, _, fun t => ⟨false, md⟩, Try.func36, rfl, by kernel_rfl, by kernel_rfl, by kernel_rfl⟩
theorem is37 : FnComp ⟨Try.prog, md, gi, gn⟩ 37 v37 := ⟨Try.f37, _, fun t => ⟨false, md⟩, Try.func37, rfl, by kernel_rfl, by kernel_rfl, by kernel_rfl⟩
theorem is38 : FnComp ⟨Try.prog, md, gi, gn⟩ 38 v38 := ⟨Try.f38, _, fun t => ⟨false, md⟩, Try.func38, rfl, by kernel_rfl, by kernel_rfl, by kernel_rfl⟩
theorem is39 : FnComp ⟨Try.prog, md, gi, gn⟩ 39 v39 := ⟨Try.f39, _, fun t => ⟨false, md⟩, Try.func39, rfl, by kernel_rfl, by kernel_rfl, by kernel_rfl⟩
theorem is40 : FnComp ⟨Try.prog, md, gi, gn⟩ 40 v40 := ⟨Try.f40, _, fun t => ⟨false, md⟩, Try.func40, rfl, by kernel_rfl, by kernel_rfl, by kernel_rfl⟩
theorem is41 : FnComp ⟨Try.prog, md, gi, gn⟩ 41 v41 := ⟨Try.f41, _, fun t => ⟨false, md⟩, Try.func41, rfl, by kernel_rfl, by kernel_rfl, by kernel_rfl⟩
theorem is42 : FnComp ⟨Try.prog, md, gi, gn⟩ 42 v42 := ⟨Try.f42, _, fun t => ⟨false, md⟩, Try.func42, rfl, by kernel_rfl, by kernel_rfl, by kernel_rfl⟩
theorem is43 : FnComp ⟨Try.prog, md, gi, gn⟩ 43 v43 := ⟨Try.f43, _, fun t => ⟨false, md⟩, Try.func43, rfl, by kernel_rfl, by kernel_rfl, by kernel_rfl⟩
theorem is44 : FnComp ⟨Try.prog, md, gi, gn⟩ 44 v44 := ⟨Try.f44, _, fun t => ⟨false, md⟩, Try.func44, rfl, by kernel_rfl, by kernel_rfl, by kernel_rfl⟩
theorem is45 : FnComp ⟨Try.prog, md, gi, gn⟩ 45 v45 := ⟨Try.f45, _, fun t => ⟨false, md⟩, Try.func45, rfl, by kernel_rfl, by kernel_rfl, by kernel_rfl⟩
theorem is46 : FnComp ⟨Try.prog, md, gi, gn⟩ 46 v46 := ⟨Try.f46, _, fun t => ⟨Nat.beq t 8 || false, md⟩, Try.func46, rfl, by kernel_rfl, by kernel_rfl, by kernel_rfl⟩
theorem is47 : FnComp ⟨Try.prog, md, gi, gn⟩ 47 v47 := ⟨Try.f47, _, fun t => ⟨false, md⟩, Try.func47, rfl, by kernel_rfl, by kernel_rfl, by kernel_rfl⟩
theorem is48 : FnComp ⟨Try.prog, md, gi, gn⟩ 48 v48 := ⟨Try.f48, _, fun t => ⟨false, md⟩, Try.func48, rfl, by kernel_rfl, by kernel_rfl, by kernel_rfl⟩
theorem is49 : FnComp ⟨Try.prog, md, gi, gn⟩ 49 v49 := ⟨Try.f49, _, fun t => ⟨false, md⟩, Try.func49, rfl, by kernel_rfl, by kernel_rfl, by kernel_rfl⟩
theorem is50 : FnComp ⟨Try.prog, md, gi, gn⟩ 50 v50 := ⟨Try.f50, _, fun t => ⟨false, md⟩, Try.func50, rfl, by kernel_rfl, by kernel_rfl, by kernel_rfl⟩
theorem is51 : FnComp ⟨Try.prog, md, gi, gn⟩ 51 v51 := ⟨Try.f51, _, fun t => ⟨false, md⟩, Try.func51, rfl, by kernel_rfl, by kernel_rfl, by kernel_rfl⟩
theorem is52 : FnComp ⟨Try.prog, md, gi, gn⟩ 52 v52 := ⟨Try.f52, _, fun t => ⟨false, md⟩, Try.func52, rfl, by kernel_rfl, by kernel_rfl, by kernel_rfl⟩
theorem is53 : FnComp ⟨Try.prog, md, gi, gn⟩ 53 v53 := ⟨Try.f53, _, fun t => ⟨false, md⟩, Try.func53, rfl, by kernel_rfl, by kernel_rfl, by kernel_rfl⟩
theorem is54 : FnComp ⟨Try.prog, md, gi, gn⟩ 54 v54 := ⟨Try.f54, _, fun t => ⟨false, md⟩, Try.func54, rfl, by kernel_rfl, by kernel_rfl, by kernel_rfl⟩
theorem is55 : FnComp ⟨Try.prog, md, gi, gn⟩ 55 v55 := ⟨Try.f55, _, fun t => ⟨false, md⟩, Try.func55, rfl, by kernel_rfl, by kernel_rfl, by kernel_rfl⟩
theorem is56 : FnComp ⟨Try.prog, md, gi, gn⟩ 56 v56 := ⟨Try.f56, _, fun t => ⟨false, md⟩, Try.func56, rfl, by kernel_rfl, by kernel_rfl, by kernel_rfl⟩
theorem is57 : FnComp ⟨Try.prog, md, gi, gn⟩ 57 v57 := ⟨Try.f57, _, fun t => ⟨false, md⟩, Try.func57, rfl, by kernel_rfl, by kernel_rfl, by kernel_rfl⟩
theorem is58 : FnComp ⟨Try.prog, md, gi, gn⟩ 58 v58 := ⟨Try.f58, _, fun t => ⟨false, md⟩, Try.func58, rfl, by kernel_rfl, by kernel_rfl, by kernel_rfl⟩
theorem is59 : FnComp ⟨Try.prog, md, gi, gn⟩ 59 v59 := ⟨Try.f59, _, fun t => ⟨false, md⟩, Try.func59, rfl, by kernel_rfl, by kernel_rfl, by kernel_rfl⟩
theorem is60 : FnComp ⟨Try.prog, md, gi, gn⟩ 60 v60 := ⟨Try.f60, _, fun t => ⟨false, md⟩, Try.func60, rfl, by kernel_rfl, by kernel_rfl, by kernel_rfl⟩
theorem is61 : FnComp ⟨Try.prog, md, gi, gn⟩ 61 v61 := ⟨Try.f61, _, fun t => ⟨Nat.beq t 22 || false, md⟩, Try.func61, rfl, by kernel_rfl, by kernel_rfl, by kernel_rfl⟩
theorem is62 : FnComp ⟨Try.prog, md, gi, gn⟩ 62 v62 := ⟨Try.f62, _, fun t => ⟨false, md⟩, Try.func62, rfl, by kernel_rfl, by kernel_rfl, by kernel_rfl⟩
theorem is63 : FnComp ⟨Try.prog, md, gi, gn⟩ 63 v63 := ⟨Try.f63, _, fun t => ⟨false, md⟩, Try.func63, rfl, by kernel_rfl, by kernel_rfl, by kernel_rfl⟩
theorem is64 : FnComp ⟨Try.prog, md, gi, gn⟩ 64 v64 := ⟨Try.f64, _, fun t => ⟨false, md⟩, Try.func64, rfl, by kernel_rfl, by kernel_rfl, by kernel_rfl⟩
theorem is65 : FnComp ⟨Try.prog, md, gi, gn⟩ 65 v65 := ⟨Try.f65, _, fun t => ⟨false, md⟩, Try.func65, rfl, by kernel_rfl, by kernel_rfl, by kernel_rfl⟩
theorem is66 : FnComp ⟨Try.prog, md, gi, gn⟩ 66 v66 := ⟨Try.f66, _, fun t => ⟨false, md⟩, Try.func66, rfl, by kernel_rfl, by kernel_rfl, by kernel_rfl⟩
theorem is67 : FnComp ⟨Try.prog, md, gi, gn⟩ 67 v67 := ⟨Try.f67, _, fun t => ⟨false, md⟩, Try.func67, rfl, by kernel_rfl, by kernel_rfl, by kernel_rfl⟩
theorem is68 : FnComp ⟨Try.prog, md, gi, gn⟩ 68 v68 := ⟨Try.f68, _, fun t => ⟨false, md⟩, Try.func68, rfl, by kernel_rfl, by kernel_rfl, by kernel_rfl⟩
theorem is69 : FnComp ⟨Try.prog, md, gi, gn⟩ 69 v69 := ⟨Try.f69, _, fun t => ⟨false, md⟩, Try.func69, rfl, by kernel_rfl, by kernel_rfl, by kernel_rfl⟩
theorem is70 : FnComp ⟨Try.prog, md, gi, gn⟩ 70 v70 := ⟨Try.f70, _, fun t => ⟨false, md⟩, Try.func70, rfl, by kernel_rfl, by kernel_rfl, by kernel_rfl⟩
theorem is71 : FnComp ⟨Try.prog, md, gi, gn⟩ 71 v71 := ⟨Try.f71, _, fun t => ⟨false, md⟩, Try.func71, rfl, by kernel_rfl, by kernel_rfl, by kernel_rfl⟩
theorem is72 : FnComp ⟨Try.prog, md, gi, gn⟩ 72 v72 := ⟨Try.f72, _, fun t => ⟨false, md⟩, Try.func72, rfl, by kernel_rfl, by kernel_rfl, by kernel_rfl⟩
theorem is73 : FnComp ⟨Try.prog, md, gi, gn⟩ 73 v73 := ⟨Try.f73, _, fun t => ⟨false, md⟩, Try.func73, rfl, by kernel_rfl, by kernel_rfl, by kernel_rfl⟩
theorem is74 : FnComp ⟨Try.prog, md, gi, gn⟩ 74 v74 := ⟨Try.f74, _, fun t => ⟨false, md⟩, Try.func74, rfl, by kernel_rfl, by kernel_rfl, by kernel_rfl⟩
theorem is75 : FnComp ⟨Try.prog, md, gi, gn⟩ 75 v75 := ⟨Try.f75, _, fun t => ⟨false, md⟩, Try.func75, rfl, by kernel_rfl, by kernel_rfl, by kernel_rfl⟩
theorem is76 : FnComp ⟨Try.prog, md, gi, gn⟩ 76 v76 := ⟨Try.f76, _, fun t => ⟨false, md⟩, Try.func76, rfl, by kernel_rfl, by kernel_rfl, by kernel_rfl⟩
theorem is77 : FnComp ⟨Try.prog, md, gi, gn⟩ 77 v77 := ⟨Try.f77, _, fun t => ⟨false, md⟩, Try.func77, rfl, by kernel_rfl, by kernel_rfl, by kernel_rfl⟩
theorem is78 : FnComp ⟨Try.prog, md, gi, gn⟩ 78 v78 := ⟨Try.f78, _, fun t => ⟨false, md⟩, Try.func78, rfl, by kernel_rfl, by kernel_rfl, by kernel_rfl⟩
theorem is79 : FnComp ⟨Try.prog, md, gi, gn⟩ 79 v79 := ⟨Try.f79, _, fun t => ⟨false, md⟩, Try.func79, rfl, by kernel_rfl, by kernel_rfl, by kernel_rfl⟩
theorem is80 : FnComp ⟨Try.prog, md, gi, gn⟩ 80 v80 := ⟨Try.f80, _, fun t => ⟨false, md⟩, Try.func80, rfl, by kernel_rfl, by kernel_rfl, by kernel_rfl⟩
theorem is81 : FnComp ⟨Try.prog, md, gi, gn⟩ 81 v81 := ⟨Try.f81, _, fun t => ⟨false, md⟩, Try.func81, rfl, by kernel_rfl, by kernel_rfl, by kernel_rfl⟩
theorem is82 : FnComp ⟨Try.prog, md, gi, gn⟩ 82 v82 := ⟨Try.f82, _, fun t => ⟨false, md⟩, Try.func82, rfl, by kernel_rfl, by kernel_rfl, by kernel_rfl⟩
theorem is83 : FnComp ⟨Try.prog, md, gi, gn⟩ 83 v83 := ⟨Try.f83, _, fun t => ⟨false, md⟩, Try.func83, rfl, by kernel_rfl, by kernel_rfl, by kernel_rfl⟩
theorem is84 : FnComp ⟨Try.prog, md, gi, gn⟩ 84 v84 := ⟨Try.f84, _, fun t => ⟨false, md⟩, Try.func84, rfl, by kernel_rfl, by kernel_rfl, by kernel_rfl⟩
theorem is85 : FnComp ⟨Try.prog, md, gi, gn⟩ 85 v85 := ⟨Try.f85, _, fun t => ⟨false, md⟩, Try.func85, rfl, by kernel_rfl, by kernel_rfl, by kernel_rfl⟩
theorem is86 : FnComp ⟨Try.prog, md, gi, gn⟩ 86 v86 := ⟨Try.f86, _, fun t => ⟨false, md⟩, Try.func86, rfl, by kernel_rfl, by kernel_rfl, by kernel_rfl⟩
theorem is87 : FnComp ⟨Try.prog, md, gi, gn⟩ 87 v87 := ⟨Try.f87, _, fun t => ⟨false, md⟩, Try.func87, rfl, by kernel_rfl, by kernel_rfl, by kernel_rfl⟩
theorem is88 : FnComp ⟨Try.prog, md, gi, gn⟩ 88 v88 := ⟨Try.f88, _, fun t => ⟨false, md⟩, Try.func88, rfl, by kernel_rfl, by kernel_rfl, by kernel_rfl⟩
theorem is89 : FnComp ⟨Try.prog, md, gi, gn⟩ 89 v89 := ⟨Try.f89, _, fun t => ⟨false, md⟩, Try.func89, rfl, by kernel_rfl, by kernel_rfl, by kernel_rfl⟩
theorem is90 : FnComp ⟨Try.prog, md, gi, gn⟩ 90 v90 := ⟨Try.f90, _, fun t => ⟨false, md⟩, Try.func90, rfl, by kernel_rfl, by kernel_rfl, by kernel_rfl⟩
theorem is91 : FnComp ⟨Try.prog, md, gi, gn⟩ 91 v91 := ⟨Try.f91, _, fun t => ⟨false, md⟩, Try.func91, rfl, by kernel_rfl, by kernel_rfl, by kernel_rfl⟩
theorem is92 : FnComp ⟨Try.prog, md, gi, gn⟩ 92 v92 := ⟨Try.f92, _, fun t => ⟨false, md⟩, Try.func92, rfl, by kernel_rfl, by kernel_rfl, by kernel_rfl⟩
theorem is93 : FnComp ⟨Try.prog, md, gi, gn⟩ 93 v93 := ⟨Try.f93, _, fun t => ⟨false, md⟩, Try.func93, rfl, by kernel_rfl, by kernel_rfl, by kernel_rfl⟩
theorem is94 : FnComp ⟨Try.prog, md, gi, gn⟩ 94 v94 := ⟨Try.f94, _, fun t => ⟨false, md⟩, Try.func94, rfl, by kernel_rfl, by kernel_rfl, by kernel_rfl⟩
theorem is95 : FnComp ⟨Try.prog, md, gi, gn⟩ 95 v95 := ⟨Try.f95, _, fun t => ⟨false, md⟩, Try.func95, rfl, by kernel_rfl, by kernel_rfl, by kernel_rfl⟩
theorem is96 : FnComp ⟨Try.prog, md, gi, gn⟩ 96 v96 := ⟨Try.f96, _, fun t => ⟨false, md⟩, Try.func96, rfl, by kernel_rfl, by kernel_rfl, by kernel_rfl⟩
theorem is97 : FnComp ⟨Try.prog, md, gi, gn⟩ 97 v97 := ⟨Try.f97, _, fun t => ⟨false, md⟩, Try.func97, rfl, by kernel_rfl, by kernel_rfl, by kernel_rfl⟩

theorem envOK : EnvOK ⟨Try.prog, md, gi, gn⟩ env := ⟨rfl, by kernel_rfl, (fun f vf h => by
  change ft f = some vf at h
  unfold ft at h
  rcases ft_cons h with ⟨h1, h2⟩ | h
  · rw [h1, h2]; exact is3
  rcases ft_cons h with ⟨h1, h2⟩ | h
  · rw [h1, h2]; exact is4
  rcases ft_cons h with ⟨h1, h2⟩ | h
  · rw [h1, h2]; exact is5
  rcases ft_cons h with ⟨h1, h2⟩ | h
  · rw [h1, h2]; exact is6
  rcases ft_cons h with ⟨h1, h2⟩ | h
  · rw [h1, h2]; exact is7
  rcases ft_cons h with ⟨h1, h2⟩ | h
  · rw [h1, h2]; exact is8
  rcases ft_cons h with ⟨h1, h2⟩ | h
  · rw [h1, h2]; exact is9
  rcases ft_cons h with ⟨h1, h2⟩ | h
  · rw [h1, h2]; exact is10
  rcases ft_cons h with ⟨h1, h2⟩ | h
  · rw [h1, h2]; exact is11
  rcases ft_cons h with ⟨h1, h2⟩ | h
  · rw [h1, h2]; exact is12
  rcases ft_cons h with ⟨h1, h2⟩ | h
  · rw [h1, h2]; exact is13
  rcases ft_cons h with ⟨h1, h2⟩ | h
  · rw [h1, h2]; exact is14
  rcases ft_cons h with ⟨h1, h2⟩ | h
  · rw [h1, h2]; exact is15
  rcases ft_cons h with ⟨h1, h2⟩ | h
  · rw [h1, h2]; exact is16
  rcases ft_cons h with ⟨h1, h2⟩ | h
  · rw [h1, h2]; exact is17
  rcases ft_cons h with ⟨h1, h2⟩ | h
  · rw [h1, h2]; exact is18
  rcases ft_cons h with ⟨h1, h2⟩ | h
  · rw [h1, h2]; exact is19
  rcases ft_cons h with ⟨h1, h2⟩ | h
  · rw [h1, h2]; exact is20
  rcases ft_cons h with ⟨h1, h2⟩ | h
  · rw [h1, h2]; exact is21
  rcases ft_cons h with ⟨h1, h2⟩ | h
  · rw [h1, h2]; exact is22
  rcases ft_cons h with ⟨h1, h2⟩ | h
  · rw [h1, h2]; exact is23
  rcases ft_cons h with ⟨h1, h2⟩ | h
  · rw [h1, h2]; exact is24
  rcases ft_cons h with ⟨h1, h2⟩ | h
  · rw [h1, h2]; exact is25
  rcases ft_cons h with ⟨h1, h2⟩ | h
  · rw [h1, h2]; exact is26
  rcases ft_cons h with ⟨h1, h2⟩ | h
  · rw [h1, h2]; exact is27
  rcases ft_cons h with ⟨h1, h2⟩ | h
  · rw [h1, h2]; exact is28
  rcases ft_cons h with ⟨h1, h2⟩ | h
  · rw [h1, h2]; exact is29
  rcases ft_cons h with ⟨h1, h2⟩ | h
  · rw [h1, h2]; exact is30
  rcases ft_cons h with ⟨h1, h2⟩ | h
  · rw [h1, h2]; exact is31
  rcases ft_cons h with ⟨h1, h2⟩ | h
  · rw [h1, h2]; exact is32
  rcases ft_cons h with ⟨h1, h2⟩ | h
  · rw [h1, h2]; exact is33
  rcases ft_cons h with ⟨h1, h2⟩ | h
  · rw [h1, h2]; exact is34
  rcases ft_cons h with ⟨h1, h2⟩ | h
  · rw [h1, h2]; exact is35
  rcases ft_cons h with ⟨h1, h2⟩ | h
  · rw [h1, h2]; exact is36
  rcases ft_cons h with ⟨h1, h2⟩ | h
  · rw [h1, h2]; exact is37
  rcases ft_cons h with ⟨h1, h2⟩ | h
  · rw [h1, h2]; exact is38
  rcases ft_cons h with ⟨h1, h2⟩ | h
  · rw [h1, h2]; exact is39
  rcases ft_cons h with ⟨h1, h2⟩ | h
  · rw [h1, h2]; exact is40
  rcases ft_cons h with ⟨h1, h2⟩ | h
  · rw [h1, h2]; exact is41
  rcases ft_cons h with ⟨h1, h2⟩ | h
  · rw [h1, h2]; exact is42
  rcases ft_cons h with ⟨h1, h2⟩ | h
  · rw [h1, h2]; exact is43
  rcases ft_cons h with ⟨h1, h2⟩ | h
  · rw [h1, h2]; exact is44
  rcases ft_cons h with ⟨h1, h2⟩ | h
  · rw [h1, h2]; exact is45
  rcases ft_cons h with ⟨h1, h2⟩ | h
  · rw [h1, h2]; exact is46
  rcases ft_cons h with ⟨h1, h2⟩ | h
  · rw [h1, h2]; exact is47
  rcases ft_cons h with ⟨h1, h2⟩ | h
  · rw [h1, h2]; exact is48
  rcases ft_cons h with ⟨h1, h2⟩ | h
  · rw [h1, h2]; exact is49
  rcases ft_cons h with ⟨h1, h2⟩ | h
  · rw [h1, h2]; exact is50
  rcases ft_cons h with ⟨h1, h2⟩ | h
  · rw [h1, h2]; exact is51
  rcases ft_cons h with ⟨h1, h2⟩ | h
  · rw [h1, h2]; exact is52
  rcases ft_cons h with ⟨h1, h2⟩ | h
  · rw [h1, h2]; exact is53
  rcases ft_cons h with ⟨h1, h2⟩ | h
  · rw [h1, h2]; exact is54
  rcases ft_cons h with ⟨h1, h2⟩ | h
  · rw [h1, h2]; exact is55
  rcases ft_cons h with ⟨h1, h2⟩ | h
  · rw [h1, h2]; exact is56
  rcases ft_cons h with ⟨h1, h2⟩ | h
  · rw [h1, h2]; exact is57
  rcases ft_cons h with ⟨h1, h2⟩ | h
  · rw [h1, h2]; exact is58
  rcases ft_cons h with ⟨h1, h2⟩ | h
  · rw [h1, h2]; exact is59
  rcases ft_cons h with ⟨h1, h2⟩ | h
  · rw [h1, h2]; exact is60
  rcases ft_cons h with ⟨h1, h2⟩ | h
  · rw [h1, h2]; exact is61
  rcases ft_cons h with ⟨h1, h2⟩ | h
  · rw [h1, h2]; exact is62
  rcases ft_cons h with ⟨h1, h2⟩ | h
  · rw [h1, h2]; exact is63
  rcases ft_cons h with ⟨h1, h2⟩ | h
  · rw [h1, h2]; exact is64
  rcases ft_cons h with ⟨h1, h2⟩ | h
  · rw [h1, h2]; exact is65
  rcases ft_cons h with ⟨h1, h2⟩ | h
  · rw [h1, h2]; exact is66
  rcases ft_cons h with ⟨h1, h2⟩ | h
  · rw [h1, h2]; exact is67
  rcases ft_cons h with ⟨h1, h2⟩ | h
  · rw [h1, h2]; exact is68
  rcases ft_cons h with ⟨h1, h2⟩ | h
  · rw [h1, h2]; exact is69
  rcases ft_cons h with ⟨h1, h2⟩ | h
  · rw [h1, h2]; exact is70
  rcases ft_cons h with ⟨h1, h2⟩ | h
  · rw [h1, h2]; exact is71
  rcases ft_cons h with ⟨h1, h2⟩ | h
  · rw [h1, h2]; exact is72
  rcases ft_cons h with ⟨h1, h2⟩ | h
  · rw [h1, h2]; exact is73
  rcases ft_cons h with ⟨h1, h2⟩ | h
  · rw [h1, h2]; exact is74
  rcases ft_cons h with ⟨h1, h2⟩ | h
  · rw [h1, h2]; exact is75
  rcases ft_cons h with ⟨h1, h2⟩ | h
  · rw [h1, h2]; exact is76
  rcases ft_cons h with ⟨h1, h2⟩ | h
  · rw [h1, h2]; exact is77
  rcases ft_cons h with ⟨h1, h2⟩ | h
  · rw [h1, h2]; exact is78
  rcases ft_cons h with ⟨h1, h2⟩ | h
  · rw [h1, h2]; exact is79
  rcases ft_cons h with ⟨h1, h2⟩ | h
  · rw [h1, h2]; exact is80
  rcases ft_cons h with ⟨h1, h2⟩ | h
  · rw [h1, h2]; exact is81
  rcases ft_cons h with ⟨h1, h2⟩ | h
  · rw [h1, h2]; exact is82
  rcases ft_cons h with ⟨h1, h2⟩ | h
  · rw [h1, h2]; exact is83
  rcases ft_cons h with ⟨h1, h2⟩ | h
  · rw [h1, h2]; exact is84
  rcases ft_cons h with ⟨h1, h2⟩ | h
  · rw [h1, h2]; exact is85
  rcases ft_cons h with ⟨h1, h2⟩ | h
  · rw [h1, h2]; exact is86
  rcases ft_cons h with ⟨h1, h2⟩ | h
  · rw [h1, h2]; exact is87
  rcases ft_cons h with ⟨h1, h2⟩ | h
  · rw [h1, h2]; exact is88
  rcases ft_cons h with ⟨h1, h2⟩ | h
  · rw [h1, h2]; exact is89
  rcases ft_cons h with ⟨h1, h2⟩ | h
  · rw [h1, h2]; exact is90
  rcases ft_cons h with ⟨h1, h2⟩ | h
  · rw [h1, h2]; exact is91
  rcases ft_cons h with ⟨h1, h2⟩ | h
  · rw [h1, h2]; exact is92
  rcases ft_cons h with ⟨h1, h2⟩ | h
  · rw [h1, h2]; exact is93
  rcases ft_cons h with ⟨h1, h2⟩ | h
  · rw [h1, h2]; exact is94
  rcases ft_cons h with ⟨h1, h2⟩ | h
  · rw [h1, h2]; exact is95
  rcases ft_cons h with ⟨h1, h2⟩ | h
  · rw [h1, h2]; exact is96
  rcases ft_cons h with ⟨h1, h2⟩ | h
  · rw [h1, h2]; exact is97
  cases h), fun f g h => by cases h⟩
end Go.Proofs.Ytflfdglnelbbiaa
