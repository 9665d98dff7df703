/-
  Sums that tell when they do not fit: what the program's functions compute.
-/
import Derived.Test.YtpebkojodmjleaaVmC
set_option linter.all false
set_option linter.unusedVariables false
set_option linter.unusedSimpArgs false
set_option linter.unusedSectionVars false
namespace Go.Proofs.Ytpebkojodmjleaa
open Go Go.VM

def fit (n : Int) : Bool := decide (-9223372036854775808 ≤ n) && decide (n ≤ 9223372036854775807)
/-- A number that fits, and that it does. -/
def told (n : Int) : PV := .tup [.int .i64 (if fit n then n else 0), .bool (fit n)]
theorem fit_true {n : Int} (h : fit n = true) : -9223372036854775808 ≤ n ∧ n ≤ 9223372036854775807 := by
  unfold fit at h; rw [Bool.and_eq_true, decide_eq_true_eq, decide_eq_true_eq] at h; exact h
theorem fit_iff (n : Int) : fit n = true ↔ -9223372036854775808 ≤ n ∧ n ≤ 9223372036854775807 := by
  unfold fit; rw [Bool.and_eq_true, decide_eq_true_eq, decide_eq_true_eq]

theorem lt0 (z : BitVec 64) : decide (z.toInt < 0) = z.msb := (BitVec.msb_eq_toInt).symm
theorem bmod_add (x y : BitVec 64) : (x + y).toInt = if fit (x.toInt + y.toInt) then x.toInt + y.toInt else if x.toInt + y.toInt < 0 then x.toInt + y.toInt + 18446744073709551616 else x.toInt + y.toInt - 18446744073709551616 := by
  have hx := toInt_range x
  have hy := toInt_range y
  rw [BitVec.toInt_add, Int.bmod_def]
  have e : ((2 ^ 64 : Nat) : Int) = 18446744073709551616 := rfl
  rw [e]
  by_cases h : fit (x.toInt + y.toInt) = true
  · rw [if_pos h]; have := fit_true h; omega
  · rw [if_neg h]
    rw [fit_iff] at h
    omega
theorem bmod_sub (x y : BitVec 64) : (x - y).toInt = if fit (x.toInt - y.toInt) then x.toInt - y.toInt else if x.toInt - y.toInt < 0 then x.toInt - y.toInt + 18446744073709551616 else x.toInt - y.toInt - 18446744073709551616 := by
  have hx := toInt_range x
  have hy := toInt_range y
  rw [BitVec.toInt_sub, Int.bmod_def]
  have e : ((2 ^ 64 : Nat) : Int) = 18446744073709551616 := rfl
  rw [e]
  by_cases h : fit (x.toInt - y.toInt) = true
  · rw [if_pos h]; have := fit_true h; omega
  · rw [if_neg h]
    rw [fit_iff] at h
    omega
theorem over_add (x y : BitVec 64) : decide (((x ^^^ (x + y)) &&& (y ^^^ (x + y))).toInt < 0) = !fit (x.toInt + y.toInt) := by
  rw [lt0, BitVec.msb_and, BitVec.msb_xor, BitVec.msb_xor, ← lt0, ← lt0, ← lt0]
  have h := bmod_add x y
  have hx := toInt_range x
  have hy := toInt_range y
  rw [Bool.eq_iff_iff]
  cases hf : fit (x.toInt + y.toInt) with
  | true =>
    rw [hf] at h; simp only [if_true] at h
    generalize (x + y).toInt = s at h ⊢
    simp
    omega
  | false =>
    rw [hf] at h; simp only [Bool.false_eq_true, if_false] at h
    have hn : ¬ (-9223372036854775808 ≤ x.toInt + y.toInt ∧ x.toInt + y.toInt ≤ 9223372036854775807) := by rw [← fit_iff, hf]; simp
    generalize (x + y).toInt = s at h ⊢
    simp
    omega
theorem over_sub (x y : BitVec 64) : decide (((x ^^^ y) &&& (x ^^^ (x - y))).toInt < 0) = !fit (x.toInt - y.toInt) := by
  rw [lt0, BitVec.msb_and, BitVec.msb_xor, BitVec.msb_xor, ← lt0, ← lt0, ← lt0]
  have h := bmod_sub x y
  have hx := toInt_range x
  have hy := toInt_range y
  rw [Bool.eq_iff_iff]
  cases hf : fit (x.toInt - y.toInt) with
  | true =>
    rw [hf] at h; simp only [if_true] at h
    generalize (x - y).toInt = s at h ⊢
    simp
    omega
  | false =>
    rw [hf] at h; simp only [Bool.false_eq_true, if_false] at h
    have hn : ¬ (-9223372036854775808 ≤ x.toInt - y.toInt ∧ x.toInt - y.toInt ≤ 9223372036854775807) := by rw [← fit_iff, hf]; simp
    generalize (x - y).toInt = s at h ⊢
    simp
    omega

/-- The least multiple of a unit that isn't below. -/
def upTo (n u : Int) : Int := if n.tmod u = 0 then n else if n.tmod u < 0 then n - n.tmod u else n + (u - n.tmod u)
end Go.Proofs.Ytpebkojodmjleaa
