/-
  Numbers in fewer bits, with and without a sign; what must be answered ahead of everything else.
-/
import Derived.Test.YtpebkojodmjleaaPChA
set_option linter.all false
set_option linter.unusedVariables false
set_option linter.unusedSimpArgs false
set_option linter.unusedSectionVars false
namespace Go.Proofs.Ytpebkojodmjleaa
open Go Go.VM

theorem u8_range {n : Int} : IntKind.u8.wrap n = n % 256 := by
  unfold IntKind.wrap; simp only [IntKind.bits, IntKind.signed, Bool.false_and]; simp
theorem i16_range {n : Int} (h : -32768 ≤ n) (h' : n ≤ 32767) : IntKind.i16.wrap n = n := by
  unfold IntKind.wrap; simp only [IntKind.bits, IntKind.signed, Bool.true_and, Nat.reduceSub, Int.reducePow]
  split <;> rename_i h <;> simp at h <;> omega
theorem i16_in (n : Int) : -32768 ≤ IntKind.i16.wrap n ∧ IntKind.i16.wrap n ≤ 32767 := by
  unfold IntKind.wrap; simp only [IntKind.bits, IntKind.signed, Bool.true_and, Nat.reduceSub, Int.reducePow]
  split <;> rename_i h <;> simp at h <;> omega
theorem i32_range {n : Int} (h : -2147483648 ≤ n) (h' : n ≤ 2147483647) : IntKind.i32.wrap n = n := by
  unfold IntKind.wrap; simp only [IntKind.bits, IntKind.signed, Bool.true_and, Nat.reduceSub, Int.reducePow]
  split <;> rename_i h <;> simp at h <;> omega
theorem i32_in (n : Int) : -2147483648 ≤ IntKind.i32.wrap n ∧ IntKind.i32.wrap n ≤ 2147483647 := by
  unfold IntKind.wrap; simp only [IntKind.bits, IntKind.signed, Bool.true_and, Nat.reduceSub, Int.reducePow]
  split <;> rename_i h <;> simp at h <;> omega

/-- A number in a range, and whether it is. -/
def narrow (k : IntKind) (lo hi n : Int) : PV := if lo ≤ n ∧ n ≤ hi then .tup [.int k n, .bool true] else .tup [.int k 0, .bool false]
/-! ### signs -/
def zig (n : Int) : Int := if n < 0 then -1 - 2 * n else 2 * n
def zag (u : Int) : Int := if u % 2 = 1 then -1 - u / 2 else u / 2
theorem zag_zig {n : Int} : zag (zig n) = n := by unfold zag zig; split <;> split <;> omega
theorem zig_zag {u : Int} (h : 0 ≤ u) : zig (zag u) = u := by unfold zag zig; split <;> split <;> omega

theorem u64_xor0 (x : BitVec 64) : IntKind.u64.wrap ((BitVec.ofInt IntKind.u64.bits (x.toNat : Int) ^^^ BitVec.ofInt IntKind.u64.bits 0).toNat : Int) = (x.toNat : Int) := by
  show IntKind.u64.wrap ((BitVec.ofInt 64 (x.toNat : Int) ^^^ BitVec.ofInt 64 0).toNat : Int) = _
  rw [ofInt_toNat64]
  have : (BitVec.ofInt 64 0) = 0#64 := rfl
  rw [this, BitVec.xor_zero, u64_self]
theorem u64_xor1 (x : BitVec 64) : IntKind.u64.wrap ((BitVec.ofInt IntKind.u64.bits (x.toNat : Int) ^^^ BitVec.ofInt IntKind.u64.bits 18446744073709551615).toNat : Int) = 18446744073709551615 - (x.toNat : Int) := by
  show IntKind.u64.wrap ((BitVec.ofInt 64 (x.toNat : Int) ^^^ BitVec.ofInt 64 18446744073709551615).toNat : Int) = _
  rw [ofInt_toNat64]
  have : (BitVec.ofInt 64 18446744073709551615) = BitVec.allOnes 64 := by decide
  rw [this, BitVec.xor_allOnes, u64_self, BitVec.toNat_not]
  have := x.isLt
  omega
theorem i64_xor0 (x : BitVec 64) : IntKind.i64.wrap ((BitVec.ofInt IntKind.i64.bits x.toInt ^^^ BitVec.ofInt IntKind.i64.bits 0).toNat : Int) = x.toInt := by
  show IntKind.i64.wrap ((BitVec.ofInt 64 x.toInt ^^^ BitVec.ofInt 64 0).toNat : Int) = _
  rw [ofInt_toInt64]
  have : (BitVec.ofInt 64 0) = 0#64 := rfl
  rw [this, BitVec.xor_zero, i64_of_toNat]
theorem i64_xor1 (x : BitVec 64) : IntKind.i64.wrap ((BitVec.ofInt IntKind.i64.bits x.toInt ^^^ BitVec.ofInt IntKind.i64.bits (-1)).toNat : Int) = -1 - x.toInt := by
  show IntKind.i64.wrap ((BitVec.ofInt 64 x.toInt ^^^ BitVec.ofInt 64 (-1)).toNat : Int) = _
  rw [ofInt_toInt64]
  have : (BitVec.ofInt 64 (-1)) = BitVec.allOnes 64 := by decide
  rw [this, BitVec.xor_allOnes, i64_of_toNat, BitVec.toInt_not]
  have h := toInt_range x
  have e : ((2 ^ 64 : Nat) : Int) = 18446744073709551616 := rfl
  have h1 := x.isLt
  rw [BitVec.toInt_eq_toNat_cond, Int.bmod_def, e]
  split <;> split <;> omega

theorem zig_bits (x : BitVec 64) : EP (EE env) 35 [i64 x] = some (.int .u64 (zig x.toInt)) := by
  have hr := toInt_range x
  refine Has.eq (EP_has ?_)
  refine eqK_has_eq _ (u64_of_toInt x) ?_
  refine needK_has rfl ?_
  refine eqK_has_eq _ (u64_shl x 1 (by decide)) ?_
  refine needK_has rfl ?_
  have hx := x.isLt
  have ht := BitVec.toInt_eq_toNat_cond x
  have hs : ((x <<< 1).toNat : Int) = 2 * (x.toNat : Int) % 18446744073709551616 := by
    rw [BitVec.toNat_shiftLeft, Nat.shiftLeft_eq]; omega
  have hsh : x.toInt.fdiv (2 ^ (min (63 : Int).toNat IntKind.i64.bits)) = if x.toInt < 0 then -1 else 0 := by
    have e : (2 : Int) ^ (min (63 : Int).toNat IntKind.i64.bits) = 9223372036854775808 := rfl
    rw [e, Int.fdiv_eq_ediv_of_nonneg _ (by decide)]
    split <;> omega
  refine eqK_has_eq _ hsh ?_
  by_cases h : x.toInt < 0
  · rw [if_pos h]
    refine eqK_has_eq 18446744073709551615 rfl ?_
    refine eqK_has_eq _ (u64_xor1 _) ?_
    refine Has.intro (Has.intro ?_)
    show PV.int .u64 _ = _
    unfold zig
    rw [if_pos h, hs]
    congr 1
    split at ht <;> omega
  · rw [if_neg h]
    refine eqK_has_eq 0 rfl ?_
    refine eqK_has_eq _ (u64_xor0 _) ?_
    refine Has.intro (Has.intro ?_)
    show PV.int .u64 _ = _
    unfold zig
    rw [if_neg h, hs]
    congr 1
    split at ht <;> omega
theorem zig_ok {n : Int} (h : fit n = true) : EP (EE env) 35 [.int .i64 n] = some (.int .u64 (zig n)) := by
  obtain ⟨x, rfl⟩ := i64_bits (fit_true h).1 (fit_true h).2
  exact zig_bits x

theorem u64_and1 (x : BitVec 64) : IntKind.u64.wrap ((BitVec.ofInt IntKind.u64.bits (x.toNat : Int) &&& BitVec.ofInt IntKind.u64.bits 1).toNat : Int) = ((x.toNat % 2 : Nat) : Int) := by
  have h := u64_and x 1#64
  have e : ((1#64 : BitVec 64).toNat : Int) = 1 := rfl
  rw [e] at h
  rw [h, BitVec.toNat_and]
  show ((x.toNat &&& 1 : Nat) : Int) = _
  rw [Nat.and_one_is_mod]
theorem zag_bits (x : BitVec 64) : EP (EE env) 34 [u64 x] = some (.int .i64 (zag (x.toNat : Int))) := by
  have hx := x.isLt
  refine Has.eq (EP_has ?_)
  refine needK_has rfl ?_
  refine eqK_has_eq _ (u64_shr x 1 (by decide)) ?_
  have hs : ((x >>> 1).toNat : Int) = (x.toNat : Int) / 2 := by
    rw [BitVec.toNat_ushiftRight, Nat.shiftRight_eq_div_pow]; omega
  have hn : (x >>> 1).toInt = (x.toNat : Int) / 2 := by
    rw [BitVec.toInt_eq_toNat_cond, if_pos (by omega), hs]
  refine eqK_has_eq (x >>> 1).toInt (i64_of_toNat _) ?_
  refine eqK_has_eq _ (u64_and1 x) ?_
  refine eqK_has_eq ((x.toNat % 2 : Nat) : Int) (wrap_i64 (by omega) (by omega)) ?_
  by_cases h : x.toNat % 2 = 1
  · rw [h]
    refine eqK_has_eq (-1) rfl ?_
    refine eqK_has_eq _ (i64_xor1 _) ?_
    refine Has.intro (Has.intro ?_)
    show PV.int .i64 _ = _
    unfold zag
    rw [if_pos (by omega), hn]
  · have h0 : x.toNat % 2 = 0 := by omega
    rw [h0]
    refine eqK_has_eq 0 rfl ?_
    refine eqK_has_eq _ (i64_xor0 _) ?_
    refine Has.intro (Has.intro ?_)
    show PV.int .i64 _ = _
    unfold zag
    rw [if_neg (by omega), hn]
theorem zag_ok {u : Int} (h : 0 ≤ u) (h' : u ≤ 18446744073709551615) : EP (EE env) 34 [.int .u64 u] = some (.int .i64 (zag u)) := by
  obtain ⟨x, rfl⟩ := u64_bits h h'
  exact zag_bits x

def held (n lo hi : Int) : Int := if n < lo then lo else if n > hi then hi else n
end Go.Proofs.Ytpebkojodmjleaa
