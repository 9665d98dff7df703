/-
  Sums that tell when they do not fit: what the program's functions compute.
-/
import Derived.Test.YtilfmfnngkangaaVmC
set_option linter.all false
set_option linter.unusedVariables false
set_option linter.unusedSimpArgs false
set_option linter.unusedSectionVars false
namespace Go.Proofs.Ytilfmfnngkangaa
open Go Go.VM

def fit (n : Int) : Bool := decide (-9223372036854775808 ≤ n) && decide (n ≤ 9223372036854775807)
/-- A number that fits, and that it does. -/
def told (n : Int) : PV := .tup [.int .i64 (if fit n then n else 0), .bool (fit n)]
theorem fit_true {n : Int} (h : fit n = true) : -9223372036854775808 ≤ n ∧ n ≤ 9223372036854775807 := by
  unfold fit at h; rw [Bool.and_eq_true, decide_eq_true_eq, decide_eq_true_eq] at h; exact h
theorem fit_iff (n : Int) : fit n = true ↔ -9223372036854775808 ≤ n ∧ n ≤ 9223372036854775807 := by
  unfold fit; rw [Bool.and_eq_true, decide_eq_true_eq, decide_eq_true_eq]

theorem lt0 (z : BitVec 64) : decide (z.toInt < 0) = z.msb := (BitVec.msb_eq_toInt).symm
theorem bmod_add (x y : BitVec 64) : (x + y).toInt = if fit (x.toInt + y.toInt) then x.toInt + y.toInt else if x.toInt + y.toInt < 0 then x.toInt + y.toInt + 18446744073709551616 else x.toInt + y.toInt - 18446744073709551616 := by
  have hx := toInt_range x
  have hy := toInt_range y
  rw [BitVec.toInt_add, Int.bmod_def]
  have e : ((2 ^ 64 : Nat) : Int) = 18446744073709551616 := rfl
  rw [e]
  by_cases h : fit (x.toInt + y.toInt) = true
  · rw [if_pos h]; have := fit_true h; omega
  · rw [if_neg h]
    rw [fit_iff] at h
    omega
theorem bmod_sub (x y : BitVec 64) : (x - y).toInt = if fit (x.toInt - y.toInt) then x.toInt - y.toInt else if x.toInt - y.toInt < 0 then x.toInt - y.toInt + 18446744073709551616 else x.toInt - y.toInt - 18446744073709551616 := by
  have hx := toInt_range x
  have hy := toInt_range y
  rw [BitVec.toInt_sub, Int.bmod_def]
  have e : ((2 ^ 64 : Nat) : Int) = 18446744073709551616 := rfl
  rw [e]
  by_cases h : fit (x.toInt - y.toInt) = true
  · rw [if_pos h]; have := fit_true h; omega
  · rw [if_neg h]
    rw [fit_iff] at h
    omega
theorem over_add (x y : BitVec 64) : decide (((x ^^^ (x + y)) &&& (y ^^^ (x + y))).toInt < 0) = !fit (x.toInt + y.toInt) := by
  rw [lt0, BitVec.msb_and, BitVec.msb_xor, BitVec.msb_xor, ← lt0, ← lt0, ← lt0]
  have h := bmod_add x y
  have hx := toInt_range x
  have hy := toInt_range y
  rw [Bool.eq_iff_iff]
  cases hf : fit (x.toInt + y.toInt) with
  | true =>
    rw [hf] at h; simp only [if_true] at h
    generalize (x + y).toInt = s at h ⊢
    simp
    omega
  | false =>
    rw [hf] at h; simp only [Bool.false_eq_true, if_false] at h
    have hn : ¬ (-9223372036854775808 ≤ x.toInt + y.toInt ∧ x.toInt + y.toInt ≤ 9223372036854775807) := by rw [← fit_iff, hf]; simp
    generalize (x + y).toInt = s at h ⊢
    simp
    omega
theorem over_sub (x y : BitVec 64) : decide (((x ^^^ y) &&& (x ^^^ (x - y))).toInt < 0) = !fit (x.toInt - y.toInt) := by
  rw [lt0, BitVec.msb_and, BitVec.msb_xor, BitVec.msb_xor, ← lt0, ← lt0, ← lt0]
  have h := bmod_sub x y
  have hx := toInt_range x
  have hy := toInt_range y
  rw [Bool.eq_iff_iff]
  cases hf : fit (x.toInt - y.toInt) with
  | true =>
    rw [hf] at h; simp only [if_true] at h
    generalize (x - y).toInt = s at h ⊢
    simp
    omega
  | false =>
    rw [hf] at h; simp only [Bool.false_eq_true, if_false] at h
    have hn : ¬ (-9223372036854775808 ≤ x.toInt - y.toInt ∧ x.toInt - y.toInt ≤ 9223372036854775807) := by rw [← fit_iff, hf]; simp
    generalize (x - y).toInt = s at h ⊢
    simp
    omega

theorem add_bits (x y : BitVec 64) : EP (EE env) 12 [i64 x, i64 y] = some (told (x.toInt + y.toInt)) := by
  have h := bmod_add x y
  refine Has.eq (EP_has ?_)
  refine eqK_has_eq _ (u64_of_toInt x) ?_
  refine eqK_has_eq _ (u64_of_toInt y) ?_
  refine eqK_has_eq _ (u64_add _ _) ?_
  refine eqK_has_eq _ (i64_of_toNat _) ?_
  refine eqK_has_eq _ (i64_xor _ _) ?_
  refine eqK_has_eq _ (i64_xor _ _) ?_
  refine eqK_has_eq _ (i64_and _ _) ?_
  refine boolK_has_eq (over_add x y) ?_
  cases hf : fit (x.toInt + y.toInt) with
  | true =>
    rw [hf] at h; simp only [if_true] at h
    refine Has.intro (Has.intro ?_)
    show PV.tup [.int .i64 (x + y).toInt, .bool true] = _
    unfold told
    rw [hf, h]; rfl
  | false =>
    refine Has.intro (Has.intro ?_)
    show PV.tup [.int .i64 0, .bool false] = _
    unfold told
    rw [hf]; rfl
theorem sub_bits (x y : BitVec 64) : EP (EE env) 13 [i64 x, i64 y] = some (told (x.toInt - y.toInt)) := by
  have h := bmod_sub x y
  refine Has.eq (EP_has ?_)
  refine eqK_has_eq _ (u64_of_toInt x) ?_
  refine eqK_has_eq _ (u64_of_toInt y) ?_
  refine eqK_has_eq _ (u64_sub _ _) ?_
  refine eqK_has_eq _ (i64_of_toNat _) ?_
  refine eqK_has_eq _ (i64_xor _ _) ?_
  refine eqK_has_eq _ (i64_xor _ _) ?_
  refine eqK_has_eq _ (i64_and _ _) ?_
  refine boolK_has_eq (over_sub x y) ?_
  cases hf : fit (x.toInt - y.toInt) with
  | true =>
    rw [hf] at h; simp only [if_true] at h
    refine Has.intro (Has.intro ?_)
    show PV.tup [.int .i64 (x - y).toInt, .bool true] = _
    unfold told
    rw [hf, h]; rfl
  | false =>
    refine Has.intro (Has.intro ?_)
    show PV.tup [.int .i64 0, .bool false] = _
    unfold told
    rw [hf]; rfl
theorem add_ok {a b : Int} (ha : fit a = true) (hb : fit b = true) : EP (EE env) 12 [.int .i64 a, .int .i64 b] = some (told (a + b)) := by
  obtain ⟨x, rfl⟩ := i64_bits (fit_true ha).1 (fit_true ha).2
  obtain ⟨y, rfl⟩ := i64_bits (fit_true hb).1 (fit_true hb).2
  exact add_bits x y
theorem sub_ok {a b : Int} (ha : fit a = true) (hb : fit b = true) : EP (EE env) 13 [.int .i64 a, .int .i64 b] = some (told (a - b)) := by
  obtain ⟨x, rfl⟩ := i64_bits (fit_true ha).1 (fit_true ha).2
  obtain ⟨y, rfl⟩ := i64_bits (fit_true hb).1 (fit_true hb).2
  exact sub_bits x y

/-- The least multiple of a unit that isn't below. -/
def upTo (n u : Int) : Int := if n.tmod u = 0 then n else if n.tmod u < 0 then n - n.tmod u else n + (u - n.tmod u)
theorem up_ok {n u : Int} (hn : fit n = true) (hu : fit u = true) : EP (EE env) 17 [.int .i64 n, .int .i64 u] = some (if u < 1 then .tup [.int .i64 0, .bool false] else told (upTo n u)) := by
  have h1 := fit_true hn
  have h2 := fit_true hu
  refine Has.eq (EP_has ?_)
  refine boolK_has (fun h => ?_) (fun h => ?_)
  · rw [if_pos (of_decide_eq_true h)]
    exact Has.intro (Has.intro rfl)
  · have hu1 : 1 ≤ u := by have := of_decide_eq_false h; omega
    rw [if_neg (by omega)]
    refine needK_has (by simp; omega) ?_
    refine eqK_has ?_
    have hm : -u < n.tmod u ∧ n.tmod u < u := ⟨Int.lt_tmod_of_pos n (by omega), Int.tmod_lt_of_pos n (by omega)⟩
    have hsn : (0 ≤ n → 0 ≤ n.tmod u) ∧ (n ≤ 0 → n.tmod u ≤ 0) := ⟨fun h => Int.tmod_nonneg u h, fun h => by
      have := Int.tmod_nonneg (a := -n) u (by omega)
      rw [Int.neg_tmod] at this; omega⟩
    have hdm := Int.mul_tdiv_add_tmod n u
    have hle : 0 ≤ n → n.tmod u ≤ n := fun h => by
      have := Int.mul_nonneg (show 0 ≤ u by omega) (Int.tdiv_nonneg h (show 0 ≤ u by omega))
      generalize u * n.tdiv u = m at *
      omega
    have hge : n ≤ 0 → n ≤ n.tmod u := fun h => by
      have h3 := Int.mul_nonneg (show 0 ≤ u by omega) (Int.tdiv_nonneg (show 0 ≤ -n by omega) (show 0 ≤ u by omega))
      rw [Int.neg_tdiv, Int.mul_neg] at h3
      generalize u * n.tdiv u = m at *
      omega
    refine boolK_has (fun h0 => ?_) (fun h0 => ?_)
    · have h0' : n.tmod u = 0 := by simpa using h0
      refine Has.intro (Has.intro ?_)
      show PV.tup [.int .i64 n, .bool true] = _
      unfold told upTo
      rw [if_pos h0', hn]; rfl
    · have h0' : n.tmod u ≠ 0 := by simpa using h0
      refine boolK_has (fun h3 => ?_) (fun h3 => ?_)
      · have h3' := of_decide_eq_true h3
        refine eqK_has_eq _ (wrap_i64 (by omega) (by omega)) ?_
        refine Has.intro (Has.intro ?_)
        show PV.tup [.int .i64 (n - n.tmod u), .bool true] = _
        have hf : fit (n - n.tmod u) = true := by rw [fit_iff]; omega
        unfold told upTo
        rw [if_neg h0', if_pos h3', hf]; rfl
      · have h3' := of_decide_eq_false h3
        refine eqK_has_eq _ (wrap_i64 (by omega) (by omega)) ?_
        refine callPK_has (add_ok hn (by rw [fit_iff]; omega)) ?_
        refine Has.intro (Has.intro ?_)
        unfold upTo
        rw [if_neg h0', if_neg h3']; rfl
end Go.Proofs.Ytilfmfnngkangaa
