/-
  Part 10 of an abstract machine that answers as the model does.
  Whole numbers of 64 bits, as numbers and as bits.
  Tables of cells.
  Stepping by cases: what a test tells, as a proposition.
  Texts as lists of bytes.
  Short hands for stepping; parts of tables.
  Code, and what comes behind it: a join of several ways.
  Slices that grow: what is known of one, and how it grows.
  Loops beside which the heap grows; parts of code; texts of numbers.
  Objects that are kept while others grow; a row of bytes that grows in an object of one cell.
  Arguments of plain data that are not longer than a bound, by what their readings are of bulk; a law's statement where that bound is its condition.
-/
import Derived.Test.YtgfedlikbaailaaV9
import Derived.Laws.Strings
import Derived.JoinedCond
set_option linter.all false
set_option linter.unusedVariables false
set_option linter.unusedSimpArgs false
set_option linter.unusedSectionVars false
namespace Go.VM
open Go

def i64 (x : BitVec 64) : PV := .int .i64 x.toInt
def u64 (x : BitVec 64) : PV := .int .u64 (x.toNat : Int)

theorem wrap_i64_bmod (n : Int) : IntKind.i64.wrap n = n.bmod (2 ^ 64) := by
  unfold IntKind.wrap
  simp only [IntKind.bits, IntKind.signed, Bool.true_and, Nat.reduceSub, Int.reducePow]
  have e : ((2 ^ 64 : Nat) : Int) = 18446744073709551616 := rfl
  rw [Int.bmod_def, e]
  by_cases h : n % 18446744073709551616 < 9223372036854775808
  · rw [if_neg (by simp; omega), if_pos (by omega)]
  · rw [if_pos (by simp; omega), if_neg (by omega)]
theorem wrap_u64_emod (n : Int) : IntKind.u64.wrap n = n % 18446744073709551616 := by
  unfold IntKind.wrap
  simp only [IntKind.bits, IntKind.signed, Bool.false_and]
  simp
theorem i64_of_toNat (x : BitVec 64) : IntKind.i64.wrap (x.toNat : Int) = x.toInt := by
  rw [wrap_i64_bmod, BitVec.toInt_eq_toNat_bmod]
theorem u64_of_toInt (x : BitVec 64) : IntKind.u64.wrap x.toInt = (x.toNat : Int) := by
  rw [wrap_u64_emod, BitVec.toInt_eq_toNat_cond]
  have := x.isLt
  split <;> omega
theorem ofInt_toInt64 (x : BitVec 64) : BitVec.ofInt 64 x.toInt = x := BitVec.ofInt_toInt
theorem i64_self (x : BitVec 64) : IntKind.i64.wrap x.toInt = x.toInt := by
  rw [wrap_i64_bmod, BitVec.toInt_eq_toNat_bmod]; simp
theorem u64_self (x : BitVec 64) : IntKind.u64.wrap (x.toNat : Int) = (x.toNat : Int) := by
  rw [wrap_u64_emod]
  have := x.isLt
  omega
theorem i64_xor (x y : BitVec 64) : IntKind.i64.wrap ((BitVec.ofInt IntKind.i64.bits x.toInt ^^^ BitVec.ofInt IntKind.i64.bits y.toInt).toNat : Int) = (x ^^^ y).toInt := by
  show IntKind.i64.wrap ((BitVec.ofInt 64 x.toInt ^^^ BitVec.ofInt 64 y.toInt).toNat : Int) = _
  rw [ofInt_toInt64, ofInt_toInt64, i64_of_toNat]
theorem i64_and (x y : BitVec 64) : IntKind.i64.wrap ((BitVec.ofInt IntKind.i64.bits x.toInt &&& BitVec.ofInt IntKind.i64.bits y.toInt).toNat : Int) = (x &&& y).toInt := by
  show IntKind.i64.wrap ((BitVec.ofInt 64 x.toInt &&& BitVec.ofInt 64 y.toInt).toNat : Int) = _
  rw [ofInt_toInt64, ofInt_toInt64, i64_of_toNat]
theorem i64_or (x y : BitVec 64) : IntKind.i64.wrap ((BitVec.ofInt IntKind.i64.bits x.toInt ||| BitVec.ofInt IntKind.i64.bits y.toInt).toNat : Int) = (x ||| y).toInt := by
  show IntKind.i64.wrap ((BitVec.ofInt 64 x.toInt ||| BitVec.ofInt 64 y.toInt).toNat : Int) = _
  rw [ofInt_toInt64, ofInt_toInt64, i64_of_toNat]
theorem ofInt_toNat64 (x : BitVec 64) : BitVec.ofInt 64 (x.toNat : Int) = x := by simp
theorem u64_xor (x y : BitVec 64) : IntKind.u64.wrap ((BitVec.ofInt IntKind.u64.bits (x.toNat : Int) ^^^ BitVec.ofInt IntKind.u64.bits (y.toNat : Int)).toNat : Int) = ((x ^^^ y).toNat : Int) := by
  show IntKind.u64.wrap ((BitVec.ofInt 64 (x.toNat : Int) ^^^ BitVec.ofInt 64 (y.toNat : Int)).toNat : Int) = _
  rw [ofInt_toNat64, ofInt_toNat64, u64_self]
theorem u64_and (x y : BitVec 64) : IntKind.u64.wrap ((BitVec.ofInt IntKind.u64.bits (x.toNat : Int) &&& BitVec.ofInt IntKind.u64.bits (y.toNat : Int)).toNat : Int) = ((x &&& y).toNat : Int) := by
  show IntKind.u64.wrap ((BitVec.ofInt 64 (x.toNat : Int) &&& BitVec.ofInt 64 (y.toNat : Int)).toNat : Int) = _
  rw [ofInt_toNat64, ofInt_toNat64, u64_self]
theorem u64_or (x y : BitVec 64) : IntKind.u64.wrap ((BitVec.ofInt IntKind.u64.bits (x.toNat : Int) ||| BitVec.ofInt IntKind.u64.bits (y.toNat : Int)).toNat : Int) = ((x ||| y).toNat : Int) := by
  show IntKind.u64.wrap ((BitVec.ofInt 64 (x.toNat : Int) ||| BitVec.ofInt 64 (y.toNat : Int)).toNat : Int) = _
  rw [ofInt_toNat64, ofInt_toNat64, u64_self]
theorem u64_add (x y : BitVec 64) : IntKind.u64.wrap ((x.toNat : Int) + (y.toNat : Int)) = ((x + y).toNat : Int) := by
  rw [wrap_u64_emod, BitVec.toNat_add]; omega
theorem u64_sub (x y : BitVec 64) : IntKind.u64.wrap ((x.toNat : Int) - (y.toNat : Int)) = ((x - y).toNat : Int) := by
  rw [wrap_u64_emod, BitVec.toNat_sub]
  have := x.isLt
  have := y.isLt
  omega
theorem u64_neg (x : BitVec 64) : IntKind.u64.wrap (0 - (x.toNat : Int)) = ((-x).toNat : Int) := by
  rw [wrap_u64_emod, BitVec.toNat_neg]
  have := x.isLt
  omega
theorem u64_mul (x y : BitVec 64) : IntKind.u64.wrap ((x.toNat : Int) * (y.toNat : Int)) = ((x * y).toNat : Int) := by
  rw [wrap_u64_emod, BitVec.toNat_mul]
  have : (x.toNat : Int) * (y.toNat : Int) = ((x.toNat * y.toNat : Nat) : Int) := by simp
  rw [this]; omega
theorem i64_neg (x : BitVec 64) : IntKind.i64.wrap (0 - x.toInt) = (-x).toInt := by
  rw [wrap_i64_bmod, BitVec.toInt_neg]; simp
theorem i64_add (x y : BitVec 64) : IntKind.i64.wrap (x.toInt + y.toInt) = (x + y).toInt := by
  rw [wrap_i64_bmod, BitVec.toInt_add]
theorem i64_sub (x y : BitVec 64) : IntKind.i64.wrap (x.toInt - y.toInt) = (x - y).toInt := by
  rw [wrap_i64_bmod, BitVec.toInt_sub]
theorem u64_shl (x : BitVec 64) (n : Nat) (h : n ≤ 64) : IntKind.u64.wrap ((x.toNat : Int) * 2 ^ (min ((n : Int)).toNat IntKind.u64.bits)) = ((x <<< n).toNat : Int) := by
  have e : min ((n : Int)).toNat IntKind.u64.bits = n := by simp [IntKind.bits]; omega
  rw [e, wrap_u64_emod, BitVec.toNat_shiftLeft, Nat.shiftLeft_eq]
  have : (x.toNat : Int) * 2 ^ n = ((x.toNat * 2 ^ n : Nat) : Int) := by simp
  rw [this]; omega
theorem u64_shr (x : BitVec 64) (n : Nat) (h : n ≤ 64) : (x.toNat : Int).fdiv (2 ^ (min ((n : Int)).toNat IntKind.u64.bits)) = ((x >>> n).toNat : Int) := by
  have e : min ((n : Int)).toNat IntKind.u64.bits = n := by simp [IntKind.bits]; omega
  rw [e, BitVec.toNat_ushiftRight, Nat.shiftRight_eq_div_pow, Int.fdiv_eq_ediv_of_nonneg _ (Int.le_of_lt (Int.pow_pos (by decide)))]
  simp
/-- A number of 64 bits, as bits. -/
theorem i64_bits {n : Int} (h : -9223372036854775808 ≤ n) (h' : n ≤ 9223372036854775807) : ∃ x : BitVec 64, n = x.toInt := by
  refine ⟨BitVec.ofInt 64 n, ?_⟩
  rw [BitVec.toInt_ofInt, ← wrap_i64_bmod, wrap_i64 h h']
theorem u64_bits {n : Int} (h : 0 ≤ n) (h' : n ≤ 18446744073709551615) : ∃ x : BitVec 64, n = (x.toNat : Int) := by
  refine ⟨BitVec.ofNat 64 n.toNat, ?_⟩
  rw [BitVec.toNat_ofNat]; omega
theorem toInt_range (x : BitVec 64) : -9223372036854775808 ≤ x.toInt ∧ x.toInt ≤ 9223372036854775807 := by
  have h1 := BitVec.le_toInt x
  have h2 := BitVec.toInt_lt (x := x)
  simp at h1 h2
  omega

/-! ### arguments that are whole numbers -/
theorem arg_i64 {p : PV} (h : HasTy (.int .i64) [p]) : ∃ n : Int, p = .int .i64 n ∧ -9223372036854775808 ≤ n ∧ n ≤ 9223372036854775807 := by
  obtain ⟨n, h1, h2⟩ := h
  injection h1 with h1
  refine ⟨n, h1, ?_⟩
  simp only [Lit.wf, IntKind.min, IntKind.max, IntKind.bits, IntKind.signed, Bool.and_eq_true] at h2
  simp at h2
  omega
theorem arg_u64 {p : PV} (h : HasTy (.int .u64) [p]) : ∃ n : Int, p = .int .u64 n ∧ 0 ≤ n ∧ n ≤ 18446744073709551615 := by
  obtain ⟨n, h1, h2⟩ := h
  injection h1 with h1
  refine ⟨n, h1, ?_⟩
  simp only [Lit.wf, IntKind.min, IntKind.max, IntKind.bits, IntKind.signed, Bool.and_eq_true] at h2
  simp at h2
  omega
end Go.VM

namespace Go.VM
open Go

/-- n cells, each told by its place. -/
def tab (n : Nat) (g : Nat → PV) : List PV := (List.range n).map g
theorem tab_len (n : Nat) (g : Nat → PV) : (tab n g).length = n := by simp [tab]
theorem tab_get {n : Nat} (g : Nat → PV) {i : Nat} (h : i < n) : (tab n g)[i]? = some (g i) := by simp [tab, h]
theorem tab_congr {n : Nat} {f g : Nat → PV} (h : ∀ j, j < n → f j = g j) : tab n f = tab n g := by
  unfold tab
  apply List.map_congr_left
  intro j hj
  exact h j (List.mem_range.1 hj)
theorem tab_set {n : Nat} (g : Nat → PV) (i : Nat) (p : PV) : (tab n g).set i p = tab n (fun j => if j = i then p else g j) := by
  apply List.ext_getElem?
  intro j
  rw [List.getElem?_set]
  rcases Nat.lt_or_ge j n with h | h
  · rw [tab_get _ h]
    by_cases he : i = j
    · subst he; rw [if_pos rfl, if_pos (by rw [tab_len]; exact h), tab_get _ h, if_pos rfl]
    · rw [if_neg he, tab_get _ h, if_neg (fun e => he e.symm)]
  · rw [List.getElem?_eq_none (by rw [tab_len]; exact h)]
    rw [List.getElem?_eq_none (l := tab n _) (by rw [tab_len]; exact h)]
    split
    · split
      · rename_i h1 h2; rw [tab_len] at h2; omega
      · rfl
    · rfl
theorem tab_set_eq {n : Nat} {g g' : Nat → PV} {i : Nat} {p : PV} (h0 : g' i = p) (h : ∀ j, j < n → j ≠ i → g j = g' j) : (tab n g).set i p = tab n g' := by
  rw [tab_set]
  refine tab_congr fun j hj => ?_
  by_cases e : j = i
  · subst e; rw [if_pos rfl, h0]
  · rw [if_neg e, h j hj e]
theorem tab_blt {n i : Nat} (g : Nat → PV) (h : i < n) : Nat.blt i (tab n g).length = true := by rw [tab_len]; exact Nat.ble_eq_true_of_le h
/-- A whole table, read. -/
theorem tab_sec {n : Nat} (g : Nat → PV) : ((tab n g).drop 0).take n = tab n g ∧ 0 + n ≤ (tab n g).length := by
  rw [List.drop_zero, tab_len, Nat.zero_add]
  exact ⟨List.take_of_length_le (by rw [tab_len]; exact Nat.le_refl _), Nat.le_refl _⟩

/-! ### numbers as digits of sixteen bits -/
def sh (a i : Nat) : Nat := a / 65536 ^ i
theorem sh_zero (a : Nat) : sh a 0 = a := by unfold sh; rw [Nat.pow_zero, Nat.div_one]
theorem sh_succ (a i : Nat) : sh a (i + 1) = sh a i / 65536 := by unfold sh; rw [Nat.pow_succ, Nat.div_div_eq_div_mul]
theorem sh_le (a i : Nat) : sh a i ≤ a := Nat.div_le_self _ _
theorem sh_of_lt {a i : Nat} (h : a < 65536 ^ i) : sh a i = 0 := Nat.div_eq_of_lt h
theorem sh_mono {a b : Nat} (h : a ≤ b) (i : Nat) : sh a i ≤ sh b i := Nat.div_le_div_right h
theorem sh_zero_up {a i : Nat} (h : sh a i = 0) : ∀ k, sh a (i + k) = 0 := by
  intro k
  induction k with
  | zero => exact h
  | succ k ih => rw [← Nat.add_assoc, sh_succ, ih]
/-- A digit. -/
def dgt (a i : Nat) : Nat := sh a i % 65536
theorem dgt_lt (a i : Nat) : dgt a i < 65536 := Nat.mod_lt _ (by decide)
def dpv (f : Nat → Nat) : Nat → PV := fun j => .int .u64 ((f j : Nat) : Int)
/-- A number's twenty digits. -/
def dc (a : Nat) : List PV := tab 20 (dpv (dgt a))
theorem dc_len (a : Nat) : (dc a).length = 20 := tab_len _ _
theorem u64_nat {n : Nat} (h : n < 18446744073709551616) : IntKind.u64.wrap (n : Int) = (n : Int) := by rw [wrap_u64_emod]; omega
end Go.VM

namespace Go.VM
open Go

section
variable {R : Type} {Q : R → Prop}
theorem boolK_dec {p : Prop} [Decidable p] {F : Bool → Option R} (ht : p → Has (F true) Q) (hf : ¬ p → Has (F false) Q) : Has (boolK (decide p) F) Q :=
  boolK_has (fun h => ht (of_decide_eq_true h)) (fun h => hf (of_decide_eq_false h))
theorem boolK_dec_t {p : Prop} [Decidable p] {F : Bool → Option R} (h : p) (ht : Has (F true) Q) : Has (boolK (decide p) F) Q := boolK_has_true (decide_eq_true h) ht
theorem boolK_dec_f {p : Prop} [Decidable p] {F : Bool → Option R} (h : ¬ p) (hf : Has (F false) Q) : Has (boolK (decide p) F) Q := boolK_has_false (decide_eq_false h) hf
theorem boolK_beq {a b : Int} {F : Bool → Option R} (ht : a = b → Has (F true) Q) (hf : a ≠ b → Has (F false) Q) : Has (boolK (a == b) F) Q :=
  boolK_has (fun h => ht (by simpa using h)) (fun h => hf (by simpa using h))
theorem boolK_beq_t {a b : Int} {F : Bool → Option R} (h : a = b) (ht : Has (F true) Q) : Has (boolK (a == b) F) Q := boolK_has_true (by simpa using h) ht
theorem boolK_beq_f {a b : Int} {F : Bool → Option R} (h : a ≠ b) (hf : Has (F false) Q) : Has (boolK (a == b) F) Q := boolK_has_false (by simpa using h) hf
theorem boolK_bne {a b : Int} {F : Bool → Option R} (ht : a ≠ b → Has (F true) Q) (hf : a = b → Has (F false) Q) : Has (boolK (a != b) F) Q :=
  boolK_has (fun h => ht (by simpa using h)) (fun h => hf (by simpa using h))
theorem boolK_bne_t {a b : Int} {F : Bool → Option R} (h : a ≠ b) (ht : Has (F true) Q) : Has (boolK (a != b) F) Q := boolK_has_true (by simpa using h) ht
theorem boolK_bne_f {a b : Int} {F : Bool → Option R} (h : a = b) (hf : Has (F false) Q) : Has (boolK (a != b) F) Q := boolK_has_false (by simpa using h) hf
/-- A call that answers whether something is so. -/
theorem callPK_dec {E : Orc} {f : FuncId} {ps : List PV} {F : PV → Option R} {p : Prop} [Decidable p] (e : EP E f ps = some (.bool (decide p))) (ht : p → Has (F (.bool true)) Q) (hf : ¬ p → Has (F (.bool false)) Q) : Has (callPK E f ps F) Q := by
  by_cases h : p
  · exact callPK_has (e.trans (by rw [decide_eq_true h])) (ht h)
  · exact callPK_has (e.trans (by rw [decide_eq_false h])) (hf h)
theorem callPK_dec_t {E : Orc} {f : FuncId} {ps : List PV} {F : PV → Option R} {p : Prop} [Decidable p] (e : EP E f ps = some (.bool (decide p))) (h : p) (ht : Has (F (.bool true)) Q) : Has (callPK E f ps F) Q :=
  callPK_has (e.trans (by rw [decide_eq_true h])) ht
theorem callPK_dec_f {E : Orc} {f : FuncId} {ps : List PV} {F : PV → Option R} {p : Prop} [Decidable p] (e : EP E f ps = some (.bool (decide p))) (h : ¬ p) (hf : Has (F (.bool false)) Q) : Has (callPK E f ps F) Q :=
  callPK_has (e.trans (by rw [decide_eq_false h])) hf
theorem yes {p : Prop} [Decidable p] (h : p) : PV.bool true = PV.bool (decide p) := by rw [decide_eq_true h]
theorem no {p : Prop} [Decidable p] (h : ¬ p) : PV.bool false = PV.bool (decide p) := by rw [decide_eq_false h]
/-- A law's end. -/
theorem law_end {env : Env} {f : FuncId} {ps : List PV} (h : Has (EE env (.fn f) (ps.map .pv) []) (fun x => x.1 = .pv (.bool true))) : ∃ H', EE env (.fn f) (ps.map .pv) [] = some (.pv (.bool true), H') := by
  obtain ⟨⟨v, H'⟩, g1, g2⟩ := h
  exact ⟨H', by rw [g1]; simp only at g2; rw [g2]⟩
theorem list1 {α : Type} {l : List α} (h : l.length = 1) : ∃ a, l = [a] := by
  match l, h with
  | [a], _ => exact ⟨a, rfl⟩
end
end Go.VM

namespace Go.VM
open Go

/-- A text. -/
def sv (l : List UInt8) : PV := .str ⟨l.toArray⟩
theorem sv_size (l : List UInt8) : (⟨l.toArray⟩ : ByteArray).size = l.length := by simp [ByteArray.size]
theorem sv_app (a b : List UInt8) : (⟨a.toArray⟩ : ByteArray) ++ ⟨b.toArray⟩ = ⟨(a ++ b).toArray⟩ := by
  apply ByteArray.ext
  simp [ByteArray.data_append]
theorem sv_list (l : List UInt8) : (⟨l.toArray⟩ : ByteArray).toList = l := by rw [ByteArray.toList_eq]
theorem sv_inj {a b : List UInt8} : sv a = sv b ↔ a = b := by
  constructor
  · intro h
    injection h with h
    injection h with h
    simpa using h
  · intro h; rw [h]
theorem sv_extract (l : List UInt8) (i j : Nat) : (⟨l.toArray⟩ : ByteArray).extract i j = ⟨((l.take j).drop i).toArray⟩ := by
  apply ByteArray.ext
  rw [ByteArray.data_extract]
  apply Array.ext'
  simp [List.drop_take]
section
variable {R : Type} {Q : R → Prop}
theorem boolK_seq {a b : List UInt8} {F : Bool → Option R} (ht : a = b → Has (F true) Q) (hf : a ≠ b → Has (F false) Q) : Has (boolK ((⟨a.toArray⟩ : ByteArray).toList == (⟨b.toArray⟩ : ByteArray).toList) F) Q := by
  rw [sv_list, sv_list]
  exact boolK_has (fun h => ht (by simpa using h)) (fun h => hf (by simpa using h))
theorem boolK_sne {a b : List UInt8} {F : Bool → Option R} (ht : a ≠ b → Has (F true) Q) (hf : a = b → Has (F false) Q) : Has (boolK (!((⟨a.toArray⟩ : ByteArray).toList == (⟨b.toArray⟩ : ByteArray).toList)) F) Q := by
  rw [sv_list, sv_list]
  exact boolK_has (fun h => ht (by simpa using h)) (fun h => hf (by simpa using h))
end
/-- A text that is an argument. -/
theorem arg_str {p : PV} (h : HasTy .str [p]) : ∃ l : List UInt8, p = sv l ∧ l.length ≤ maxLen := by
  obtain ⟨s, h1, h2⟩ := h
  injection h1 with h1
  refine ⟨s.data.toList, by rw [h1]; rfl, ?_⟩
  have : s.data.toList.length = s.size := Array.length_toList
  omega
theorem bc_str (l : List UInt8) : strOfCells (bc l) = some l := by
  induction l with
  | nil => rfl
  | cons b bs ih =>
    show (strOfCells (bc bs)).map _ = _
    rw [ih]
    simp
end Go.VM

namespace Go.VM
open Go

/-- A part of a table. -/
theorem tab_part {n : Nat} (g : Nat → PV) {i m : Nat} (h : i + m ≤ n) : ((tab n g).drop i).take m = tab m (fun j => g (i + j)) ∧ i + m ≤ (tab n g).length := by
  refine ⟨?_, by rw [tab_len]; exact h⟩
  apply List.ext_getElem?
  intro j
  rw [List.getElem?_take]
  by_cases hj : j < m
  · rw [if_pos hj, List.getElem?_drop, tab_get _ (by omega), tab_get _ hj]
  · rw [if_neg hj, List.getElem?_eq_none (by rw [tab_len]; omega)]
theorem tab_part_len {n : Nat} (g : Nat → PV) (m : Nat) (h : m = n) : m ≤ (tab n g).length := by rw [tab_len]; omega
end Go.VM

namespace Go.VM
open Go

section
variable {R S : Type}
theorem forceK_bind (v : AV) (G : AV → Option R) (F : R → Option S) : (forceK v G).bind F = forceK v fun v => (G v).bind F := by rw [forceK_def, forceK_def]
theorem putK_bind (r : Regs) (d : Option Nat) (v : AV) (G : Regs → Option R) (F : R → Option S) : (putK r d v G).bind F = putK r d v fun v => (G v).bind F := by rw [putK_def, putK_def]
theorem evOps_bind (env : Env) (E : Orc) (F : R → Option S) (l : List VOper) : ∀ (r : Regs) (h : Heap) (k : Regs → Heap → Option R), (evOps env E l r h k).bind F = evOps env E l r h fun r h => (k r h).bind F := by
  induction l with
  | nil => intro r h k; rfl
  | cons o l ih =>
    intro r h k
    rw [evOps_cons, evOps_cons, cond_bind, operK_bind]
    simp only [forceK_bind, putK_bind, ih]
theorem evDraw_bind (env : Env) (E : Orc) (pairs : List (Nat × Nat)) (F : R → Option S) (l : List VOper) : ∀ (i : Nat) (r : Regs) (h : Heap) (ls : List (Nat × AV × Option Nat)) (es : List (Nat × Heap × Heap))
    (k : Regs → Heap → List (Nat × AV × Option Nat) → List (Nat × Heap × Heap) → Option R), (evDraw env E pairs l i r h ls es k).bind F = evDraw env E pairs l i r h ls es fun r h ls es => (k r h ls es).bind F := by
  induction l with
  | nil => intro i r h ls es k; rfl
  | cons o l ih =>
    intro i r h ls es k
    rw [evDraw_cons, evDraw_cons, cond_bind, operK_bind]
    simp only [forceK_bind, putK_bind, ih]
theorem conts_bind (env : Env) (E : Orc) (F : R → Option S) (al : List (Nat × AlS)) : ∀ (r : Regs) (h : Heap) (k : List (Nat × HSh × List PV) → List (Nat × PV) → Option R), (conts env E al r h k).bind F = conts env E al r h fun a zs => (k a zs).bind F := by
  induction al with
  | nil => intro r h k; rfl
  | cons x al ih =>
    intro r h k
    obtain ⟨t, s⟩ := x
    cases s with
    | z z => simp only [conts]; rw [ih]
    | m i pre es z v =>
      simp only [conts]
      rw [evOps_bind]
      congr 1
      funext r' h'
      split
      · rename_i kd n _
        simp only [needK_def, eqK_def]
        cases (decide (0 ≤ n) && decide (n ≤ 1099511627776))
        · rfl
        · simp only [cond_true]; rw [ih]
      · rfl
    | x i pre v =>
      simp only [conts]
      rw [evOps_bind]
      congr 1
      funext r' h'
      split
      · split
        · rw [ih]
        · rfl
      · rfl
theorem hoist_bind (F : R → Option S) (al : List (Nat × HSh × List PV)) : ∀ (r : Regs) (h : Heap) (k : Regs → Heap → Option R), (hoist al r h k).bind F = hoist al r h fun r h => (k r h).bind F := by
  induction al with
  | nil => intro r h k; rfl
  | cons a al ih => intro r h k; exact ih _ _ _
theorem sameK_bind (a b : Option AV) (x : Option R) (F : R → Option S) : (sameK a b x).bind F = sameK a b (x.bind F) := by
  simp only [sameK_def]; split <;> rfl
theorem checkBox_bind (ls : List (Nat × AV × Option Nat)) (F : R → Option S) (l : List (Nat × PV)) : ∀ (x : Option R), (checkBox ls l x).bind F = checkBox ls l (x.bind F) := by
  induction l with
  | nil => intro x; rfl
  | cons a l ih =>
    intro x
    obtain ⟨i, p⟩ := a
    simp only [checkBox]
    split
    · rw [sameK_bind, ih]
    · rfl
theorem checkPairs_bind (ls : List (Nat × AV × Option Nat)) (es : List (Nat × Heap × Heap)) (F : R → Option S) (pairs : List (Nat × Nat)) : ∀ (x : Option R), (checkPairs ls es pairs x).bind F = checkPairs ls es pairs (x.bind F) := by
  induction pairs with
  | nil => intro x; rfl
  | cons p pairs ih =>
    intro x
    obtain ⟨i, j⟩ := p
    unfold checkPairs
    split
    · split
      · rw [sameK_bind, ih]
      · exact ih x
      · rw [sameK_bind, ih]
      · rfl
    · exact ih x
theorem loopK_bind (b : Regs → Heap → Option Res) (r : Regs) (h : Heap) (G : Ex → Regs → Heap → Option R) (F : R → Option S) : (loopK b r h G).bind F = loopK b r h fun e r h => (G e r h).bind F := by
  rw [loopK_def, loopK_def, Option.bind_assoc]
theorem callSK_bind' (E : Orc) (t : Tgt) (args : List AV) (h : Heap) (G : AV → Heap → Option R) (F : R → Option S) : (callSK E t args h G).bind F = callSK E t args h fun v h => (G v h).bind F := by
  rw [callSK_def, callSK_def, Option.bind_assoc]
theorem rangeK_bind (E : Orc) (f : AV) (ps : List Nat) (asg bo : VCode) (r : Regs) (h : Heap) (k : Ex → Regs → Heap → Option R) (F : R → Option S) : (rangeK E f ps asg bo r h k).bind F = rangeK E f ps asg bo r h fun e r h => (k e r h).bind F := by
  unfold rangeK
  simp only
  split
  · rw [callSK_bind']
    congr 1; funext v h2
    rw [hgetK_bind]
    congr 1; funext o
    split
    · split <;> rfl
    · rfl
  · rw [callSK_bind']
    congr 1; funext v h2
    rw [hgetK_bind]
    congr 1; funext o
    split
    · split <;> rfl
    · rfl
  · rfl
theorem evK_bind (env : Env) (E : Orc) (c : VCode) : ∀ {R S : Type} (F : R → Option S) (r : Regs) (h : Heap) (k : Ex → Regs → Heap → Option R), (evK env E c R r h k).bind F = evK env E c S r h fun e r h => (k e r h).bind F := by
  induction c with
  | skip => intro R S F r h k; rfl
  | ops l => intro R S F r h k; exact evOps_bind env E F l r h _
  | draw al l pairs =>
    intro R S F r h k
    rw [evK_draw, evK_draw, conts_bind]
    simp only [hoist_bind, evDraw_bind, checkPairs_bind, checkBox_bind]
  | seq a b ia ib =>
    intro R S F r h k
    rw [evK_seq, evK_seq, ia]
    congr 1; funext e r h
    cases e with
    | normal => exact ib F r h k
    | exit id => rfl
    | ret => rfl
  | cond c a b ia ib =>
    intro R S F r h k
    rw [evK_cond, evK_cond]
    split
    · rw [cond_bind, ia, ib]
    · rfl
  | block id c ia =>
    intro R S F r h k
    rw [evK_block, evK_block, ia]
    congr 1; funext e r h
    cases e with
    | normal => rfl
    | exit id' => exact cond_bind _ _ _ _
    | ret => rfl
  | loop c ia => intro R S F r h k; rw [evK_loop, evK_loop]; exact loopK_bind _ _ _ _ _
  | rangeFunc f ps asg bo i1 i2 => intro R S F r h k; exact rangeK_bind _ _ _ _ _ _ _ _ _
  | exit id => intro R S F r h k; rfl
  | ret => intro R S F r h k; rfl
  | drawN l deps => intro R S F r h k; rw [evK_drawN, evK_drawN, Option.bind_assoc]
end

section
variable {R : Type} {Q : R → Prop} {env : Env} {E : Orc}
/-- Code by itself, and then what comes behind it. -/
theorem evK_split {c : VCode} {r : Regs} {h : Heap} {k : Ex → Regs → Heap → Option R} (hx : Has (evK env E c Res r h doneK) fun x => Has (k x.1 x.2.1 x.2.2) Q) : Has (evK env E c R r h k) Q := by
  obtain ⟨x, h1, y, h2, h3⟩ := hx
  refine ⟨y, ?_, h3⟩
  have := evK_bind env E c (fun x : Res => k x.1 x.2.1 x.2.2) r h doneK
  rw [h1] at this
  exact this.symm.trans h2
/-- A part of a sequence, whose ways join. -/
theorem seq_join {a b : VCode} {r : Regs} {h : Heap} {k : Ex → Regs → Heap → Option R} (J : Ex → Regs → Heap → Prop)
    (ha : Has (evK env E a Res r h doneK) fun x => J x.1 x.2.1 x.2.2) (hb : ∀ e r h, J e r h → Has (seqK (evK env E b R) k e r h) Q) : Has (evK env E (.seq a b) R r h k) Q :=
  evK_split (c := a) (k := seqK (evK env E b R) k) (ha.mono fun x hx => hb _ _ _ hx)
/-- The same, where all ways go on with the same registers (of those that matter) and heap. -/
theorem seq_on {a b : VCode} {r : Regs} {h : Heap} {k : Ex → Regs → Heap → Option R} (L : List (Nat × AV)) (H : Heap)
    (ha : Has (evK env E a Res r h doneK) fun x => x.1 = .normal ∧ Agr x.2.1 L ∧ x.2.2 = H) (hb : ∀ r, Has (evK env E b R (setL r L) H k) Q) : Has (evK env E (.seq a b) R r h k) Q := by
  refine seq_join (fun e r h => e = .normal ∧ Agr r L ∧ h = H) ha fun e r h hj => ?_
  obtain ⟨rfl, h2, rfl⟩ := hj
  have := hb r
  rw [h2.eq] at this
  exact this
/-- The same, where a state tells them. -/
theorem seq_st {σ : Type} {a b : VCode} {r : Regs} {h : Heap} {k : Ex → Regs → Heap → Option R} (L : σ → List (Nat × AV)) (Hp : σ → Heap) (Ok : σ → Prop)
    (ha : Has (evK env E a Res r h doneK) fun x => x.1 = .normal ∧ ∃ s, Ok s ∧ Agr x.2.1 (L s) ∧ x.2.2 = Hp s) (hb : ∀ s, Ok s → ∀ r, Has (evK env E b R (setL r (L s)) (Hp s) k) Q) : Has (evK env E (.seq a b) R r h k) Q := by
  refine seq_join (fun e r h => e = .normal ∧ ∃ s, Ok s ∧ Agr r (L s) ∧ h = Hp s) ha fun e r h hj => ?_
  obtain ⟨rfl, s, ho, h2, rfl⟩ := hj
  have := hb s ho r
  rw [h2.eq] at this
  exact this
/-- One step of a sequence, which stays as it stands. -/
theorem seq_one {a b : VCode} {r : Regs} {h : Heap} {k : Ex → Regs → Heap → Option R} (ha : Has (evK env E a R r h (seqK (evK env E b R) k)) Q) : Has (evK env E (.seq a b) R r h k) Q := ha
end

/-- What comes of a function's end. -/
noncomputable def endK {R : Type} (res : List VResult) (F : AV → Heap → Option R) (e : Ex) (r : Regs) (h : Heap) : Option R :=
  match e with
  | .exit _ => none
  | _ => finishK res r h [] fun v => F v h
theorem fn_has {R : Type} {Q : R → Prop} {env : Env} {E : Orc} {f : FuncId} {vf : VFunc} {args : List AV} {h : Heap} {F : AV → Heap → Option R} (hf : env.ft f = some vf)
    (hx : Has (evK env E vf.code R (initRegs args) h (endK vf.results F)) Q) : Has (evTgtK env E (.fn f) args h F) Q := by
  simp only [evTgtK, hf]
  exact hx
end Go.VM

namespace Go.VM
open Go

/-- A slice that may grow: none yet (e: as it was made), or the latest of its row. -/
def AppV (H : Heap) (v : AV) (e : Ext) (es n : Nat) (cs : List PV) : Prop :=
  (n = 0 ∧ cs = [] ∧ v = .pv (.sl e 0 []) ∧ e.noApp = false) ∨ (n ≠ 0 ∧ cs.length = n * es ∧ ∃ t, v = .tsl t n cs ∧ hget H t = .tok n es)
/-- What it is for others. -/
def psl (e : Ext) (n : Nat) (cs : List PV) : PV := .sl (match n with | 0 => e | _ => .nn) n cs
def tokOf : AV → Option Nat
  | .tsl t _ _ => some t
  | _ => none
/-- All but that slice's token stays. -/
def Fr (v : AV) (H H' : Heap) : Prop := H.length ≤ H'.length ∧ ∀ i, i < H.length → tokOf v ≠ some i → hget H' i = hget H i

theorem hget_lt {H : Heap} {i : Nat} {o : HObj} (h : hget H i = o) (ho : o ≠ .dead) : i < H.length := by
  induction H generalizing i with
  | nil => cases h; exact absurd rfl ho
  | cons a H ih => cases i with
    | zero => exact Nat.succ_pos _
    | succ i => exact Nat.succ_lt_succ (ih h)
theorem AppV.len {H : Heap} {v : AV} {e : Ext} {es n : Nat} {cs : List PV} (h : AppV H v e es n cs) : cs.length = n * es := by
  rcases h with ⟨rfl, rfl, _⟩ | ⟨_, h, _⟩
  · simp
  · exact h
theorem AppV.new {H : Heap} {e : Ext} {es : Nat} (he : e.noApp = false) : AppV H (.pv (.sl e 0 [])) e es 0 [] := .inl ⟨rfl, rfl, rfl, he⟩
theorem AppV.out {H : Heap} {v : AV} {e : Ext} {es n : Nat} {cs : List PV} (h : AppV H v e es n cs) : out1 H v = some (psl e n cs) := by
  rcases h with ⟨rfl, rfl, rfl, _⟩ | ⟨hn, _, t, rfl, _⟩
  · rfl
  · cases n with
    | zero => exact absurd rfl hn
    | succ n => rfl
theorem AppV.keep {H H' : Heap} {v v2 : AV} {e : Ext} {es n : Nat} {cs : List PV} (h : AppV H v2 e es n cs) (hf : Fr v H H') (hne : tokOf v2 = none ∨ tokOf v2 ≠ tokOf v) : AppV H' v2 e es n cs := by
  rcases h with h | ⟨hn, hl, t, rfl, ht⟩
  · exact .inl h
  · refine .inr ⟨hn, hl, t, rfl, ?_⟩
    rw [hf.2 t (hget_lt ht (by intro h; cases h)) (fun hh => by
      rcases hne with h | h
      · cases h
      · exact h hh.symm)]
    exact ht
/-- What isn't a token stays. -/
theorem Fr.obj {H H' : Heap} {v : AV} {e : Ext} {es n : Nat} {cs : List PV} (hv : AppV H v e es n cs) (hf : Fr v H H') {i : Nat} {o : HObj} (h : hget H i = o) (h1 : o ≠ .dead) (h2 : ∀ n es, o ≠ .tok n es) : hget H' i = o := by
  rw [hf.2 i (hget_lt h h1) (fun hh => ?_), h]
  rcases hv with ⟨_, _, rfl, _⟩ | ⟨_, _, t, rfl, ht⟩
  · cases hh
  · injection hh with hh
    subst hh
    rw [h] at ht
    exact h2 _ _ ht
theorem hget_app {H : Heap} {i : Nat} (L : Heap) (h : i < H.length) : hget (H ++ L) i = hget H i := by
  induction H generalizing i with
  | nil => cases h
  | cons a H ih => cases i with
    | zero => rfl
    | succ i => exact ih (Nat.lt_of_succ_lt_succ h)
theorem hget_hset_ne (H : Heap) {i j : Nat} (o : HObj) (h : j ≠ i) : hget (hset H i o) j = hget H j := by
  induction H generalizing i j with
  | nil => rfl
  | cons a H ih => cases i with
    | zero => cases j with
      | zero => exact absurd rfl h
      | succ j => rfl
    | succ i => cases j with
      | zero => rfl
      | succ j => exact ih (fun e => h (by rw [e]))
theorem hset_len (H : Heap) (i : Nat) (o : HObj) : (hset H i o).length = H.length := by
  induction H generalizing i with
  | nil => rfl
  | cons a H ih => cases i with
    | zero => rfl
    | succ i => show (hset H i o).length + 1 = _; rw [ih]; rfl

section
variable {R : Type} {Q : R → Prop} {F : AV → Heap → Option R}
theorem beq_ne {a b : Nat} (h : a ≠ b) : Nat.beq a b = false := by
  cases hb : Nat.beq a b with
  | false => rfl
  | true => exact absurd (Nat.eq_of_beq_eq_true hb) h
theorem srcK_plain (H : Heap) (e : Ext) (m : Nat) (new : List PV) (G : List PV → Option R) : srcK H (.pv (.sl e m new)) G = G new := rfl

/-- A slice grows by some cells. -/
theorem app_cells {H : Heap} {s x : AV} {e : Ext} {es bytes n m : Nat} {cs new : List PV} (hs : AppV H s e es n cs) (hx : srcLen x = some m) (hsrc : ∀ G : List PV → Option R, srcK H x G = G new) (hl : new.length = m * es)
    (hb : (n + m) * bytes ≤ mostBytes) (k : ∀ v' H', AppV H' v' e es (n + m) (cs ++ new) → Fr s H H' → (tokOf v' = tokOf s ∨ tokOf v' = some H.length) → Has (F v' H') Q) :
    Has (appS false es bytes s x H F) Q := by
  rw [appS_def]
  unfold appendK
  simp only [hx, hsrc]
  rcases hs with ⟨rfl, rfl, rfl, he⟩ | ⟨hn, hcl, t, rfl, ht⟩
  · have main : Has (boolK (Nat.beq m 0) fun z => bif z then F (.pv (.sl e 0 [])) H else
        needK (Nat.ble ((0 + m) * bytes) mostBytes && Nat.beq ([] : List PV).length (mulE 0 es) && Nat.beq new.length (mulE m es)) (eqK ([] ++ new) fun cs => eqK (0 + m) fun k => bif false then F (.hs es H.length 0 k k) (H ++ [.pcells cs]) else F (.tsl H.length k cs) (H ++ [.tok k es]))) Q := by
      by_cases hm : m = 0
      · subst hm
        have : new = [] := List.eq_nil_of_length_eq_zero (by omega)
        subst this
        refine boolK_has_true rfl ?_
        exact k _ _ (.inl ⟨rfl, rfl, rfl, he⟩) ⟨Nat.le_refl _, fun _ _ _ => rfl⟩ (.inl rfl)
      · refine boolK_has_false (beq_ne hm) ?_
        refine needK_has ?_ ?_
        · simp only [Bool.and_eq_true]
          refine ⟨⟨Nat.ble_eq_true_of_le hb, ?_⟩, ?_⟩
          · rw [mulE_eq]; simp
          · rw [mulE_eq, hl]; exact Nat.beq_refl _
        · refine eqK_has ?_
          refine eqK_has ?_
          refine k _ _ (.inr ⟨by omega, by rw [List.nil_append, hl, Nat.zero_add], _, rfl, hget_append_same _ _⟩) ⟨by simp, fun i hi _ => hget_app _ hi⟩ (.inr rfl)
    show Has (bif e.noApp then _ else _) Q
    rw [he]
    exact main
  · refine hgetK_has _ ht ?_
    dsimp only
    refine needK_has (by rw [Nat.beq_refl, Nat.beq_refl]; rfl) ?_
    refine needK_has ?_ ?_
    · simp only [Bool.and_eq_true]
      refine ⟨⟨Nat.ble_eq_true_of_le hb, ?_⟩, ?_⟩
      · rw [mulE_eq, hcl]; exact Nat.beq_refl _
      · rw [mulE_eq, hl]; exact Nat.beq_refl _
    · refine eqK_has ?_
      refine eqK_has ?_
      have htl := hget_lt ht (by intro h; cases h)
      refine k _ _ (.inr ⟨by omega, by rw [List.length_append, hcl, hl, Nat.add_mul], _, rfl, hget_hset_same _ htl⟩) ⟨by rw [hset_len]; exact Nat.le_refl _, fun i _ hne => ?_⟩ (.inl rfl)
      exact hget_hset_ne _ _ (fun e => hne (by rw [e]; rfl))
theorem app_has {H : Heap} {s : AV} {e e' : Ext} {es bytes n m : Nat} {cs new : List PV} (hs : AppV H s e es n cs) (hl : new.length = m * es)
    (hb : (n + m) * bytes ≤ mostBytes) (k : ∀ v' H', AppV H' v' e es (n + m) (cs ++ new) → Fr s H H' → (tokOf v' = tokOf s ∨ tokOf v' = some H.length) → Has (F v' H') Q) :
    Has (appS false es bytes s (.pv (.sl e' m new)) H F) Q := app_cells hs rfl (fun _ => rfl) hl hb k
theorem app_str {H : Heap} {s : AV} {e : Ext} {bytes n : Nat} {cs : List PV} {b : ByteArray} (hs : AppV H s e 1 n cs)
    (hb : (n + b.size) * bytes ≤ mostBytes) (hl : (bytesCells b).length = b.size) (k : ∀ v' H', AppV H' v' e 1 (n + b.size) (cs ++ bytesCells b) → Fr s H H' → (tokOf v' = tokOf s ∨ tokOf v' = some H.length) → Has (F v' H') Q) :
    Has (appS false 1 bytes s (.pv (.str b)) H F) Q := app_cells hs rfl (fun _ => rfl) (by rw [hl, Nat.mul_one]) hb k
/-- The same by an append to what was just made. -/
theorem app_plain {H : Heap} {e e' : Ext} {mu : Bool} {es bytes n m : Nat} {cs new : List PV} (he : e.noApp = false) (hc : cs.length = n * es) (hl : new.length = m * es) (hm : m ≠ 0)
    (hb : (n + m) * bytes ≤ mostBytes) (k : Has (bif mu then F (.hs es H.length 0 (n + m) (n + m)) (H ++ [.pcells (cs ++ new)]) else F (.tsl H.length (n + m) (cs ++ new)) (H ++ [.tok (n + m) es])) Q) :
    Has (appS mu es bytes (.pv (.sl e n cs)) (.pv (.sl e' m new)) H F) Q := by
  rw [appS_def]
  have main : Has (boolK (Nat.beq m 0) fun z => bif z then F (.pv (.sl e n cs)) H else
        needK (Nat.ble ((n + m) * bytes) mostBytes && Nat.beq cs.length (mulE n es) && Nat.beq new.length (mulE m es)) (eqK (cs ++ new) fun cs => eqK (n + m) fun k => bif mu then F (.hs es H.length 0 k k) (H ++ [.pcells cs]) else F (.tsl H.length k cs) (H ++ [.tok k es]))) Q := by
    refine boolK_has_false (beq_ne hm) ?_
    refine needK_has ?_ ?_
    · simp only [Bool.and_eq_true]
      refine ⟨⟨Nat.ble_eq_true_of_le hb, ?_⟩, ?_⟩
      · rw [mulE_eq, hc]; exact Nat.beq_refl _
      · rw [mulE_eq, hl]; exact Nat.beq_refl _
    · refine eqK_has ?_
      refine eqK_has ?_
      exact k
  show Has (bif e.noApp then _ else _) Q
  rw [he]
  exact main
/-- Nothing comes behind it. -/
theorem app_none {H : Heap} {e e' : Ext} {mu : Bool} {es bytes n : Nat} {cs : List PV} (k : Has (F (.pv (.sl e n cs)) H) Q) : Has (appS mu es bytes (.pv (.sl e n cs)) (.pv (.sl e' 0 [])) H F) Q := by
  rw [appS_def]
  show Has (bif e.noApp then _ else _) Q
  cases e.noApp
  all_goals exact boolK_has_true rfl k
end
end Go.VM

namespace Go.VM
open Go

section
variable {R : Type} {Q : R → Prop}
theorem hgetK_last {L : Heap} {o : HObj} {F : HObj → Option R} (h : Has (F o) Q) : Has (hgetK (L ++ [o]) L.length F) Q := hgetK_has _ (hget_append_same L o) h
theorem hset_last (L : Heap) (o o' : HObj) : hset (L ++ [o]) L.length o' = L ++ [o'] := by
  induction L with
  | nil => rfl
  | cons a L ih => show a :: hset (L ++ [o]) L.length o' = _; rw [ih]; rfl
theorem hgetK_set {L : Heap} {o o' : HObj} {F : HObj → Option R} (h : Has (F o') Q) : Has (hgetK (hset (L ++ [o]) L.length o') L.length F) Q := by
  rw [hset_last]; exact hgetK_last h
end

/-- A loop that counts up to n, beside which the heap grows. -/
theorem iterE_upJ {b : Regs → Heap → Option Res} {Q : Res → Prop} (n : Nat) (L : Nat → List (Nat × AV)) (Hp : Nat → Heap)
    (step : ∀ i, i < n → ∀ r J, Has (b (setL r (L i)) (Hp i ++ J)) fun x => match x.1 with | .normal => Agr x.2.1 (L (i + 1)) ∧ ∃ J', x.2.2 = Hp (i + 1) ++ J' | _ => Q x)
    (last : ∀ r J, Has (b (setL r (L n)) (Hp n ++ J)) fun x => match x.1 with | .normal => False | _ => Q x)
    {r : Regs} {h : Heap} (J : Heap) (ha : Agr r (L 0)) (hh : h = Hp 0 ++ J) : Has (iterE b r h) Q := by
  refine iterE_loop (σ := Nat × Heap) (fun s => n - s.1) (fun s => L s.1) (fun s => Hp s.1 ++ s.2) (fun s => s.1 ≤ n) (fun ⟨i, J⟩ hi r => ?_) (0, J) (Nat.zero_le _) ha hh
  dsimp only at hi ⊢
  rcases Nat.lt_or_ge i n with h1 | h1
  · refine (step i h1 r J).mono fun x hx => ?_
    obtain ⟨e, r', h'⟩ := x
    cases e with
    | normal => obtain ⟨h2, J', h3⟩ := hx; exact ⟨(i + 1, J'), h1, by dsimp only; omega, h2, h3⟩
    | exit id => exact hx
    | ret => exact hx
  · have : i = n := by omega
    subst this
    refine (last r J).mono fun x hx => ?_
    obtain ⟨e, r', h'⟩ := x
    cases e with
    | normal => exact hx.elim
    | exit id => exact hx
    | ret => exact hx
/-- The same with a state. -/
theorem iterE_loopJ {σ : Type} {b : Regs → Heap → Option Res} {Q : Res → Prop} (m : σ → Nat) (L : σ → List (Nat × AV)) (Hp : σ → Heap) (Ok : σ → Prop)
    (step : ∀ s, Ok s → ∀ r J, Has (b (setL r (L s)) (Hp s ++ J)) fun x => match x.1 with | .normal => ∃ s', Ok s' ∧ m s' < m s ∧ Agr x.2.1 (L s') ∧ ∃ J', x.2.2 = Hp s' ++ J' | _ => Q x)
    (s : σ) (hs : Ok s) {r : Regs} {h : Heap} (J : Heap) (ha : Agr r (L s)) (hh : h = Hp s ++ J) : Has (iterE b r h) Q := by
  refine iterE_loop (σ := σ × Heap) (fun s => m s.1) (fun s => L s.1) (fun s => Hp s.1 ++ s.2) (fun s => Ok s.1) (fun ⟨s, J⟩ ho r => ?_) (s, J) hs ha hh
  dsimp only at ho ⊢
  refine (step s ho r J).mono fun x hx => ?_
  obtain ⟨e, r', h'⟩ := x
  cases e with
  | normal => obtain ⟨s', h1, h2, h3, J', h4⟩ := hx; exact ⟨(s', J'), h1, h2, h3, h4⟩
  | exit id => exact hx
  | ret => exact hx

/-! ### parts of code -/
def VCode.kid (c : VCode) (i : Nat) : VCode :=
  match c with
  | .seq a b => bif Nat.beq i 0 then a else b
  | .cond _ a b => bif Nat.beq i 0 then a else b
  | .block _ c => c
  | .loop c => c
  | .rangeFunc _ _ a b => bif Nat.beq i 0 then a else b
  | c => c
def VCode.at (c : VCode) (l : List Nat) : VCode := l.foldl VCode.kid c

/-! ### lists of whole numbers -/
def ints (l : List Int) : List PV := l.map fun n => .int .i64 n
theorem ints_len (l : List Int) : (ints l).length = l.length := by simp [ints]
theorem ints_get {l : List Int} {i : Nat} {n : Int} (h : l[i]? = some n) : (ints l)[i]? = some (.int .i64 n) := by simp [ints, h]
theorem ints_app (l : List Int) (x : Int) : ints l ++ [PV.int .i64 x] = ints (l ++ [x]) := by simp [ints]

/-! ### lists of values of some cells each -/
/-- The cells of a list, each of es cells. -/
def flat {α : Type} (f : α → List PV) (l : List α) : List PV := (l.map f).flatten
theorem flat_len {α : Type} {f : α → List PV} {es : Nat} (hf : ∀ a, (f a).length = es) (l : List α) : (flat f l).length = l.length * es := by
  induction l with
  | nil => simp [flat]
  | cons a l ih => show (f a ++ flat f l).length = _; rw [List.length_append, ih, hf, List.length_cons, Nat.add_mul]; omega
theorem flat_get {α : Type} {f : α → List PV} {es : Nat} (hf : ∀ a, (f a).length = es) {l : List α} {i : Nat} {a : α} (h : l[i]? = some a) : ((flat f l).drop (i * es)).take es = f a ∧ i * es + es ≤ (flat f l).length := by
  induction l generalizing i with
  | nil => simp at h
  | cons b l ih =>
    cases i with
    | zero =>
      simp at h; subst h
      refine ⟨?_, ?_⟩
      · show ((f b ++ flat f l).drop (0 * es)).take es = f b
        rw [Nat.zero_mul, List.drop_zero, List.take_append_of_le_length (by rw [hf]; exact Nat.le_refl _), List.take_of_length_le (by rw [hf]; exact Nat.le_refl _)]
      · rw [flat_len hf, List.length_cons, Nat.add_mul]; omega
    | succ i =>
      simp at h
      obtain ⟨h1, h2⟩ := ih h
      refine ⟨?_, by rw [flat_len hf] at h2 ⊢; rw [List.length_cons, Nat.add_mul, Nat.add_mul]; omega⟩
      show ((f b ++ flat f l).drop ((i + 1) * es)).take es = f a
      have e : (i + 1) * es = (f b).length + i * es := by rw [hf, Nat.add_mul]; omega
      rw [e, List.drop_append, List.drop_of_length_le (by omega), List.nil_append, Nat.add_sub_cancel_left]
      exact h1
/-- One cell of one of them. -/
theorem flat_cell {α : Type} {f : α → List PV} {es : Nat} (hf : ∀ a, (f a).length = es) {l : List α} {i j : Nat} {a : α} (h : l[i]? = some a) (hj : j < es) : (flat f l)[i * es + j]? = (f a)[j]? := by
  obtain ⟨h1, _⟩ := flat_get hf h
  rw [← h1, List.getElem?_take, if_pos hj, List.getElem?_drop]
theorem flat_app {α : Type} (f : α → List PV) (l m : List α) : flat f l ++ flat f m = flat f (l ++ m) := by simp [flat]
theorem flat_one {α : Type} (f : α → List PV) (a : α) : flat f [a] = f a := by simp [flat]
theorem flat_snoc {α : Type} (f : α → List PV) (l : List α) (a : α) : flat f l ++ f a = flat f (l ++ [a]) := by rw [← flat_app, flat_one]
/-- The first of a row that is told. -/
theorem range_some {α : Type} {g : Nat → Option α} {n i : Nat} {x : α} (h0 : ∀ j, j < i → g j = none) (hi : i < n) (hx : g i = some x) : (List.range n).findSome? g = some x := by
  obtain ⟨m, rfl⟩ : ∃ m, n = i + (1 + m) := ⟨n - i - 1, by omega⟩
  rw [List.range_add, List.findSome?_append]
  have h1 : (List.range i).findSome? g = none := List.findSome?_eq_none_iff.2 fun j hj => h0 j (List.mem_range.1 hj)
  rw [h1, List.range_add, List.map_append, List.findSome?_append]
  simp [hx]
theorem range_none {α : Type} {g : Nat → Option α} {n : Nat} (h0 : ∀ j, j < n → g j = none) : (List.range n).findSome? g = none :=
  List.findSome?_eq_none_iff.2 fun j hj => h0 j (List.mem_range.1 hj)
end Go.VM

namespace Go.VM
open Go

theorem AppV_grow {H : Heap} {v : AV} {e : Ext} {es n : Nat} {cs : List PV} (h : AppV H v e es n cs) (L : Heap) : AppV (H ++ L) v e es n cs := by
  rcases h with h | ⟨h1, h2, t, h3, h4⟩
  · exact .inl h
  · exact .inr ⟨h1, h2, t, h3, (hget_app L (hget_lt h4 (by intro h; cases h))).trans h4⟩
theorem AppV_put {H : Heap} {v : AV} {e : Ext} {es n : Nat} {cs : List PV} (h : AppV H v e es n cs) {i : Nat} {o : HObj} (o' : HObj) (hi : hget H i = o) (ho : ∀ n es, o ≠ .tok n es) : AppV (hset H i o') v e es n cs := by
  rcases h with h | ⟨h1, h2, t, h3, h4⟩
  · exact .inl h
  · refine .inr ⟨h1, h2, t, h3, (hget_hset_ne _ _ (fun e => ?_)).trans h4⟩
    rw [e, hi] at h4
    exact ho _ _ h4
theorem keep2 {H : Heap} {i : Nat} {o : HObj} (z o' : HObj) (h : hget H i = o) (ho : o ≠ .dead) : hget (hset (H ++ [z]) H.length o') i = o := by
  have := hget_lt h ho
  exact (hget_hset_ne _ _ (by omega)).trans ((hget_app _ this).trans h)
/-- One cell. -/
def cellOf (v : AV) : HObj := match v with
  | .pv p => .pcells [p]
  | v => .cells [v]
theorem cellOf_ne {v : AV} : cellOf v ≠ .dead ∧ ∀ n es, cellOf v ≠ .tok n es := by
  cases v <;> exact ⟨(by intro h; cases h), (by intro n es h; cases h)⟩
/-- All that is no token, but one, stays. -/
def Keep (p : Nat) (H H' : Heap) : Prop := H.length ≤ H'.length ∧ ∀ i o, i ≠ p → hget H i = o → o ≠ .dead → (∀ n es, o ≠ .tok n es) → hget H' i = o
theorem Keep.refl (p : Nat) (H : Heap) : Keep p H H := ⟨Nat.le_refl _, fun _ _ _ h _ _ => h⟩
theorem Keep.trans {p : Nat} {H H1 H2 : Heap} (h1 : Keep p H H1) (h2 : Keep p H1 H2) : Keep p H H2 :=
  ⟨Nat.le_trans h1.1 h2.1, fun i o hi h hd ht => h2.2 i o hi (h1.2 i o hi h hd ht) hd ht⟩
theorem Keep.set {p : Nat} {H H1 : Heap} (h1 : Keep p H H1) (o : HObj) : Keep p H (hset H1 p o) :=
  ⟨by rw [hset_len]; exact h1.1, fun i o' hi h hd ht => (hget_hset_ne _ _ hi).trans (h1.2 i o' hi h hd ht)⟩
theorem Keep.of_fr {H H1 : Heap} {v : AV} {e : Ext} {es n : Nat} {cs : List PV} (hv : AppV H v e es n cs) (hf : Fr v H H1) (p : Nat) : Keep p H H1 :=
  ⟨hf.1, fun _ _ _ h hd ht => Fr.obj hv hf h hd ht⟩
/-- A row of bytes in an object of one cell. -/
def TP (H : Heap) (p : Nat) (bs : List UInt8) : Prop := ∃ v, hget H p = cellOf v ∧ AppV H v .nil 1 bs.length (bc bs)
theorem TP.out {H : Heap} {p : Nat} {bs : List UInt8} (h : TP H p bs) : (hget H p = .pcells [.sl .nil 0 []] ∧ bs = []) ∨ (bs ≠ [] ∧ ∃ t, hget H p = .cells [.tsl t bs.length (bc bs)] ∧ hget H t = .tok bs.length 1) := by
  obtain ⟨v, h1, h2⟩ := h
  rcases h2 with ⟨h3, _, rfl, _⟩ | ⟨h3, _, t, rfl, h4⟩
  · exact .inl ⟨h1, List.eq_nil_of_length_eq_zero h3⟩
  · exact .inr ⟨fun h => by rw [h] at h3; exact h3 rfl, t, h1, h4⟩
end Go.VM

namespace Go.VM
open Go Go.RowKit Go.ChangeShapes Go.WideShapes

mutual
def HasTyB (B : Nat) : Ty → List PV → Prop
  | .bool, cs => ∃ b, cs = [.bool b]
  | .int k, cs => ∃ n, cs = [.int k n] ∧ (Lit.int k n).wf = true
  | .str, cs => ∃ s : ByteArray, cs = [.str s] ∧ s.size ≤ B
  | .sl es e, cs => ∃ x len cells, cs = [.sl x len cells] ∧ ((x = .nil ∧ len = 0 ∧ cells = []) ∨ x = .nn) ∧ len ≤ B ∧ Els (HasTyB B e) es len cells
  | .st fs, cs => HasFsB B fs cs
  | .arr n es e, cs => Els (HasTyB B e) es n cs
def HasFsB (B : Nat) : List (Nat × Ty) → List PV → Prop
  | [], cs => cs = []
  | (n, t) :: fs, cs => ∃ a b, cs = a ++ b ∧ a.length = n ∧ HasTyB B t a ∧ HasFsB B fs b
end

/-- What is of bulk: its texts and its parts are. -/
structure Bulk {H : Type} (b : DataW H → Nat) : Prop where
  str : ∀ l, l.length ≤ b (.lit (.string l))
  elem : ∀ elems spare d, d ∈ elems → b d ≤ b (.slice elems spare)
  len : ∀ elems spare, elems.length ≤ b (.slice elems spare)
  part : ∀ parts d, d ∈ parts → b d ≤ b (.agg parts)
theorem mapM_mem {α β : Type} {f : α → Option β} : ∀ {l : List α} {r : List β}, l.mapM f = some r → ∀ x ∈ l, ∃ y, f x = some y ∧ y ∈ r := by
  intro l
  induction l with
  | nil => intro r _ x hx; cases hx
  | cons a l ih =>
    intro r h x hx
    rw [List.mapM_cons] at h
    obtain ⟨y, h1, h2⟩ := some_bind h
    obtain ⟨ys, h3, h4⟩ := some_bind h2
    injection h4 with h4; subst h4
    rcases List.mem_cons.1 hx with e | e
    · subst e; exact ⟨y, h1, List.mem_cons_self ..⟩
    · obtain ⟨z, q1, q2⟩ := ih h3 x e
      exact ⟨z, q1, List.mem_cons_of_mem _ q2⟩
theorem mapM_len {α β : Type} {f : α → Option β} : ∀ {l : List α} {r : List β}, l.mapM f = some r → r.length = l.length := by
  intro l
  induction l with
  | nil => intro r h; simp at h; subst h; rfl
  | cons a l ih =>
    intro r h
    rw [List.mapM_cons] at h
    obtain ⟨y, h1, h2⟩ := some_bind h
    obtain ⟨ys, h3, h4⟩ := some_bind h2
    injection h4 with h4; subst h4
    simp [ih h3]

section
variable {H : Type} {enc : TypeId × Value → H} {P : Program} {w : World} {sp : Nat → Bool} {hd : Bool} {B : Nat} {bk : DataW H → Nat}

/-- What reading found, one after the other. -/
theorem els_readB {fuel : Nat} {e : TypeId} {T : Ty} {a : Addr} {es : Nat} (ih : ∀ (cs : List Value) (x : DataW H × List MemPlace), DataW.trod enc P w 0 sp hd fuel e cs = some x → bk x.1 ≤ B → ∃ ps, PRels (Imm.of w) ps cs ∧ Ones cs ∧ HasTyB B T ps) :
    ∀ (n i : Nat), (∀ j, i ≤ j → j < i + n → ∃ x, ((w.cells? 0 (a.add (j * es)) es).bind (DataW.trod enc P w 0 sp hd fuel e)) = some x ∧ bk x.1 ≤ B) →
    ∃ ps vs, PRels (Imm.of w) ps vs ∧ Ones vs ∧ Els (HasTyB B T) es n ps ∧ ∀ (j : Nat) (v : Value), vs[j]? = some v → w.cell? (a.add (i * es + j)) = some v := by
  intro n
  induction n with
  | zero => intro i _; exact ⟨[], [], .nil, .nil, rfl, fun j v h => by simp at h⟩
  | succ n ihn =>
    intro i h
    obtain ⟨x, hx, hbx⟩ := h i (Nat.le_refl _) (by omega)
    obtain ⟨c, h1, h2⟩ := some_bind hx
    obtain ⟨ps, g1, g2, g3⟩ := ih c x h2 hbx
    obtain ⟨c1, c2⟩ := cells?_get h1
    obtain ⟨qs, vs, k1, k2, k3, k4⟩ := ihn (i + 1) fun j hj hlt => h j (by omega) (by omega)
    refine ⟨ps ++ qs, c ++ vs, g1.append k1, g2.append k2, ⟨ps, qs, rfl, by rw [g1.length, c1], g3, k3⟩, fun j v hj => ?_⟩
    by_cases hlt : j < c.length
    · rw [List.getElem?_append_left hlt] at hj
      rw [← addr_add_add]
      exact c2 j v hj
    · rw [List.getElem?_append_right (by omega)] at hj
      have := k4 _ v hj
      rw [c1] at this hlt
      rw [show i * es + j = (i + 1) * es + (j - es) by rw [Nat.add_mul]; omega]
      exact this

theorem segs_readB {fuel : Nat} {e : TypeId} {T : Ty} {es : Nat} (ih : ∀ (cs : List Value) (x : DataW H × List MemPlace), DataW.trod enc P w 0 sp hd fuel e cs = some x → bk x.1 ≤ B → ∃ ps, PRels (Imm.of w) ps cs ∧ Ones cs ∧ HasTyB B T ps) (cs : List Value) :
    ∀ (n i : Nat), cs.length = (i + n) * es → (∀ j, i ≤ j → j < i + n → ∃ x, DataW.trod enc P w 0 sp hd fuel e ((cs.drop (j * es)).take es) = some x ∧ bk x.1 ≤ B) →
    ∃ ps, PRels (Imm.of w) ps (cs.drop (i * es)) ∧ Ones (cs.drop (i * es)) ∧ Els (HasTyB B T) es n ps := by
  intro n
  induction n with
  | zero => intro i hl _; rw [Nat.add_zero] at hl; exact ⟨[], by rw [List.drop_of_length_le (by omega)]; exact .nil, by rw [List.drop_of_length_le (by omega)]; exact .nil, rfl⟩
  | succ n ihn =>
    intro i hl h
    obtain ⟨x, hx, hbx⟩ := h i (Nat.le_refl _) (by omega)
    obtain ⟨ps, g1, g2, g3⟩ := ih _ x hx hbx
    obtain ⟨qs, k1, k2, k3⟩ := ihn (i + 1) (by rw [hl]; congr 1; omega) fun j hj hlt => h j (by omega) (by omega)
    have e1 : cs.drop (i * es) = (cs.drop (i * es)).take es ++ cs.drop ((i + 1) * es) := by
      conv => lhs; rw [← List.take_append_drop es (cs.drop (i * es))]
      rw [List.drop_drop, Nat.add_mul, Nat.one_mul]
    have hle : (i + 1) * es ≤ cs.length := by rw [hl]; exact Nat.mul_le_mul_right _ (by omega)
    have hlen : ((cs.drop (i * es)).take es).length = es := by
      rw [List.length_take, List.length_drop]
      rw [Nat.add_mul] at hle
      omega
    rw [e1]
    exact ⟨ps ++ qs, g1.append k1, g2.append k2, ps, qs, rfl, by rw [g1.length, hlen], g3, k3⟩

theorem fs_readB {fuel : Nat} {g : TypeId → Option Ty} (ih : ∀ (t : TypeId) (T : Ty) (cs : List Value) (x : DataW H × List MemPlace), g t = some T → DataW.trod enc P w 0 sp hd fuel t cs = some x → bk x.1 ≤ B → ∃ ps, PRels (Imm.of w) ps cs ∧ Ones cs ∧ HasTyB B T ps) (cs : List Value) :
    ∀ (fs : List Field) (off : Nat) (L : List (Nat × Ty)), tyFs P g fs off cs.length = some L → off ≤ cs.length → (∀ f ∈ fs, ∃ x, DataW.trod enc P w 0 sp hd fuel f.type ((cs.drop f.offset).take (P.cellsOf f.type)) = some x ∧ bk x.1 ≤ B) →
    ∃ ps, PRels (Imm.of w) ps (cs.drop off) ∧ Ones (cs.drop off) ∧ HasFsB B L ps := by
  intro fs
  induction fs with
  | nil =>
    intro off L h hle _
    simp only [tyFs] at h
    cases hb : Nat.beq off cs.length with
    | false => rw [hb] at h; cases h
    | true =>
      rw [hb] at h; injection h with h; subst h
      have := Nat.eq_of_beq_eq_true hb
      rw [List.drop_of_length_le (by omega)]
      exact ⟨[], .nil, .nil, by simp [HasFsB]⟩
  | cons f fs ihf =>
    intro off L h hle hx
    simp only [tyFs] at h
    split at h
    · rename_i t r h1 h2
      cases hb : Nat.beq f.offset off with
      | false => rw [hb] at h; cases h
      | true =>
        rw [hb] at h; injection h with h; subst h
        have ho := Nat.eq_of_beq_eq_true hb
        obtain ⟨x, hx1, hbx⟩ := hx f (by simp)
        rw [ho] at hx1
        obtain ⟨ps, g1, g2, g3⟩ := ih _ t _ x h1 hx1 hbx
        have hle2 : off + P.cellsOf f.type ≤ cs.length := by
          have : ∀ (fs : List Field) (o : Nat) (L : List (Nat × Ty)), tyFs P g fs o cs.length = some L → o ≤ cs.length := by
            intro fs
            induction fs with
            | nil =>
              intro o L h
              simp only [tyFs] at h
              cases hb : Nat.beq o cs.length with
              | false => rw [hb] at h; cases h
              | true => exact Nat.le_of_eq (Nat.eq_of_beq_eq_true hb)
            | cons f fs ih2 =>
              intro o L h
              simp only [tyFs] at h
              split at h
              · rename_i t' r' _ h3
                have := ih2 _ _ h3
                omega
              · cases h
          exact this fs _ _ h2
        obtain ⟨qs, k1, k2, k3⟩ := ihf _ r h2 hle2 fun f' hf' => hx f' (by simp [hf'])
        have e1 : cs.drop off = (cs.drop off).take (P.cellsOf f.type) ++ cs.drop (off + P.cellsOf f.type) := by
          conv => lhs; rw [← List.take_append_drop (P.cellsOf f.type) (cs.drop off)]
          rw [List.drop_drop]
        have hlen : ((cs.drop off).take (P.cellsOf f.type)).length = P.cellsOf f.type := by
          rw [List.length_take, List.length_drop]; omega
        rw [e1]
        refine ⟨ps ++ qs, g1.append k1, g2.append k2, ?_⟩
        simp only [HasFsB]
        exact ⟨ps, qs, rfl, by rw [g1.length, hlen], g3, k3⟩
    · cases h

theorem readB (hbk : Bulk bk) : ∀ (fuel d : Nat) (t : TypeId) (T : Ty) (cs : List Value) (x : DataW H × List MemPlace), tyOf P d t = some T → DataW.trod enc P w 0 sp hd fuel t cs = some x → bk x.1 ≤ B → ∃ ps, PRels (Imm.of w) ps cs ∧ Ones cs ∧ HasTyB B T ps := by
  intro fuel
  induction fuel with
  | zero => intro d t T cs x _ h _; simp [DataW.trod] at h
  | succ fuel ih =>
    intro d t T cs x hT hx hB
    cases d with
    | zero => cases hT
    | succ d =>
      simp only [tyOf] at hT
      have ihc : ∀ (t : TypeId) (T : Ty) (cs : List Value) (x : DataW H × List MemPlace), tyOf P d t = some T → DataW.trod enc P w 0 sp hd fuel t cs = some x → bk x.1 ≤ B → ∃ ps, PRels (Imm.of w) ps cs ∧ Ones cs ∧ HasTyB B T ps := fun t T cs x h1 h2 h3 => ih d t T cs x h1 h2 h3
      simp only [DataW.trod] at hx
      split at hx
      case h_1 hu =>
        rw [hu] at hT; injection hT with hT; subst hT
        exact ⟨[.bool _], .cons _ _ _ _ (.bool _) .nil, .cons rfl .nil, by simp [HasTyB]⟩
      case h_2 k k' m hu =>
        rw [hu] at hT; injection hT with hT; subst hT
        split at hx
        · rename_i hc
          obtain ⟨rfl, hw⟩ := hc
          exact ⟨[.int _ _], .cons _ _ _ _ (.int _ _) .nil, .cons rfl .nil, by simp [HasTyB, hw]⟩
        · cases hx
      case h_4 s hu =>
        rw [hu] at hT; injection hT with hT; subst hT
        split at hx
        · rename_i hc
          injection hx with hx
          subst hx
          have := hbk.str s.data.toList
          have e : s.size = s.data.toList.length := by rw [Array.length_toList]; rfl
          refine ⟨[.str _], .cons _ _ _ _ (.str _) .nil, .cons rfl .nil, ?_⟩
          simp only [HasTyB]
          refine ⟨s, rfl, ?_⟩
          rw [e]
          exact Nat.le_trans this hB
        · cases hx
      case h_7 e hu =>
        rw [hu] at hT
        obtain ⟨E, _, rfl⟩ := map_some hT
        refine ⟨[.sl .nil 0 []], .cons _ _ _ _ (.slNil _ (by simp) (by simp)) .nil, .cons rfl .nil, ?_⟩
        simp only [HasTyB]
        exact ⟨.nil, 0, [], rfl, .inl ⟨rfl, rfl, rfl⟩, Nat.zero_le _, rfl⟩
      case h_8 e a len cap hu =>
        rw [hu] at hT
        obtain ⟨E, hE, rfl⟩ := map_some hT
        split at hx
        · rename_i hc
          obtain ⟨elems, h1, h2⟩ := some_bind hx
          obtain ⟨rest, _, h2⟩ := map_some h2
          subst h2
          have hall := mapM_mem h1
          have hlen := mapM_len h1
          have hbl := hbk.len (elems.map (·.1)) (rest.map (·.1))
          simp only at hB
          obtain ⟨ps, vs, g1, g2, g3, g4⟩ := els_readB (a := a) (es := P.cellsOf e) (fun cs x h hb => ihc e E cs x hE h hb) len 0 fun j _ hj => by
            obtain ⟨y, hy, hm⟩ := hall j (by simp; omega)
            exact ⟨y, hy, Nat.le_trans (hbk.elem _ _ _ (List.mem_map.2 ⟨y, hm, rfl⟩)) hB⟩
          refine ⟨[.sl .nn len ps], .cons _ _ _ _ (.sl .nn len ps a cap vs (by simp) (by simp) hc.2.1 g1 (fun j v hj => by simpa [Imm.of] using g4 j v hj) g2) .nil, .cons rfl .nil, ?_⟩
          simp only [HasTyB]
          exact ⟨.nn, len, ps, rfl, .inr rfl, by rw [List.length_map, hlen, List.length_range] at hbl; omega, g3⟩
        · cases hx
      case h_9 cs _ _ fs hu =>
        rw [hu] at hT
        obtain ⟨L, hL, rfl⟩ := map_some hT
        split at hx
        · rename_i hc
          obtain ⟨xs, h1, h2⟩ := map_some hx
          subst h2
          simp only at hB
          rw [← hc] at hL
          obtain ⟨ps, g1, g2, g3⟩ := fs_readB (g := tyOf P d) (fun t T cs x h1 h2 h3 => ihc t T cs x h1 h2 h3) cs fs.toList 0 L hL (Nat.zero_le _) fun f hf => by
            obtain ⟨y, hy, hm⟩ := mapM_mem h1 f hf
            exact ⟨y, hy, Nat.le_trans (hbk.part _ _ (List.mem_map.2 ⟨y, hm, rfl⟩)) hB⟩
          refine ⟨ps, by simpa using g1, by simpa using g2, ?_⟩
          simp only [HasTyB]
          exact g3
        · cases hx
      case h_10 cs _ _ n e hu =>
        rw [hu] at hT
        simp only at hT
        split at hT
        · rename_i E hE
          cases hb : Nat.beq (P.cellsOf t) (n * P.cellsOf e) with
          | false => rw [hb] at hT; cases hT
          | true =>
            rw [hb] at hT; injection hT with hT; subst hT
            split at hx
            · rename_i hc
              obtain ⟨xs, h1, h2⟩ := map_some hx
              subst h2
              simp only at hB
              have hl : cs.length = (0 + n) * P.cellsOf e := by rw [hc, Nat.eq_of_beq_eq_true hb, Nat.zero_add]
              obtain ⟨ps, g1, g2, g3⟩ := segs_readB (es := P.cellsOf e) (fun cs x h hb => ihc e E cs x hE h hb) cs n 0 hl fun j _ hj => by
                obtain ⟨y, hy, hm⟩ := mapM_mem h1 j (by simp; omega)
                exact ⟨y, hy, Nat.le_trans (hbk.part _ _ (List.mem_map.2 ⟨y, hm, rfl⟩)) hB⟩
              refine ⟨ps, by simpa using g1, by simpa using g2, ?_⟩
              simp only [HasTyB]
              exact g3
            · cases hx
        · cases hT
      all_goals first
        | (rename_i hu; rw [hu] at hT; cases hT; done)
        | (cases hx; done)
        | skip
end
/-- An argument of plain data. -/
def HasArgB (B : Nat) (T : Ty) (p : PV) : Prop := match T with
  | .st fs => ∃ ps, p = .agg ps ∧ HasFsB B fs ps
  | .arr n es e => ∃ ps, p = .agg ps ∧ Els (HasTyB B e) es n ps
  | T => HasTyB B T [p]
def HasArgsB (B : Nat) : List Ty → List PV → Prop
  | [], ps => ps = []
  | T :: Ts, ps => ∃ p qs, ps = p :: qs ∧ HasArgB B T p ∧ HasArgsB B Ts qs

section
variable {H : Type} {enc : TypeId × Value → H} {P : Program} {W : World} {B : Nat} {bk : DataW H → Nat}

theorem read_argB (hbk : Bulk bk) {d : Nat} {t : TypeId} {T : Ty} {base : Nat} {v : Value} {dd : DataW H} {pl : List MemPlace} {sp : Nat → Bool} {hd : Bool} (hT : tyOf P d t = some T) (hok : Value.okWide P W .any base t v) (h : DataW.Trod enc P W 0 sp hd t v dd pl) (hB : bk dd ≤ B) :
    ∃ p, PRel (Imm.of W) p v ∧ HasArgB B T p := by
  obtain ⟨fuel, h⟩ := h
  obtain ⟨ps, h1, h2, h3⟩ := readB hbk fuel d t T _ _ hT h hB
  have single : ∀ (q : PV), ps = [q] → (∀ cs, v ≠ .agg cs) → PRel (Imm.of W) q v := by
    intro q hq hv
    subst hq
    have hc : v.cells = #[v] := by cases v <;> first | rfl | exact absurd rfl (hv _)
    rw [hc] at h1
    cases h1 with | cons _ _ _ _ g1 _ => exact g1
  rcases tyOf_agg hT with ⟨fs, hu, L, rfl⟩ | ⟨n, e, hu, a, b, c, rfl⟩ | ⟨k1, k2, k3, k4⟩
  · unfold Value.okWide at hok
    rw [hu] at hok
    obtain ⟨cs, rfl, _⟩ := hok
    simp only [HasTyB] at h3
    refine ⟨.agg ps, ?_, ps, rfl, h3⟩
    have := PRel.agg ps cs.toList (by simpa [Value.cells] using h1) (by simpa [Value.cells] using h2)
    simpa using this
  · unfold Value.okWide at hok
    rw [hu] at hok
    obtain ⟨cs, rfl, _⟩ := hok
    simp only [HasTyB] at h3
    refine ⟨.agg ps, ?_, ps, rfl, h3⟩
    have := PRel.agg ps cs.toList (by simpa [Value.cells] using h1) (by simpa [Value.cells] using h2)
    simpa using this
  · have hv := okWide_plain hok k1 k2
    cases T with
    | st L => exact absurd rfl (k3 L)
    | arr a b c => exact absurd rfl (k4 a b c)
    | bool =>
      have h3' := h3
      simp only [HasTyB] at h3
      obtain ⟨b, rfl⟩ := h3
      exact ⟨_, single _ rfl hv, h3'⟩
    | int k =>
      have h3' := h3
      simp only [HasTyB] at h3
      obtain ⟨b, rfl, _⟩ := h3
      exact ⟨_, single _ rfl hv, h3'⟩
    | str =>
      have h3' := h3
      simp only [HasTyB] at h3
      obtain ⟨b, rfl, _⟩ := h3
      exact ⟨_, single _ rfl hv, h3'⟩
    | sl es e =>
      have h3' := h3
      simp only [HasTyB] at h3
      obtain ⟨x, len, cells, rfl, _⟩ := h3
      exact ⟨_, single _ rfl hv, h3'⟩

theorem read_argsB (hbk : Bulk bk) {d : Nat} {base : Nat} {sp : Nat → Bool} {hd : Bool} : ∀ {ts : List TypeId} {Ts : List Ty} {vs : List Value} {ds : List (DataW H)} {pl : List MemPlace}, tysOf P d ts = some Ts → (∀ (j : Nat) (t : TypeId) (v : Value), ts[j]? = some t → vs[j]? = some v → Value.okWide P W .any base t v) → DataW.TrodAll enc P W 0 sp hd ts vs ds pl → (∀ d ∈ ds, bk d ≤ B) →
    ∃ ps, PRels (Imm.of W) ps vs ∧ HasArgsB B Ts ps := by
  intro ts
  induction ts with
  | nil =>
    intro Ts vs ds pl hT hok h hB
    simp [tysOf] at hT; subst hT
    cases vs with
    | nil => exact ⟨[], .nil, rfl⟩
    | cons _ _ => cases ds <;> exact h.elim
  | cons t ts ih =>
    intro Ts vs ds pl hT hok h hB
    simp only [tysOf] at hT
    split at hT
    · rename_i T r h1 h2
      injection hT with hT; subst hT
      cases vs with
      | nil => cases ds <;> exact h.elim
      | cons v vs =>
        cases ds with
        | nil => exact h.elim
        | cons dd ds =>
          obtain ⟨p, q, g1, g2, _⟩ := h
          obtain ⟨x, k1, k2⟩ := read_argB hbk h1 (hok 0 t v rfl rfl) g1 (hB _ (List.mem_cons_self ..))
          obtain ⟨xs, k3, k4⟩ := ih h2 (fun j t' v' hj hv => hok (j + 1) t' v' (by simpa using hj) (by simpa using hv)) g2 (fun d hd => hB d (List.mem_cons_of_mem _ hd))
          exact ⟨x :: xs, .cons _ _ _ _ k1 k3, x, xs, rfl, k2, k4⟩
    · cases hT
end


/-- A law that answers true in the abstract machine, where its arguments are not of more bulk. -/
theorem law_cond {C : Checked} {md : FuncId → Mode} {env : Env} (hV : EnvOK ⟨C.prog, md, fun _ => none, fun _ => false⟩ env) {f : FuncId} {fn : Func} {s : OpenSpec} {k : (H : Type) → List (DataW H) → Bool} (hk : s.cond = some k) {F : Stop.Interp} {conds : List PathCond} {apart fresh handsOn : Bool} {tb : TypeId} {Ts : List Ty}
    (own : ownKnob C.prog.godebug = none) {os : Os} (started : os.Started) (noInit : C.prog.inits.idxOf? f = none) (hf : C.prog.funcs[f]? = some fn) {H : Type} {enc : TypeId × Value → H}
    (witness : ∃ (w : World) (tape : Tape) (i : Input), w.os = os ∧ (w.forCall tape i).Shaped C.prog ∧ i.vars = [] ∧ Input.okWide C.prog (w.forCall tape i) .any w.heap.size f i ∧
      s.pre6 enc C.prog fn conds apart (w.forCall tape i).memory i.args ∧ ({} : Assume).holds C.prog (lone (Frame.enter C.prog f i.args .normal) [] (w.forCall tape i)))
    (hl : laidOutB C.prog = true) (hr : fn.params.toList.all (fun t => C.prog.readableRec t && decide (t < C.prog.types.size)) = true) (hvars : s.vars = []) (hrt : fn.resultTypes = #[tb]) (htb : C.prog.underlying tb = some .bool)
    (hfn : ∀ ds : List (DataW H), ds.length = fn.params.size → (s.at F).fn H ds = { results := [.lit (.bool true)], args := ds })
    {B : Nat} {bk : DataW H → Nat} (hbk : Bulk bk) (hkb : ∀ ds, k H ds = true → ∀ d ∈ ds, bk d ≤ B)
    (hT : tysOf C.prog 40 fn.params.toList = some Ts) (law : ∀ ps, HasArgsB B Ts ps → ∃ H', EE env (.fn f) (ps.map .pv) [] = some (.pv (.bool true), H')) :
    ReturnsInHanded {} C os f .any (s.pre6 enc C.prog fn conds apart) ((s.at F).post enc C.prog fn apart fresh handsOn false) := by
  refine returnsInHanded_of_cond hk own started noInit hf witness ?_
  intro W base args ds gs before hval hW _ hkk _
  have hW0 : DataW.Whole enc C.prog fn.params.toList (s.at F).vars apart W args.toList ds gs before := hW
  obtain ⟨p, q, h1, _⟩ := hW
  obtain ⟨ps, g1, g2⟩ := read_argsB hbk (B := B) hT (fun j t v ht hv => hval j t v (by rw [← Array.getElem?_toList]; exact ht) (by rw [← Array.getElem?_toList]; exact hv)) h1 (fun d hd => hkb _ hkk d (List.mem_append_left _ hd))
  obtain ⟨H', hE⟩ := law ps g2
  refine (calls_of_EE hV hE (fun a v hv => by cases hv) (fun a ha => by cases ha) g1).mono fun e W' ⟨v, he, ⟨I, hv⟩, hb⟩ => ⟨v, he, ?_⟩
  cases hv
  exact law_post hl hr hvars hrt htb hfn (by rw [trodAll_length h1]; simp) hW0 hb
end Go.VM
