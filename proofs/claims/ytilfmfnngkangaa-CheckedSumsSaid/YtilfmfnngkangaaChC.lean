/-
  Products, sums of lists; what must be answered ahead of everything else; differences undo sums.
-/
import Derived.Test.YtilfmfnngkangaaChB
set_option linter.all false
set_option linter.unusedVariables false
set_option linter.unusedSimpArgs false
set_option linter.unusedSectionVars false
namespace Go.Proofs.Ytilfmfnngkangaa
open Go Go.VM

theorem size_ok {n : Int} (h : fit n = true) : EP (EE env) 31 [.int .i64 n] = some (.int .u64 (n.natAbs : Int)) := by
  have hf := fit_true h
  refine Has.eq (EP_has ?_)
  refine boolK_has (fun h => ?_) (fun h => ?_)
  · have h' := of_decide_eq_true h
    refine eqK_has_eq (n + 18446744073709551616) (by rw [wrap_u64_emod]; omega) ?_
    refine eqK_has_eq (n.natAbs : Int) (by rw [wrap_u64_emod]; omega) ?_
    exact Has.intro (Has.intro rfl)
  · have h' := of_decide_eq_false h
    refine eqK_has_eq (n.natAbs : Int) (by rw [wrap_u64_emod]; omega) ?_
    exact Has.intro (Has.intro rfl)

theorem xor_neg {a b : Int} (ha : fit a = true) (hb : fit b = true) :
    decide (IntKind.i64.wrap ((BitVec.ofInt IntKind.i64.bits a ^^^ BitVec.ofInt IntKind.i64.bits b).toNat : Int) < 0) = (decide (a < 0) != decide (b < 0)) := by
  obtain ⟨x, rfl⟩ := i64_bits (fit_true ha).1 (fit_true ha).2
  obtain ⟨y, rfl⟩ := i64_bits (fit_true hb).1 (fit_true hb).2
  rw [i64_xor, lt0, lt0, lt0, BitVec.msb_xor]

theorem mul_abs (a b : Int) (ha : a ≠ 0) (hb : b ≠ 0) : a * b = if (decide (a < 0) != decide (b < 0)) = true then -((a.natAbs * b.natAbs : Nat) : Int) else ((a.natAbs * b.natAbs : Nat) : Int) := by
  have e : ((a.natAbs * b.natAbs : Nat) : Int) = (a.natAbs : Int) * (b.natAbs : Int) := by simp
  rw [e]
  by_cases h1 : a < 0 <;> by_cases h2 : b < 0
  · have : (a.natAbs : Int) = -a := by omega
    rw [this]
    have : (b.natAbs : Int) = -b := by omega
    rw [this]; simp [h1, h2, Int.neg_mul, Int.mul_neg]
  · have : (a.natAbs : Int) = -a := by omega
    rw [this]
    have : (b.natAbs : Int) = b := by omega
    rw [this]; simp [h1, h2, Int.neg_mul, Int.mul_neg]
  · have : (a.natAbs : Int) = a := by omega
    rw [this]
    have : (b.natAbs : Int) = -b := by omega
    rw [this]; simp [h1, h2, Int.neg_mul, Int.mul_neg]
  · have : (a.natAbs : Int) = a := by omega
    rw [this]
    have : (b.natAbs : Int) = b := by omega
    rw [this]; simp [h1, h2, Int.neg_mul, Int.mul_neg]

theorem times_ok {a b : Int} (ha : fit a = true) (hb : fit b = true) : EP (EE env) 15 [.int .i64 a, .int .i64 b] = some (told (a * b)) := by
  have hfa := fit_true ha
  have hfb := fit_true hb
  refine Has.eq (EP_has ?_)
  refine boolK_has (fun h => ?_) (fun h => ?_)
  · have h' : a = 0 := by simpa using h
    subst h'
    refine Has.intro (Has.intro ?_)
    rw [Int.zero_mul]; rfl
  have ha0 : a ≠ 0 := by simpa using h
  refine boolK_has (fun h => ?_) (fun h => ?_)
  · have h' : b = 0 := by simpa using h
    subst h'
    refine Has.intro (Has.intro ?_)
    rw [Int.mul_zero]; rfl
  have hb0 : b ≠ 0 := by simpa using h
  refine callPK_has (size_ok ha) ?_
  refine callPK_has (size_ok hb) ?_
  have hm := mul_abs a b ha0 hb0
  have hX : a.natAbs ≤ 9223372036854775808 := by omega
  have hY : b.natAbs ≤ 9223372036854775808 := by omega
  have hX0 : 0 < a.natAbs := by omega
  have hY0 : 0 < b.natAbs := by omega
  generalize hXe : a.natAbs = X at hm hX hX0
  generalize hYe : b.natAbs = Y at hm hY hY0
  refine eqK_has_eq ((X * Y % 18446744073709551616 : Nat) : Int) (by
    rw [wrap_u64_emod]
    have : (X : Int) * (Y : Int) = ((X * Y : Nat) : Int) := by simp
    rw [this]; rfl) ?_
  refine eqK_has ?_
  refine boolK_has_eq (xor_neg ha hb) ?_
  have hquo : IntKind.u64.wrap (((X * Y % 18446744073709551616 : Nat) : Int).tdiv (Y : Int)) = ((X * Y % 18446744073709551616 / Y : Nat) : Int) := by
    show IntKind.u64.wrap ((X * Y % 18446744073709551616 / Y : Nat) : Int) = _
    rw [wrap_u64_emod]
    have h1 := Nat.div_le_self (X * Y % 18446744073709551616) Y
    have h2 := Nat.mod_lt (X * Y) (by decide : 18446744073709551616 > 0)
    generalize X * Y % 18446744073709551616 = p at *
    generalize p / Y = q at *
    omega
  have small : X * Y < 18446744073709551616 → X * Y % 18446744073709551616 = X * Y ∧ X * Y / Y = X := fun h => ⟨Nat.mod_eq_of_lt h, Nat.mul_div_cancel _ hY0⟩
  have great : ¬ X * Y < 18446744073709551616 → X * Y % 18446744073709551616 / Y ≠ X := fun h e => by
    have h1 : X * Y % 18446744073709551616 / Y * Y ≤ X * Y % 18446744073709551616 := Nat.div_mul_le_self _ _
    rw [e] at h1
    omega
  by_cases hs : X * Y < 18446744073709551616
  · obtain ⟨s1, s2⟩ := small hs
    rw [s1] at hquo ⊢
    rw [s2] at hquo
    generalize hP : X * Y = P at *
    cases hneg : (decide (a < 0) != decide (b < 0)) with
    | true =>
      rw [hneg] at hm
      refine eqK_has_eq 9223372036854775808 rfl ?_
      refine needK_has (by simp; omega) ?_
      refine eqK_has_eq _ hquo ?_
      refine boolK_has_false (by simp) ?_
      refine boolK_has (fun h => ?_) (fun h => ?_)
      · have h' := of_decide_eq_true h
        have hn : fit (a * b) = false := by
          rw [Bool.eq_false_iff]; intro hc; have := fit_true hc; rw [hm] at this; simp at this; omega
        refine Has.intro (Has.intro ?_)
        show PV.tup [.int .i64 0, .bool false] = _
        unfold told; rw [hn]; rfl
      · have h' := of_decide_eq_false h
        have hmm : a * b = -(P : Int) := by rw [hm]; rfl
        have hn : fit (a * b) = true := by rw [fit_iff, hmm]; omega
        refine eqK_has ?_
        refine boolK_has_eq (xor_neg ha hb) ?_
        rw [hneg]
        refine eqK_has ?_
        refine eqK_has_eq (-(P : Int)) (by
          rw [wrap_u64_emod]
          by_cases hp0 : P = 0
          · subst hp0; rfl
          · have : (0 - (P : Int)) % 18446744073709551616 = 18446744073709551616 - P := by omega
            rw [this]
            rw [wrap_i64_bmod, Int.bmod_def]
            have e : ((2 ^ 64 : Nat) : Int) = 18446744073709551616 := rfl
            rw [e]
            omega) ?_
        refine Has.intro (Has.intro ?_)
        show PV.tup [.int .i64 (-(P : Int)), .bool true] = _
        unfold told; rw [hn, hmm]; rfl
    | false =>
      rw [hneg] at hm
      refine needK_has (by simp; omega) ?_
      refine eqK_has_eq _ hquo ?_
      refine boolK_has_false (by simp) ?_
      refine boolK_has (fun h => ?_) (fun h => ?_)
      · have h' := of_decide_eq_true h
        have hn : fit (a * b) = false := by
          rw [Bool.eq_false_iff]; intro hc; have := fit_true hc; rw [hm] at this; simp at this; omega
        refine Has.intro (Has.intro ?_)
        show PV.tup [.int .i64 0, .bool false] = _
        unfold told; rw [hn]; rfl
      · have h' := of_decide_eq_false h
        have hmm : a * b = (P : Int) := by rw [hm]; rfl
        have hn : fit (a * b) = true := by rw [fit_iff, hmm]; omega
        refine eqK_has ?_
        refine boolK_has_eq (xor_neg ha hb) ?_
        rw [hneg]
        refine eqK_has_eq (P : Int) (wrap_i64 (by omega) (by omega)) ?_
        refine Has.intro (Has.intro ?_)
        show PV.tup [.int .i64 (P : Int), .bool true] = _
        unfold told; rw [hn, hmm]; rfl
  · have hg := great hs
    have hn : fit (a * b) = false := by
      rw [Bool.eq_false_iff]; intro hc; have := fit_true hc; rw [hm] at this
      generalize X * Y = P at *
      split at this <;> omega
    cases hneg : (decide (a < 0) != decide (b < 0)) with
    | true =>
      refine eqK_has_eq 9223372036854775808 rfl ?_
      refine needK_has (by simp; omega) ?_
      refine eqK_has_eq _ hquo ?_
      refine boolK_has_true (by rw [bne_iff_ne]; omega) ?_
      refine Has.intro (Has.intro ?_)
      show PV.tup [.int .i64 0, .bool false] = _
      unfold told; rw [hn]; rfl
    | false =>
      refine needK_has (by simp; omega) ?_
      refine eqK_has_eq _ hquo ?_
      refine boolK_has_true (by rw [bne_iff_ne]; omega) ?_
      refine Has.intro (Has.intro ?_)
      show PV.tup [.int .i64 0, .bool false] = _
      unfold told; rw [hn]; rfl

/-! ### sums of lists -/
def ints (l : List Int) : List PV := l.map fun n => .int .i64 n
/-- The sum up to there: none: it did not fit. -/
def sumOf : Option Int → List Int → Option Int
  | s, [] => s
  | some s, n :: l => sumOf (if fit (s + n) then some (s + n) else none) l
  | none, _ :: _ => none
def toldO : Option Int → PV
  | some n => .tup [.int .i64 n, .bool true]
  | none => .tup [.int .i64 0, .bool false]
theorem sumOf_take {l : List Int} {i : Nat} {s : Option Int} {n : Int} (h : l[i]? = some n) : sumOf s (l.take (i + 1)) = (match sumOf s (l.take i) with | some t => (if fit (t + n) then some (t + n) else none) | none => none) := by
  induction l generalizing i s with
  | nil => simp at h
  | cons a l ih =>
    cases i with
    | zero =>
      simp at h; subst h
      cases s with
      | none => rfl
      | some s => simp only [List.take_succ_cons, List.take_zero, sumOf]
    | succ i =>
      simp at h
      cases s with
      | none => rfl
      | some s => simp only [List.take_succ_cons, sumOf]; exact ih h
theorem sumOf_none (l : List Int) : sumOf none l = none := by cases l <;> rfl
theorem sumOf_append (s : Option Int) (a b : List Int) : sumOf s (a ++ b) = sumOf (sumOf s a) b := by
  induction a generalizing s with
  | nil => rfl
  | cons n a ih => cases s with
    | none => show none = sumOf none b; rw [sumOf_none]
    | some s => exact ih _
theorem sumOf_fit {s : Int} (hs : fit s = true) : ∀ (l : List Int) {t : Int}, sumOf (some s) l = some t → fit t = true := by
  intro l
  induction l generalizing s with
  | nil => intro t h; injection h with h; rw [← h]; exact hs
  | cons n l ih =>
    intro t h
    unfold sumOf at h
    split at h
    · rename_i hf; exact ih hf h
    · rw [sumOf_none] at h; cases h

theorem sum_ok (x : Ext) (l : List Int) (hl : l.length ≤ maxLen) (hf : ∀ n ∈ l, fit n = true) : EP (EE env) 8 [.sl x l.length (ints l)] = some (toldO (sumOf (some 0) l)) := by
  rw [maxLen_eq] at hl
  refine Has.eq (EP_has ?_)
  refine loopK_has ?_
  refine iterE_loop (σ := Nat × Int) (fun p => l.length - p.1) (fun p => [(2, .pv (.int .i64 0)), (3, .pv (.bool false)), (4, .pv (.int .i64 p.2)), (9, .pv (.sl x l.length (ints l))), (10, .pv (.int .i64 l.length)), (11, .pv (.int .i64 p.1))])
    (fun _ => []) (fun p => p.1 ≤ l.length ∧ sumOf (some 0) (l.take p.1) = some p.2) (fun ⟨i, s⟩ ⟨hi, hs⟩ r => ?_) (0, 0) ⟨Nat.zero_le _, rfl⟩ ⟨rfl, rfl, rfl, rfl, rfl, rfl, trivial⟩ rfl
  dsimp only at hi hs
  have hfs : fit s = true := sumOf_fit (s := 0) (by decide) _ hs
  refine boolK_has (fun hc => ?_) (fun hc => ?_)
  · have hlt : i < l.length := by have := of_decide_eq_true hc; simp only at this; omega
    obtain ⟨n, hn⟩ : ∃ n, l[i]? = some n := ⟨l[i], List.getElem?_eq_getElem hlt⟩
    have hfn := hf n (List.mem_of_getElem? hn)
    refine needK_has (by simp; omega) ?_
    refine getK_has (show (ints l)[i]? = some (.int .i64 n) by simp [ints, hn]) ?_
    refine callPK_has (add_ok hfs hfn) ?_
    have ht := sumOf_take (s := some 0) hn
    rw [hs] at ht; simp only at ht
    cases hfit : fit (s + n) with
    | true =>
      rw [hfit] at ht; simp only [if_true] at ht
      unfold told
      rw [hfit]
      refine eqK_has_eq _ (i64_succ (by omega)) ?_
      exact Has.intro ⟨(i + 1, s + n), ⟨hlt, ht⟩, by simp only; omega, ⟨rfl, rfl, rfl, rfl, rfl, rfl, trivial⟩, rfl⟩
    | false =>
      rw [hfit] at ht; simp only [Bool.false_eq_true, if_false] at ht
      unfold told
      rw [hfit]
      refine Has.intro (Has.intro (Has.intro ?_))
      show PV.tup [.int .i64 0, .bool false] = _
      have : sumOf (some 0) l = none := by
        rw [← List.take_append_drop (i + 1) l, sumOf_append, ht, sumOf_none]
      rw [this]; rfl
  · have he : i = l.length := by have := of_decide_eq_false hc; simp only at this; omega
    subst he
    refine Has.intro (Has.intro (Has.intro ?_))
    show PV.tup [.int .i64 s, .bool true] = _
    rw [List.take_length] at hs
    rw [hs]; rfl
end Go.Proofs.Ytilfmfnngkangaa
