/-
  MaskOnce in the abstract machine.
-/
import Derived.Test.YtdbobcbjgacjpaaPMkE
set_option linter.all false
set_option linter.unusedVariables false
set_option linter.unusedSimpArgs false
set_option linter.unusedSectionVars false
namespace Go.Proofs.Ytdbobcbjgacjpaa
open Go Go.VM

theorem slv_sl (l : List Int) : ∃ x, slv l = .sl x l.length (ints l) := by
  cases l with
  | nil => exact ⟨_, rfl⟩
  | cons a l => exact ⟨_, rfl⟩
theorem msq_in : ∀ n, n < 9 → ∀ x ∈ msq n, 1 ≤ x ∧ x < 2 ^ n := by decide +kernel
def chain : List Nat → Bool
  | a :: b :: l => decide (ahd a b) && chain (b :: l)
  | _ => true
theorem chain_get : ∀ (l : List Nat) (i : Nat) (a b : Nat), chain l = true → l[i]? = some a → l[i + 1]? = some b → ahd a b := by
  intro l
  induction l with
  | nil => intro i a b _ h; simp at h
  | cons x l ih =>
    intro i a b hc h1 h2
    cases l with
    | nil => simp at h2
    | cons y l =>
      unfold chain at hc
      rw [Bool.and_eq_true, decide_eq_true_eq] at hc
      cases i with
      | zero => simp at h1 h2; subst h1 h2; exact hc.1
      | succ i => exact ih i a b hc.2 (by simpa using h1) (by simpa using h2)
theorem msq_chain : ∀ n, n < 9 → chain (msq n) = true := by decide +kernel
theorem out_bit : ∀ u, u < 256 → ∀ k, k < 8 → (u &&& (255 - 2 ^ k)) &&& 2 ^ k = 0 := by decide +kernel
theorem in_bit : ∀ u, u < 256 → ∀ k, k < 8 → (u ||| 2 ^ k) &&& 2 ^ k ≠ 0 := by decide +kernel

theorem shl1_64 {c : Nat} (h : c ≤ 8) : IntKind.i64.wrap (1 * 2 ^ (min ((c : Nat) : Int).toNat IntKind.i64.bits)) = ((2 ^ c : Nat) : Int) := by
  have e : min ((c : Nat) : Int).toNat IntKind.i64.bits = c := by show min c 64 = c; omega
  rw [e, Int.one_mul]
  have : ((2 : Int) ^ c) = ((2 ^ c : Nat) : Int) := by simp
  rw [this]
  have h2 : 2 ^ c ≤ 2 ^ 8 := Nat.pow_le_pow_right (by decide) h
  exact i64_small (by omega)
theorem clamp_min (n : Int) : (bif false then (if (8 : Int) > n then (8 : Int) else n) else (if (8 : Int) < n then (8 : Int) else n)) = min n 8 := by
  simp only [cond_false]; split <;> omega
theorem clamp_max (n : Int) : (bif true then (if min n 8 > (0 : Int) then min n 8 else (0 : Int)) else (if min n 8 < (0 : Int) then min n 8 else (0 : Int))) = ((clampN n : Nat) : Int) := by
  simp only [cond_true]; unfold clampN; split <;> omega
theorem nl_get {l : List Nat} {i x : Nat} (h : l[i]? = some x) : (nl l)[i]? = some (x : Int) := by simp [nl, h]

theorem out_has (m node : Int) : ¬ (m8 ((m8 m &&& (255 - bitOf node) : Nat) : Int) &&& bitOf node ≠ 0) := by
  have hm := m8_lt m
  rw [m8_nat (and_lt8 _ hm)]
  intro h
  apply h
  unfold bitOf
  split
  · exact out_bit _ hm _ (by omega)
  · exact Nat.and_zero _
theorem in_has (m node : Int) : (m8 ((m8 m ||| bitOf node : Nat) : Int) &&& bitOf node ≠ 0) ↔ (0 ≤ node ∧ node < 8) := by
  have hm := m8_lt m
  rw [m8_nat (or_lt8 hm (bitOf_lt node))]
  unfold bitOf
  split
  · rename_i h
    exact ⟨fun _ => h, fun _ => in_bit _ hm _ (by omega)⟩
  · rename_i h
    exact ⟨fun hh => absurd (Nat.and_zero _) hh, fun hh => absurd hh h⟩

end Go.Proofs.Ytdbobcbjgacjpaa
