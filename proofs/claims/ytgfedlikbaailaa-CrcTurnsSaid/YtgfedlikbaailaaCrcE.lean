/-
  CrcTurns, in the abstract machine.
-/
import Derived.Test.YtgfedlikbaailaaCrcB
set_option linter.all false
set_option linter.unusedVariables false
set_option linter.unusedSimpArgs false
set_option linter.unusedSectionVars false
namespace Go.Proofs.Ytgfedlikbaailaa
open Go Go.VM

/-- Bytes that are turned, up to i of them; is one truly turned? -/
def tn (at_ : Int) (xs b : List UInt8) : Nat → List UInt8 × Bool
  | 0 => (b, false)
  | i + 1 => if 0 ≤ at_ ∧ at_ < (b.length : Int) - (i : Nat) then ((tn at_ xs b i).1.set (at_ + (i : Nat)).toNat ((tn at_ xs b i).1.getD (at_ + (i : Nat)).toNat 0 ^^^ xs.getD i 0), (tn at_ xs b i).2 || xs.getD i 0 != 0) else tn at_ xs b i

theorem tn_len (at_ : Int) (xs b : List UInt8) (i : Nat) : (tn at_ xs b i).1.length = b.length := by
  induction i with
  | zero => rfl
  | succ i ih => unfold tn; split <;> simp [ih]

/-- What is laid over the byte at j. -/
def dl (at_ : Int) (xs : List UInt8) (i j : Nat) : UInt8 := if 0 ≤ at_ ∧ at_.toNat ≤ j ∧ j < at_.toNat + i then xs.getD (j - at_.toNat) 0 else 0
theorem tn_get (at_ : Int) (xs b : List UInt8) (i : Nat) : ∀ j, j < b.length → (tn at_ xs b i).1.getD j 0 = b.getD j 0 ^^^ dl at_ xs i j := by
  induction i with
  | zero =>
    intro j hj
    have : dl at_ xs 0 j = 0 := by unfold dl; rw [if_neg (by omega)]
    rw [this]; simp [tn]
  | succ i ih =>
    intro j hj
    unfold tn
    split
    · rename_i h
      have hk : (at_ + (i : Nat)).toNat = at_.toNat + i := by omega
      rw [hk]
      simp only [List.getD_eq_getElem?_getD, List.getElem?_set, tn_len]
      by_cases he : at_.toNat + i = j
      · subst he
        rw [if_pos rfl, if_pos hj]
        have h1 := ih _ hj
        simp only [List.getD_eq_getElem?_getD] at h1
        have h2 : dl at_ xs i (at_.toNat + i) = 0 := by unfold dl; rw [if_neg (by omega)]
        have h3 : dl at_ xs (i + 1) (at_.toNat + i) = xs.getD i 0 := by
          unfold dl; rw [if_pos (by omega)]; congr 1; omega
        rw [h2] at h1
        simp only [List.getD_eq_getElem?_getD] at h3
        rw [Option.getD_some, h1, h3]; simp
      · rw [if_neg he]
        have h1 := ih _ hj
        simp only [List.getD_eq_getElem?_getD] at h1
        have h2 : dl at_ xs (i + 1) j = dl at_ xs i j := by
          unfold dl
          by_cases hc : 0 ≤ at_ ∧ at_.toNat ≤ j ∧ j < at_.toNat + i
          · rw [if_pos hc, if_pos (by omega)]
          · rw [if_neg hc, if_neg (by omega)]
        rw [h2]; exact h1
    · rename_i h
      have h2 : dl at_ xs (i + 1) j = dl at_ xs i j := by
        unfold dl
        by_cases hc : 0 ≤ at_ ∧ at_.toNat ≤ j ∧ j < at_.toNat + i
        · rw [if_pos hc, if_pos (by omega)]
        · rw [if_neg hc, if_neg (by omega)]
      rw [h2]; exact ih j hj
theorem tn_turned (at_ : Int) (xs b : List UInt8) (i : Nat) : (tn at_ xs b i).2 = false ↔ ∀ j, j < b.length → dl at_ xs i j = 0 := by
  induction i with
  | zero =>
    refine ⟨fun _ j _ => ?_, fun _ => rfl⟩
    unfold dl; rw [if_neg (by omega)]
  | succ i ih =>
    have other : ∀ j, j ≠ at_.toNat + i → dl at_ xs (i + 1) j = dl at_ xs i j := fun j hj => by
      unfold dl
      by_cases hc : 0 ≤ at_ ∧ at_.toNat ≤ j ∧ j < at_.toNat + i
      · rw [if_pos hc, if_pos (by omega)]
      · rw [if_neg hc, if_neg (by omega)]
    unfold tn
    split
    · rename_i h
      have h3 : dl at_ xs (i + 1) (at_.toNat + i) = xs.getD i 0 := by
        unfold dl; rw [if_pos (by omega)]; congr 1; omega
      have h4 : dl at_ xs i (at_.toNat + i) = 0 := by unfold dl; rw [if_neg (by omega)]
      simp only [Bool.or_eq_false_iff, ih, bne_eq_false_iff_eq]
      constructor
      · intro ⟨g1, g2⟩ j hj
        by_cases he : j = at_.toNat + i
        · rw [he, h3, g2]
        · rw [other j he, g1 j hj]
      · intro g
        refine ⟨fun j hj => ?_, ?_⟩
        · by_cases he : j = at_.toNat + i
          · rw [he, h4]
          · rw [← other j he]; exact g j hj
        · rw [← h3]; exact g _ (by omega)
    · rename_i h
      rw [ih]
      constructor
      · intro g j hj
        by_cases he : j = at_.toNat + i
        · unfold dl; rw [if_neg (by omega)]
        · rw [other j he]; exact g j hj
      · intro g j hj
        by_cases he : j = at_.toNat + i
        · unfold dl; rw [if_neg (by omega)]
        · rw [← other j he]; exact g j hj

/-- Turned bytes turn the sum. -/
theorem turn_crc (at_ : Int) (xs b : List UInt8) : (crc b = crc (tn at_ xs b 4).1) ↔ (tn at_ xs b 4).2 = false := by
  have hd : (tn at_ xs b 4).1 = List.zipWith (· ^^^ ·) b ((List.range b.length).map (dl at_ xs 4)) := by
    apply List.ext_getElem?
    intro j
    rcases Nat.lt_or_ge j b.length with h | h
    · have h1 := tn_get at_ xs b 4 j h
      have h2 : j < (tn at_ xs b 4).1.length := by rw [tn_len]; exact h
      rw [List.getD_eq_getElem?_getD, List.getD_eq_getElem?_getD, List.getElem?_eq_getElem h2, List.getElem?_eq_getElem h] at h1
      rw [List.getElem?_eq_getElem h2, List.getElem?_zipWith, List.getElem?_eq_getElem h, List.getElem?_map, List.getElem?_range h]
      simpa using h1
    · rw [List.getElem?_eq_none (by rw [tn_len]; exact h), List.getElem?_eq_none (by simp; omega)]
  have hl : b.length = ((List.range b.length).map (dl at_ xs 4)).length := by simp
  have hx := sum_xor b ((List.range b.length).map (dl at_ xs 4)) 0xffffffff#32 0#32 hl
  rw [BitVec.xor_zero, ← hd] at hx
  have hz := four_zero ((List.range b.length).map (dl at_ xs 4)) at_.toNat (fun j v hj hor => by
    rw [List.getElem?_map] at hj
    obtain ⟨j', g1, g2⟩ := Option.map_eq_some_iff.1 hj
    have := List.getElem?_eq_some_iff.1 g1
    obtain ⟨hlt, he⟩ := this
    rw [List.getElem_range] at he
    subst he
    rw [← g2]
    unfold dl
    rw [if_neg (by omega)])
  have h0 : (crc b = crc (tn at_ xs b 4).1) ↔ sum 0#32 ((List.range b.length).map (dl at_ xs 4)) = 0#32 := by
    unfold crc
    rw [hx]
    generalize sum 0#32 ((List.range b.length).map (dl at_ xs 4)) = d
    generalize sum 0xffffffff#32 b = s
    constructor
    · intro h
      have h' : s = s ^^^ d := BitVec.not_inj.1 h
      have : s ^^^ s = s ^^^ (s ^^^ d) := by rw [← h']
      rw [← BitVec.xor_assoc] at this
      simpa using this.symm
    · intro h
      rw [h]; simp
  rw [h0, hz, tn_turned]
  constructor
  · intro h j hj
    exact h _ (List.mem_map.2 ⟨j, List.mem_range.2 hj, rfl⟩)
  · intro h v hv
    obtain ⟨j, g1, g2⟩ := List.mem_map.1 hv
    rw [← g2]
    exact h j (List.mem_range.1 g1)
theorem turn_eq (at_ : Int) (xs b : List UInt8) : (((crc b).toNat : Int) == ((crc (tn at_ xs b 4).1).toNat : Int)) = !(tn at_ xs b 4).2 := by
  have h := turn_crc at_ xs b
  cases ht : (tn at_ xs b 4).2 with
  | false => rw [ht] at h; rw [h.2 rfl]; simp
  | true =>
    rw [ht] at h
    have hne : crc b ≠ crc (tn at_ xs b 4).1 := fun e => by cases h.1 e
    simp only [Bool.not_true, beq_eq_false_iff_ne, ne_eq]
    intro e
    apply hne
    apply BitVec.eq_of_toNat_eq
    omega
end Go.Proofs.Ytgfedlikbaailaa
