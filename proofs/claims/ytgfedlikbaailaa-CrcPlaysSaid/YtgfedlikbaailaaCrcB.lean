/-
  The sum of rows that are laid over one another is that of their sums; and turned bytes turn it.
-/
import Derived.Test.YtgfedlikbaailaaCrcA
set_option linter.all false
set_option linter.unusedVariables false
set_option linter.unusedSimpArgs false
set_option linter.unusedSectionVars false
namespace Go.Proofs.Ytgfedlikbaailaa
open Go Go.VM

theorem mask_eq (x : BitVec 32) : (0xedb88320#32 &&& -(x &&& 1#32)) = if x.getLsbD 0 then 0xedb88320#32 else 0#32 := by
  have h : x &&& 1#32 = if x.getLsbD 0 then 1#32 else 0#32 := by
    ext i hi
    rw [BitVec.getElem_and]
    by_cases h0 : i = 0
    · subst h0; cases hx : x.getLsbD 0 <;> simp_all [BitVec.getLsbD_eq_getElem]
    · have : (1#32)[i] = false := by
        rw [← BitVec.getLsbD_eq_getElem, BitVec.getLsbD_one]; simp [h0]
      rw [this]; split <;> simp [this]
  rw [h]
  split <;> rfl
theorem bit_xor (a b : BitVec 32) : bit (a ^^^ b) = bit a ^^^ bit b := by
  unfold bit
  rw [mask_eq, mask_eq, mask_eq, BitVec.ushiftRight_xor_distrib, BitVec.getLsbD_xor]
  cases a.getLsbD 0 <;> cases b.getLsbD 0 <;> simp
  · rw [BitVec.xor_assoc]
  · rw [BitVec.xor_assoc, BitVec.xor_assoc, BitVec.xor_comm (b >>> 1)]
  · rw [BitVec.xor_assoc, ← BitVec.xor_assoc 3988292384#32, BitVec.xor_comm 3988292384#32 (b >>> 1), BitVec.xor_assoc]; simp
theorem bits_xor (n : Nat) (a b : BitVec 32) : bits n (a ^^^ b) = bits n a ^^^ bits n b := by
  induction n with
  | zero => rfl
  | succ n ih => show bit _ = bit _ ^^^ bit _; rw [ih, bit_xor]
theorem ofNat_xor8 (x y : UInt8) : BitVec.ofNat 32 (x ^^^ y).toNat = BitVec.ofNat 32 x.toNat ^^^ BitVec.ofNat 32 y.toNat := by
  rw [UInt8.toNat_xor]
  apply BitVec.eq_of_toNat_eq
  have h1 := x.toNat_lt
  have h2 := y.toNat_lt
  have h3 : x.toNat ^^^ y.toNat < 2 ^ 32 := Nat.xor_lt_two_pow (by omega) (by omega)
  simp only [BitVec.toNat_xor, BitVec.toNat_ofNat]
  rw [Nat.mod_eq_of_lt h3, Nat.mod_eq_of_lt (by omega), Nat.mod_eq_of_lt (by omega)]
theorem byte_xor (r s : BitVec 32) (x y : UInt8) : byte (r ^^^ s) (x ^^^ y) = byte r x ^^^ byte s y := by
  unfold byte
  rw [← bits_xor, ofNat_xor8]
  congr 1
  rw [BitVec.xor_assoc, BitVec.xor_assoc, ← BitVec.xor_assoc s, BitVec.xor_comm s, BitVec.xor_assoc]
theorem sum_xor : ∀ (x y : List UInt8) (r s : BitVec 32), x.length = y.length → sum (r ^^^ s) (List.zipWith (· ^^^ ·) x y) = sum r x ^^^ sum s y := by
  intro x
  induction x with
  | nil => intro y r s h; cases y with
    | nil => rfl
    | cons _ _ => cases h
  | cons a x ih => intro y r s h; cases y with
    | nil => cases h
    | cons b y =>
      show sum (byte (r ^^^ s) (a ^^^ b)) (List.zipWith _ x y) = sum (byte r a) x ^^^ sum (byte s b) y
      rw [byte_xor]
      exact ih y _ _ (by simpa using h)

theorem bit_back {w : BitVec 32} (h : (bit w).toNat < 2 ^ 31) : w.toNat = 2 * (bit w).toNat := by
  unfold bit at h ⊢
  rw [mask_eq] at h ⊢
  cases h0 : w.getLsbD 0 with
  | true =>
    rw [h0] at h; simp only [if_true] at h
    exfalso
    have h31 : ((w >>> 1) ^^^ 0xedb88320#32).getLsbD 31 = true := by
      rw [BitVec.getLsbD_xor, BitVec.getLsbD_ushiftRight]
      have : w.getLsbD (1 + 31) = false := BitVec.getLsbD_of_ge w _ (by decide)
      rw [this]; rfl
    have := Nat.ge_two_pow_of_testBit h31
    omega
  | false =>
    simp only [Bool.false_eq_true, if_false, BitVec.xor_zero]
    rw [BitVec.toNat_ushiftRight, Nat.shiftRight_eq_div_pow]
    have : w.toNat.testBit 0 = false := h0
    rw [Nat.testBit_zero] at this
    simp at this
    omega
theorem bits_back : ∀ (n : Nat) {w : BitVec 32}, n ≤ 32 → (bits n w).toNat < 2 ^ (32 - n) → w.toNat = 2 ^ n * (bits n w).toNat := by
  intro n
  induction n with
  | zero => intro w _ _; show w.toNat = 1 * w.toNat; omega
  | succ n ih =>
    intro w hn h
    have hle : 2 ^ (32 - (n + 1)) ≤ 2 ^ 31 := Nat.pow_le_pow_right (by decide) (by omega)
    have h1 : (bits n w).toNat = 2 * (bits (n + 1) w).toNat := bit_back (Nat.lt_of_lt_of_le h hle)
    have hp : 2 ^ (32 - n) = 2 * 2 ^ (32 - (n + 1)) := by
      rw [show 32 - n = (32 - (n + 1)) + 1 by omega, Nat.pow_succ]; omega
    have h2 := ih (w := w) (by omega) (by rw [h1, hp]; omega)
    rw [h2, h1, Nat.pow_succ]
    rw [Nat.mul_assoc]
theorem bits_zero {n : Nat} (hn : n ≤ 32) {w : BitVec 32} (h : bits n w = 0#32) : w = 0#32 := by
  have := bits_back n (w := w) hn (by rw [h]; exact Nat.pow_pos (by decide))
  rw [h] at this
  exact BitVec.eq_of_toNat_eq (by simpa using this)
theorem bits_of_zero (n : Nat) : bits n 0#32 = 0#32 := by
  induction n with
  | zero => rfl
  | succ n ih => show bit _ = _; rw [ih]; rfl

theorem byte_zero (r : BitVec 32) : byte r 0 = bits 8 r := by unfold byte; simp
theorem sum_zeros : ∀ (l : List UInt8) (r : BitVec 32), (∀ v ∈ l, v = 0) → (sum r l = 0#32 ↔ r = 0#32) := by
  intro l
  induction l with
  | nil => intro r _; exact Iff.rfl
  | cons a l ih =>
    intro r h
    have ha : a = 0 := h a (by simp)
    show sum (byte r a) l = 0#32 ↔ _
    rw [ih _ (fun v hv => h v (by simp [hv])), ha, byte_zero]
    exact ⟨bits_zero (by decide), fun e => by rw [e, bits_of_zero]⟩
theorem sum_append (r : BitVec 32) (a b : List UInt8) : sum r (a ++ b) = sum (sum r a) b := by simp [sum]

theorem byte_toNat (x : UInt8) : (BitVec.ofNat 32 x.toNat).toNat = x.toNat := by
  have := x.toNat_lt
  rw [BitVec.toNat_ofNat, Nat.mod_eq_of_lt (by omega)]
theorem short : ∀ (n : Nat) (l : List UInt8) (k : Nat), l.length = n → n + k ≤ 4 → (sum 0#32 l).toNat < 2 ^ (8 * k) → k ≤ 3 → sum 0#32 l = 0#32 ∧ ∀ v ∈ l, v = 0 := by
  intro n
  induction n with
  | zero => intro l k hl _ _ _; cases l with
    | nil => exact ⟨rfl, fun v hv => by cases hv⟩
    | cons _ _ => cases hl
  | succ n ih =>
    intro l k hl hk hs hk3
    obtain ⟨l', x, rfl⟩ : ∃ l' x, l = l' ++ [x] := ⟨l.dropLast, l.getLast (by intro e; rw [e] at hl; cases hl), (List.dropLast_concat_getLast _).symm⟩
    have hl' : l'.length = n := by simpa using hl
    rw [sum_append] at hs ⊢
    have e : sum (sum 0#32 l') [x] = bits 8 (sum 0#32 l' ^^^ BitVec.ofNat 32 x.toNat) := rfl
    rw [e] at hs ⊢
    have h24 : 2 ^ (8 * k) ≤ 2 ^ 24 := Nat.pow_le_pow_right (by decide) (by omega)
    have hb := bits_back 8 (w := sum 0#32 l' ^^^ BitVec.ofNat 32 x.toNat) (by decide) (Nat.lt_of_lt_of_le hs h24)
    have hx := x.toNat_lt
    have hp : 2 ^ (8 * (k + 1)) = 256 * 2 ^ (8 * k) := by rw [show 8 * (k + 1) = 8 * k + 8 by omega, Nat.pow_add]; omega
    have hz : sum 0#32 l' = 0#32 ∧ ∀ v ∈ l', v = 0 := by
      by_cases h0 : n = 0
      · subst h0
        cases l' with
        | nil => exact ⟨rfl, fun v hv => by cases hv⟩
        | cons _ _ => cases hl'
      · refine ih l' (k + 1) hl' (by omega) ?_ (by omega)
        have h1 : (sum 0#32 l' ^^^ BitVec.ofNat 32 x.toNat).toNat < 2 ^ (8 * (k + 1)) := by rw [hb, hp]; omega
        have h2 : (BitVec.ofNat 32 x.toNat).toNat < 2 ^ (8 * (k + 1)) := by
          rw [byte_toNat, hp]
          have : 0 < 2 ^ (8 * k) := Nat.pow_pos (by decide)
          omega
        have h3 : sum 0#32 l' = (sum 0#32 l' ^^^ BitVec.ofNat 32 x.toNat) ^^^ BitVec.ofNat 32 x.toNat := by rw [BitVec.xor_assoc]; simp
        rw [h3, BitVec.toNat_xor]
        exact Nat.xor_lt_two_pow h1 h2
    rw [hz.1, BitVec.zero_xor, byte_toNat] at hb
    rw [hz.1, BitVec.zero_xor]
    have hx0 : x.toNat = 0 := by omega
    have hx1 : x = 0 := by
      have : x.toNat = (0 : UInt8).toNat := by rw [hx0]; rfl
      exact UInt8.toNat_inj.1 this
    refine ⟨by rw [hx1]; exact bits_of_zero 8, fun v hv => ?_⟩
    rcases List.mem_append.1 hv with h | h
    · exact hz.2 v h
    · rw [List.mem_singleton.1 h, hx1]

/-- Bytes that are none but for four beside one another: their sum is none only if they all are. -/
theorem four_zero (l : List UInt8) (p : Nat) (h : ∀ (j : Nat) (v : UInt8), l[j]? = some v → (j < p ∨ p + 4 ≤ j) → v = 0) : sum 0#32 l = 0#32 ↔ ∀ v ∈ l, v = 0 := by
  refine ⟨fun hs => ?_, fun hz => (sum_zeros l 0#32 hz).2 rfl⟩
  have e : l = l.take p ++ ((l.drop p).take 4 ++ l.drop (p + 4)) := by
    rw [← List.drop_drop, List.take_append_drop, List.take_append_drop]
  have z1 : ∀ v ∈ l.take p, v = 0 := fun v hv => by
    obtain ⟨j, hj⟩ := List.getElem?_of_mem hv
    rw [List.getElem?_take] at hj
    split at hj
    · exact h j v hj (by omega)
    · cases hj
  have z3 : ∀ v ∈ l.drop (p + 4), v = 0 := fun v hv => by
    obtain ⟨j, hj⟩ := List.getElem?_of_mem hv
    rw [List.getElem?_drop] at hj
    exact h _ v hj (by omega)
  rw [e, sum_append, (sum_zeros _ 0#32 z1).2 rfl, sum_append, sum_zeros _ _ z3] at hs
  have hlen : ((l.drop p).take 4).length ≤ 4 := by rw [List.length_take]; omega
  have z2 := (short _ _ 0 rfl (by omega) (by rw [hs]; decide) (by omega)).2
  intro v hv
  rw [e] at hv
  rcases List.mem_append.1 hv with h1 | h1
  · exact z1 v h1
  · rcases List.mem_append.1 h1 with h1 | h1
    · exact z2 v h1
    · exact z3 v h1
end Go.Proofs.Ytgfedlikbaailaa
