/-
  Numbers that are read.
-/
import Derived.Test.YtpebkojodmjleaaTaB
set_option linter.all false
set_option linter.unusedVariables false
set_option linter.unusedSimpArgs false
set_option linter.unusedSectionVars false
namespace Go.Proofs.Ytpebkojodmjleaa
open Go Go.VM

/-- A number that comes: what it is, the error, and what is left (if there is none). -/
def numF : Nat → Nat → List UInt8 → Nat × Int × List UInt8
  | _, _, [] => (0, 10, [])
  | i, u, c :: l => if i = 9 ∧ c.toNat > 1 then (0, 11, []) else if c.toNat = 0 ∧ i > 0 then (0, 11, []) else if c.toNat < 128 then (u + c.toNat * 128 ^ i, 0, l) else numF (i + 1) (u + (c.toNat % 128) * 128 ^ i) l
theorem numF_enc (rest : List UInt8) : ∀ (w i u : Nat), (w > 0 ∨ i = 0) → w * 128 ^ i < 18446744073709551616 → numF i u (enc w ++ rest) = (u + w * 128 ^ i, 0, rest) := by
  intro w
  induction w using Nat.strongRecOn with
  | ind w ih =>
    intro i u h0 hlt
    have hp : 0 < 128 ^ i := Nat.pow_pos (by decide)
    by_cases h : w < 128
    · rw [enc_lo h]
      show numF i u (UInt8.ofNat w :: rest) = _
      unfold numF
      rw [u8_low h, if_neg, if_neg (by omega), if_pos h]
      rintro ⟨rfl, h1⟩
      have : (128 : Nat) ^ 9 = 9223372036854775808 := rfl
      rw [this] at hlt
      omega
    · rw [enc_hi h]
      show numF i u (UInt8.ofNat (w % 128 + 128) :: (enc (w / 128) ++ rest)) = _
      have hc : (UInt8.ofNat (w % 128 + 128)).toNat = w % 128 + 128 := by rw [UInt8.toNat_ofNat']; omega
      unfold numF
      rw [hc, if_neg, if_neg (by omega), if_neg (by omega)]
      · have hps : 128 ^ (i + 1) = 128 ^ i * 128 := Nat.pow_succ ..
        have hm : w / 128 * (128 ^ i * 128) ≤ w * 128 ^ i := by
          rw [Nat.mul_comm (128 ^ i) 128, ← Nat.mul_assoc]
          exact Nat.mul_le_mul_right _ (Nat.div_mul_le_self w 128)
        rw [ih (w / 128) (by omega) (i + 1) _ (.inl (by omega)) (by rw [hps]; omega), hps]
        congr 1
        have e : (w % 128 + 128) % 128 = w % 128 := by omega
        rw [e]
        have e2 : w * 128 ^ i = (w % 128) * 128 ^ i + w / 128 * (128 ^ i * 128) := by
          rw [Nat.mul_comm (128 ^ i) 128, ← Nat.mul_assoc, ← Nat.add_mul]
          congr 1; omega
        omega
      · rintro ⟨rfl, _⟩
        have : (128 : Nat) ^ 9 = 9223372036854775808 := rfl
        rw [this] at hlt
        omega
theorem numF_dec : ∀ (bs : List UInt8) (i u v : Nat) (rest : List UInt8), i ≤ 9 → numF i u bs = (v, 0, rest) → ∃ w, bs = enc w ++ rest ∧ v = u + w * 128 ^ i ∧ (w > 0 ∨ i = 0) ∧ w * 128 ^ i < 18446744073709551616 := by
  intro bs
  induction bs with
  | nil => intro i u v rest _ h; unfold numF at h; simp at h
  | cons c l ih =>
    intro i u v rest hi h
    have hc := c.toNat_lt
    unfold numF at h
    by_cases h1 : i = 9 ∧ c.toNat > 1
    · rw [if_pos h1] at h; simp at h
    rw [if_neg h1] at h
    by_cases h2 : c.toNat = 0 ∧ i > 0
    · rw [if_pos h2] at h; simp at h
    rw [if_neg h2] at h
    have hpi : i < 9 → 128 ^ i ≤ 72057594037927936 := fun h => by
      have : 128 ^ i ≤ 128 ^ 8 := Nat.pow_le_pow_right (by decide) (by omega)
      exact this
    have hp9 : (128 : Nat) ^ 9 = 9223372036854775808 := rfl
    by_cases h3 : c.toNat < 128
    · rw [if_pos h3] at h
      injection h with e1 e2; injection e2 with e2 e3
      subst e1; subst e3
      refine ⟨c.toNat, ?_, rfl, by omega, ?_⟩
      · rw [enc_lo h3]
        simp
      · by_cases h9 : i = 9
        · subst h9
          rw [hp9]
          have : c.toNat ≤ 1 := by omega
          omega
        · have := hpi (by omega)
          have h4 : c.toNat * 128 ^ i ≤ 127 * 72057594037927936 := Nat.mul_le_mul (by omega) this
          omega
    · rw [if_neg h3] at h
      have hi8 : i < 9 := by omega
      obtain ⟨w, e1, e2, e3, e4⟩ := ih (i + 1) _ v rest (by omega) h
      have hw : w > 0 := by omega
      have hps : 128 ^ (i + 1) = 128 ^ i * 128 := Nat.pow_succ ..
      have hwd : (c.toNat % 128 + w * 128) / 128 = w := by omega
      have hwm : (c.toNat % 128 + w * 128) % 128 = c.toNat % 128 := by omega
      have hmul : (c.toNat % 128 + w * 128) * 128 ^ i = (c.toNat % 128) * 128 ^ i + w * 128 ^ (i + 1) := by
        rw [hps, Nat.add_mul, Nat.mul_assoc, Nat.mul_comm 128]
      refine ⟨c.toNat % 128 + w * 128, ?_, by rw [e2, hmul]; omega, .inl (by omega), ?_⟩
      · rw [enc_hi (by omega), hwd, hwm, e1]
        show c :: (enc w ++ rest) = UInt8.ofNat (c.toNat % 128 + 128) :: (enc w ++ rest)
        rw [show c.toNat % 128 + 128 = c.toNat by omega]
        simp
      · rw [hmul]
        have h5 : (c.toNat % 128) * 128 ^ i < 128 ^ (i + 1) := by
          rw [hps, Nat.mul_comm (128 ^ i) 128]
          exact Nat.mul_lt_mul_of_pos_right (Nat.mod_lt _ (by decide)) (Nat.pow_pos (by decide))
        by_cases h8 : i = 8
        · have e9 : 128 ^ (i + 1) = 9223372036854775808 := by rw [h8]
          rw [e9] at e4 h5
          rw [e9]
          omega
        · have h6 : 128 ^ (i + 1) ≤ 72057594037927936 := by
            have : 128 ^ (i + 1) ≤ 128 ^ 8 := Nat.pow_le_pow_right (by decide) (by omega)
            exact this
          -- w < 2^64 / 128^(i+1), a multiple
          have hdiv : 128 ^ (i + 1) * (2 * 128 ^ (8 - i)) = 18446744073709551616 := by
            rw [Nat.mul_comm 2, ← Nat.mul_assoc, ← Nat.pow_add, show i + 1 + (8 - i) = 9 by omega]
          have hlt : w < 2 * 128 ^ (8 - i) := by
            rw [← hdiv, Nat.mul_comm (128 ^ (i + 1))] at e4
            exact Nat.lt_of_mul_lt_mul_right e4
          have : (w + 1) * 128 ^ (i + 1) ≤ 18446744073709551616 := by
            rw [← hdiv, Nat.mul_comm (128 ^ (i + 1))]
            exact Nat.mul_le_mul_right _ hlt
          rw [Nat.add_mul] at this
          omega
theorem numF_lt {bs rest : List UInt8} {v : Nat} (h : numF 0 0 bs = (v, 0, rest)) : v < 18446744073709551616 ∧ bs = enc v ++ rest := by
  obtain ⟨w, e1, e2, _, e4⟩ := numF_dec bs 0 0 v rest (by decide) h
  simp at e2 e4
  subst e2
  exact ⟨e4, e1⟩
end Go.Proofs.Ytpebkojodmjleaa
