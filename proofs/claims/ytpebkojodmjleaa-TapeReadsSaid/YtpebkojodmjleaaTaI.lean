/-
  What is read is what was written.
-/
import Derived.Test.YtpebkojodmjleaaTaH
set_option linter.all false
set_option linter.unusedVariables false
set_option linter.unusedSimpArgs false
set_option linter.unusedSectionVars false
namespace Go.Proofs.Ytpebkojodmjleaa
open Go Go.VM

theorem numF_of {u : Nat} (hu : u < 18446744073709551616) (rest : List UInt8) : numF 0 0 (enc u ++ rest) = (u, 0, rest) := by
  have := numF_enc rest u 0 0 (.inr rfl) (by simpa using hu)
  simpa using this
theorem rNum_enc {u : Nat} (hu : u < 18446744073709551616) (rest : List UInt8) (most : Nat) (hm : u ≤ most) : rNum (enc u ++ rest) 0 most = (u, rest, 0) := by
  unfold rNum
  rw [numF_of hu, if_neg (by simp), if_neg (by simp), if_neg (by dsimp only; omega)]
theorem maxU_eq : maxU = 18446744073709551615 := rfl
theorem rSig_enc {n : Int} (h0 : -9223372036854775808 ≤ n) (h1 : n ≤ 9223372036854775807) (rest : List UInt8) : rSig (enc (zn n) ++ rest) 0 n n = (n, rest, 0) := by
  obtain ⟨g1, g2⟩ := zn_lt h0 h1
  unfold rSig
  rw [rNum_enc g1 rest maxU (by rw [maxU_eq]; omega)]
  dsimp only
  rw [g2, zag_zig, if_neg (by simp), if_neg (by omega)]
theorem rTxt_enc {s : List UInt8} (hs : s.length < 18446744073709551616) (rest : List UInt8) : rTxt (enc s.length ++ s ++ rest) 0 s.length = (s, rest, 0) := by
  unfold rTxt
  rw [List.append_assoc, rNum_enc hs (s ++ rest) maxU (by rw [maxU_eq]; omega)]
  dsimp only
  rw [if_neg (by simp), if_neg (by omega), if_neg (by rw [List.length_append]; omega), List.take_left, List.drop_left]
theorem enc_bool (b : Bool) : enc b.toNat = [UInt8.ofNat b.toNat] := by rw [enc_lo (by cases b <;> decide)]
theorem rFlg_enc (b : Bool) (rest : List UInt8) : rFlg (enc b.toNat ++ rest) 0 = (b, rest, 0) := by
  rw [enc_bool]
  cases b <;> rfl
theorem rNum_back {bs : List UInt8} {e : Int} (h : (rNum bs e maxU).2.2 = 0) : e = 0 ∧ bs = enc (rNum bs e maxU).1 ++ (rNum bs e maxU).2.1 := by
  unfold rNum at h ⊢
  by_cases h0 : e = 0
  · subst h0
    rw [if_neg (by simp)] at h ⊢
    by_cases h1 : (numF 0 0 bs).2.1 = 0
    · rw [if_neg (by simp [h1])] at h ⊢
      obtain ⟨g1, g2⟩ := numF_lt (bs := bs) (v := (numF 0 0 bs).1) (rest := (numF 0 0 bs).2.2) (by rw [← h1])
      rw [if_neg (by rw [maxU_eq]; omega)]
      exact ⟨rfl, g2⟩
    · rw [if_pos h1] at h
      exact absurd h h1
  · rw [if_pos h0] at h
    exact absurd h h0
def minI : Int := -9223372036854775808
def maxI : Int := 9223372036854775807
theorem rSig_in (bs : List UInt8) (e : Int) : -9223372036854775808 ≤ (rSig bs e minI maxI).1 ∧ (rSig bs e minI maxI).1 ≤ 9223372036854775807 := by
  unfold rSig
  split
  · dsimp only; omega
  split
  · dsimp only; omega
  · rename_i h
    have : minI = -9223372036854775808 := rfl
    have : maxI = 9223372036854775807 := rfl
    dsimp only; omega
theorem rSig_back {bs : List UInt8} {e : Int} (h : (rSig bs e minI maxI).2.2 = 0) : e = 0 ∧ bs = enc (zn (rSig bs e minI maxI).1) ++ (rSig bs e minI maxI).2.1 := by
  unfold rSig at h ⊢
  by_cases h1 : (rNum bs e maxU).2.2 = 0
  · rw [if_neg (by simp [h1])] at h ⊢
    by_cases h2 : zag (rNum bs e maxU).1 < minI ∨ zag (rNum bs e maxU).1 > maxI
    · rw [if_pos h2] at h; simp at h
    · rw [if_neg h2]
      have hz : zn (zag (rNum bs e maxU).1) = (rNum bs e maxU).1 := by
        unfold zn; rw [zig_zag (by omega)]; simp
      dsimp only
      rw [hz]
      exact rNum_back h1
  · rw [if_pos h1] at h
    exact absurd h h1
theorem rTxt_short (bs : List UInt8) (e most : Int) : (rTxt bs e most).1.length ≤ bs.length ∧ (rTxt bs e most).2.1.length ≤ bs.length := by
  have := rNum_short bs e maxU
  unfold rTxt
  split
  · exact ⟨Nat.zero_le _, this⟩
  split
  · exact ⟨Nat.zero_le _, Nat.zero_le _⟩
  split
  · exact ⟨Nat.zero_le _, Nat.zero_le _⟩
  · dsimp only
    rw [List.length_take, List.length_drop]; omega
theorem rTxt_back {bs : List UInt8} {e most : Int} (h : (rTxt bs e most).2.2 = 0) : e = 0 ∧ bs = enc (rTxt bs e most).1.length ++ (rTxt bs e most).1 ++ (rTxt bs e most).2.1 := by
  unfold rTxt at h ⊢
  by_cases h1 : (rNum bs e maxU).2.2 = 0
  · rw [if_neg (by simp [h1])] at h ⊢
    by_cases h2 : most < 0 ∨ ((rNum bs e maxU).1 : Int) > most
    · rw [if_pos h2] at h; simp at h
    · rw [if_neg h2] at h ⊢
      by_cases h3 : (rNum bs e maxU).1 > (rNum bs e maxU).2.1.length
      · rw [if_pos h3] at h; simp at h
      · rw [if_neg h3]
        obtain ⟨g1, g2⟩ := rNum_back h1
        refine ⟨g1, ?_⟩
        dsimp only
        rw [List.length_take, List.append_assoc, List.take_append_drop, Nat.min_eq_left (by omega)]
        exact g2
  · rw [if_pos h1] at h
    exact absurd h h1
theorem rSig_short (bs : List UInt8) (e a b : Int) : (rSig bs e a b).2.1.length ≤ bs.length := by
  have := rNum_short bs e maxU
  unfold rSig
  split
  · exact this
  split
  · exact Nat.zero_le _
  · exact this
theorem rFlg_short (bs : List UInt8) (e : Int) : (rFlg bs e).2.1.length ≤ bs.length := by
  unfold rFlg
  split
  · exact Nat.le_refl _
  split
  · exact Nat.zero_le _
  split
  · exact Nat.zero_le _
  · exact Nat.le_succ _
theorem rFlg_back {bs : List UInt8} {e : Int} (h : (rFlg bs e).2.2 = 0) : e = 0 ∧ bs = enc (rFlg bs e).1.toNat ++ (rFlg bs e).2.1 := by
  unfold rFlg at h ⊢
  by_cases h0 : e = 0
  · rw [if_neg (by simp [h0])] at h ⊢
    refine ⟨h0, ?_⟩
    cases bs with
    | nil => simp at h
    | cons c l =>
      dsimp only at h ⊢
      by_cases h1 : c.toNat > 1
      · rw [if_pos h1] at h; simp at h
      · rw [if_neg h1]
        dsimp only
        rw [enc_bool]
        by_cases h2 : c.toNat = 1
        · have : c = 1 := UInt8.toNat.inj h2
          subst this; rfl
        · have : c = 0 := UInt8.toNat.inj (by show c.toNat = 0; omega)
          subst this; rfl
  · rw [if_pos h0] at h
    exact absurd h h0
/-- What must hold of a reader of `b`, and of what is written again. -/
def Mir (b bs : List UInt8) (e : Int) (cs : List UInt8) : Prop := e ≠ 0 ∨ b = cs ++ bs
theorem Mir.step {b bs bs' cs new : List UInt8} {e e' : Int} (h : Mir b bs e cs) (h2 : e' = 0 → e = 0 ∧ bs = new ++ bs') : Mir b bs' e' (cs ++ new) := by
  rcases Classical.em (e' = 0) with h0 | h0
  · obtain ⟨g1, g2⟩ := h2 h0
    rcases h with h | h
    · exact absurd g1 h
    · exact .inr (by rw [h, g2, List.append_assoc])
  · exact .inl h0
theorem wrs_drop {l : List Ou} {i : Nat} {o : Ou} (h : l[i]? = some o) : wrs (l.drop i) = outB o ++ wrs (l.drop (i + 1)) := by
  obtain ⟨hlt, he⟩ := List.getElem?_eq_some_iff.1 h
  unfold wrs
  rw [List.drop_eq_getElem_cons hlt, he]; rfl
end Go.Proofs.Ytpebkojodmjleaa
