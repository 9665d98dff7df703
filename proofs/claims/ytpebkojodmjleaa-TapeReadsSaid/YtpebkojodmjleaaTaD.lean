/-
  A reader's functions.
-/
import Derived.Test.YtpebkojodmjleaaTaC
set_option linter.all false
set_option linter.unusedVariables false
set_option linter.unusedSimpArgs false
set_option linter.unusedSectionVars false
namespace Go.Proofs.Ytpebkojodmjleaa
open Go Go.VM

def rdO (x : Ext) (bs : List UInt8) (e : Int) : HObj := .pcells [.sl x bs.length (bc bs), .int .i64 e]
theorem u8_and127 : ∀ c : Nat, c < 256 → IntKind.u8.wrap ((BitVec.ofInt IntKind.u8.bits (c : Int) &&& ~~~ BitVec.ofInt IntKind.u8.bits 128).toNat : Int) = ((c % 128 : Nat) : Int) := by decide +kernel
theorem u64_orN {a b : Nat} (ha : a < 18446744073709551616) (hb : b < 18446744073709551616) : IntKind.u64.wrap ((BitVec.ofInt IntKind.u64.bits (a : Int) ||| BitVec.ofInt IntKind.u64.bits (b : Int)).toNat : Int) = ((a ||| b : Nat) : Int) := by
  have e : ∀ n : Nat, n < 18446744073709551616 → BitVec.ofInt 64 (n : Int) = BitVec.ofNat 64 n := fun n _ => by rw [BitVec.ofInt_natCast]
  show IntKind.u64.wrap ((BitVec.ofInt 64 (a : Int) ||| BitVec.ofInt 64 (b : Int)).toNat : Int) = _
  rw [e a ha, e b hb, BitVec.toNat_or, BitVec.toNat_ofNat, BitVec.toNat_ofNat, Nat.mod_eq_of_lt ha, Nat.mod_eq_of_lt hb, wrap_u64_emod]
  have : a ||| b < 2 ^ 64 := Nat.or_lt_two_pow ha hb
  omega
theorem pow128 (i : Nat) : 2 ^ (7 * i) = 128 ^ i := by rw [Nat.pow_mul]
theorem or_add {u x i : Nat} (h : u < 128 ^ i) : u ||| x * 128 ^ i = u + x * 128 ^ i := by
  have := Nat.shiftLeft_add_eq_or_of_lt (a := x) (b := u) (i := 7 * i) (by rw [pow128]; exact h)
  rw [Nat.shiftLeft_eq, pow128] at this
  rw [Nat.or_comm, ← this, Nat.add_comm]
set_option maxHeartbeats 1000000 in
theorem num_ok (p : Nat) (x : Ext) (bs : List UInt8) (hb : bs.length ≤ 1000000) (e : Int) (H : Heap) (ht : hget H p = rdO x bs e) :
    Has (EE env (.fn 33) [.ptr p 0] H) (fun y => y.1 = .pv (.tup [.int .u64 ((numF 0 0 bs).1 : Nat), .int .i64 (numF 0 0 bs).2.1]) ∧
      (((numF 0 0 bs).2.1 = 0 ∧ ∃ x', y.2 = hset H p (rdO x' (numF 0 0 bs).2.2 e)) ∨ ((numF 0 0 bs).2.1 ≠ 0 ∧ y.2 = H))) := by
  refine EE_has ?_
  refine hgetK_has _ ht ?_
  refine getK_has rfl ?_
  refine loopK_has ?_
  refine iterE_loop (σ := Nat × Nat) (fun s => bs.length - s.1) (fun s => [(0, .ptr p 0), (4, .pv (.int .u64 (s.2 : Int))), (10, .pv (.sl x bs.length (bc bs))), (11, .pv (.int .i64 bs.length)), (12, .pv (.int .i64 s.1))]) (fun _ => H)
    (fun s => s.1 ≤ bs.length ∧ s.1 ≤ 9 ∧ s.2 < 128 ^ s.1 ∧ numF 0 0 bs = numF s.1 s.2 (bs.drop s.1)) (fun ⟨i, u⟩ ⟨hi, hi9, hu, he⟩ r => ?_) (0, 0) ⟨Nat.zero_le _, by decide, by decide, by rw [List.drop_zero]⟩ ⟨rfl, rfl, rfl, rfl, rfl, trivial⟩ rfl
  dsimp only at hi hi9 hu he ⊢
  refine boolK_dec (fun hc => ?_) (fun hc => ?_)
  · have hlt : i < bs.length := by omega
    obtain ⟨c, hcg⟩ : ∃ c, bs[i]? = some c := ⟨_, List.getElem?_eq_getElem hlt⟩
    have hd : bs.drop i = c :: bs.drop (i + 1) := by
      rw [List.drop_eq_getElem_cons hlt]
      rw [List.getElem?_eq_getElem hlt] at hcg; injection hcg with hcg; rw [hcg]
    have hc256 := c.toNat_lt
    rw [hd] at he
    have hp := pow128 i
    have hpl : 128 ^ i ≤ 9223372036854775808 := by
      have : 128 ^ i ≤ 128 ^ 9 := Nat.pow_le_pow_right (by decide) hi9
      exact this
    have hpl8 : i < 9 → 128 ^ i ≤ 72057594037927936 := fun h => by
      have : 128 ^ i ≤ 128 ^ 8 := Nat.pow_le_pow_right (by decide) (by omega)
      exact this
    refine needK_has (by (first | rfl | (simp; done) | (simp; omega))) ?_
    refine getK_has (bc_get hcg) ?_
    refine eqK_has_eq _ (u8_and127 _ (by omega)) ?_
    refine eqK_has_eq ((c.toNat % 128 : Nat) : Int) ((wrap_u64_emod _).trans (by omega)) ?_
    refine eqK_has_eq ((7 * i : Nat) : Int) ((wrap_i64 (by omega) (by omega)).trans (by omega)) ?_
    refine needK_has (by simp; omega) ?_
    by_cases h1 : i = 9 ∧ c.toNat > 1
    · refine eqK_has ?_
      refine eqK_has ?_
      refine boolK_beq_t (by omega) ?_
      refine boolK_dec_t (by omega) ?_
      have hn : numF 0 0 bs = (0, 11, []) := by rw [he]; unfold numF; rw [if_pos h1]
      rw [hn]
      refine Has.intro (Has.intro ?_)
      exact ⟨rfl, .inr ⟨by decide, rfl⟩⟩
    · have hx : (c.toNat % 128) * 128 ^ i < 18446744073709551616 := by
        by_cases h9 : i = 9
        · subst h9
          have : (128 : Nat) ^ 9 = 9223372036854775808 := rfl
          rw [this]; omega
        · have := hpl8 (by omega)
          have h4 : (c.toNat % 128) * 128 ^ i ≤ 127 * 72057594037927936 := Nat.mul_le_mul (by omega) this
          omega
      have hmin : min ((7 * i : Nat) : Int).toNat IntKind.u64.bits = 7 * i := by show min (7 * i) 64 = 7 * i; omega
      refine eqK_has_eq (((c.toNat % 128) * 128 ^ i : Nat) : Int) (by
        rw [hmin, wrap_u64_emod, show (2 : Int) ^ (7 * i) = ((2 ^ (7 * i) : Nat) : Int) by simp, hp, ← Int.natCast_mul]
        omega) ?_
      refine eqK_has_eq ((u + (c.toNat % 128) * 128 ^ i : Nat) : Int) (by rw [u64_orN (by omega) hx, or_add hu]) ?_
      have next : ¬ (c.toNat = 0 ∧ i > 0) → ¬ c.toNat < 128 → numF 0 0 bs = numF (i + 1) (u + (c.toNat % 128) * 128 ^ i) (bs.drop (i + 1)) := fun h2 h3 => by
        rw [he]; conv => lhs; unfold numF
        rw [if_neg h1, if_neg h2, if_neg h3]
      have good : ¬ (c.toNat = 0 ∧ i > 0) → c.toNat < 128 → numF 0 0 bs = (u + c.toNat * 128 ^ i, 0, bs.drop (i + 1)) := fun h2 h3 => by
        rw [he]; conv => lhs; unfold numF
        rw [if_neg h1, if_neg h2, if_pos h3]
      have bad : c.toNat = 0 ∧ i > 0 → numF 0 0 bs = (0, 11, []) := fun h2 => by
        rw [he]; conv => lhs; unfold numF
        rw [if_neg h1, if_pos h2]
      have hps : 128 ^ (i + 1) = 128 ^ i * 128 := Nat.pow_succ ..
      have hnu : u + (c.toNat % 128) * 128 ^ i < 128 ^ (i + 1) := by
        rw [hps, Nat.mul_comm (128 ^ i) 128]
        have : (c.toNat % 128) * 128 ^ i ≤ 127 * 128 ^ i := Nat.mul_le_mul_right _ (by omega)
        omega
      refine boolK_beq (fun h9 => ?_) (fun h9 => ?_)
      · refine boolK_dec_f (by omega) ?_
        refine boolK_dec_t (by omega) ?_
        refine boolK_beq (fun h0 => ?_) (fun h0 => ?_)
        · refine boolK_dec (fun h2 => ?_) (fun h2 => ?_)
          · (first | (rw [bad (by omega)]; refine Has.intro (Has.intro ?_); exact ⟨rfl, .inr ⟨by decide, rfl⟩⟩) | (have hg := good (by omega) (by omega); rw [hg]; have hcm : c.toNat % 128 = c.toNat := (by omega); rw [hcm]; refine hgetK_has _ ht ?_; refine getK_has rfl ?_; refine eqK_has_eq _ (i64_succ (by omega)) ?_; refine needK_has (by simp; omega) ?_; refine eqK_has_eq (bc (bs.drop (i + 1))) (by rw [mulE_eq, mulE_eq, Nat.mul_one, Nat.mul_one]; show ((bc bs).drop (i + 1)).take (bs.length - (i + 1)) = _; rw [bc_drop]; exact List.take_of_length_le (by rw [bc_len, List.length_drop]; exact Nat.le_refl _)) ?_; refine hgetK_has _ ht ?_; refine needK_has rfl ?_; refine eqK_has ?_; refine Has.intro (Has.intro ?_); refine ⟨rfl, .inl ⟨rfl, x.part true false, ?_⟩⟩; show hset H p _ = hset H p (.pcells [.sl _ (bs.drop (i + 1)).length _, .int .i64 e]); rw [List.length_drop]; rfl) | (refine eqK_has_eq _ (i64_succ (by omega)) ?_; refine Has.intro ⟨(i + 1, u + (c.toNat % 128) * 128 ^ i), ⟨hlt, (by dsimp only; omega), hnu, next (by omega) (by omega)⟩, (by dsimp only; omega), ⟨rfl, rfl, rfl, rfl, rfl, trivial⟩, rfl⟩) | (exfalso; omega))
          · exfalso; omega
        · refine boolK_dec_t (by omega) ?_
          (first | (rw [bad (by omega)]; refine Has.intro (Has.intro ?_); exact ⟨rfl, .inr ⟨by decide, rfl⟩⟩) | (have hg := good (by omega) (by omega); rw [hg]; have hcm : c.toNat % 128 = c.toNat := (by omega); rw [hcm]; refine hgetK_has _ ht ?_; refine getK_has rfl ?_; refine eqK_has_eq _ (i64_succ (by omega)) ?_; refine needK_has (by simp; omega) ?_; refine eqK_has_eq (bc (bs.drop (i + 1))) (by rw [mulE_eq, mulE_eq, Nat.mul_one, Nat.mul_one]; show ((bc bs).drop (i + 1)).take (bs.length - (i + 1)) = _; rw [bc_drop]; exact List.take_of_length_le (by rw [bc_len, List.length_drop]; exact Nat.le_refl _)) ?_; refine hgetK_has _ ht ?_; refine needK_has rfl ?_; refine eqK_has ?_; refine Has.intro (Has.intro ?_); refine ⟨rfl, .inl ⟨rfl, x.part true false, ?_⟩⟩; show hset H p _ = hset H p (.pcells [.sl _ (bs.drop (i + 1)).length _, .int .i64 e]); rw [List.length_drop]; rfl) | (refine eqK_has_eq _ (i64_succ (by omega)) ?_; refine Has.intro ⟨(i + 1, u + (c.toNat % 128) * 128 ^ i), ⟨hlt, (by dsimp only; omega), hnu, next (by omega) (by omega)⟩, (by dsimp only; omega), ⟨rfl, rfl, rfl, rfl, rfl, trivial⟩, rfl⟩) | (exfalso; omega))
      · refine boolK_dec (fun h3 => ?_) (fun h3 => ?_)
        · refine boolK_beq (fun h0 => ?_) (fun h0 => ?_)
          · refine boolK_dec (fun h2 => ?_) (fun h2 => ?_)
            · (first | (rw [bad (by omega)]; refine Has.intro (Has.intro ?_); exact ⟨rfl, .inr ⟨by decide, rfl⟩⟩) | (have hg := good (by omega) (by omega); rw [hg]; have hcm : c.toNat % 128 = c.toNat := (by omega); rw [hcm]; refine hgetK_has _ ht ?_; refine getK_has rfl ?_; refine eqK_has_eq _ (i64_succ (by omega)) ?_; refine needK_has (by simp; omega) ?_; refine eqK_has_eq (bc (bs.drop (i + 1))) (by rw [mulE_eq, mulE_eq, Nat.mul_one, Nat.mul_one]; show ((bc bs).drop (i + 1)).take (bs.length - (i + 1)) = _; rw [bc_drop]; exact List.take_of_length_le (by rw [bc_len, List.length_drop]; exact Nat.le_refl _)) ?_; refine hgetK_has _ ht ?_; refine needK_has rfl ?_; refine eqK_has ?_; refine Has.intro (Has.intro ?_); refine ⟨rfl, .inl ⟨rfl, x.part true false, ?_⟩⟩; show hset H p _ = hset H p (.pcells [.sl _ (bs.drop (i + 1)).length _, .int .i64 e]); rw [List.length_drop]; rfl) | (refine eqK_has_eq _ (i64_succ (by omega)) ?_; refine Has.intro ⟨(i + 1, u + (c.toNat % 128) * 128 ^ i), ⟨hlt, (by dsimp only; omega), hnu, next (by omega) (by omega)⟩, (by dsimp only; omega), ⟨rfl, rfl, rfl, rfl, rfl, trivial⟩, rfl⟩) | (exfalso; omega))
            · refine boolK_dec_t (by omega) ?_
              (first | (rw [bad (by omega)]; refine Has.intro (Has.intro ?_); exact ⟨rfl, .inr ⟨by decide, rfl⟩⟩) | (have hg := good (by omega) (by omega); rw [hg]; have hcm : c.toNat % 128 = c.toNat := (by omega); rw [hcm]; refine hgetK_has _ ht ?_; refine getK_has rfl ?_; refine eqK_has_eq _ (i64_succ (by omega)) ?_; refine needK_has (by simp; omega) ?_; refine eqK_has_eq (bc (bs.drop (i + 1))) (by rw [mulE_eq, mulE_eq, Nat.mul_one, Nat.mul_one]; show ((bc bs).drop (i + 1)).take (bs.length - (i + 1)) = _; rw [bc_drop]; exact List.take_of_length_le (by rw [bc_len, List.length_drop]; exact Nat.le_refl _)) ?_; refine hgetK_has _ ht ?_; refine needK_has rfl ?_; refine eqK_has ?_; refine Has.intro (Has.intro ?_); refine ⟨rfl, .inl ⟨rfl, x.part true false, ?_⟩⟩; show hset H p _ = hset H p (.pcells [.sl _ (bs.drop (i + 1)).length _, .int .i64 e]); rw [List.length_drop]; rfl) | (refine eqK_has_eq _ (i64_succ (by omega)) ?_; refine Has.intro ⟨(i + 1, u + (c.toNat % 128) * 128 ^ i), ⟨hlt, (by dsimp only; omega), hnu, next (by omega) (by omega)⟩, (by dsimp only; omega), ⟨rfl, rfl, rfl, rfl, rfl, trivial⟩, rfl⟩) | (exfalso; omega))
          · refine boolK_dec_t (by omega) ?_
            (first | (rw [bad (by omega)]; refine Has.intro (Has.intro ?_); exact ⟨rfl, .inr ⟨by decide, rfl⟩⟩) | (have hg := good (by omega) (by omega); rw [hg]; have hcm : c.toNat % 128 = c.toNat := (by omega); rw [hcm]; refine hgetK_has _ ht ?_; refine getK_has rfl ?_; refine eqK_has_eq _ (i64_succ (by omega)) ?_; refine needK_has (by simp; omega) ?_; refine eqK_has_eq (bc (bs.drop (i + 1))) (by rw [mulE_eq, mulE_eq, Nat.mul_one, Nat.mul_one]; show ((bc bs).drop (i + 1)).take (bs.length - (i + 1)) = _; rw [bc_drop]; exact List.take_of_length_le (by rw [bc_len, List.length_drop]; exact Nat.le_refl _)) ?_; refine hgetK_has _ ht ?_; refine needK_has rfl ?_; refine eqK_has ?_; refine Has.intro (Has.intro ?_); refine ⟨rfl, .inl ⟨rfl, x.part true false, ?_⟩⟩; show hset H p _ = hset H p (.pcells [.sl _ (bs.drop (i + 1)).length _, .int .i64 e]); rw [List.length_drop]; rfl) | (refine eqK_has_eq _ (i64_succ (by omega)) ?_; refine Has.intro ⟨(i + 1, u + (c.toNat % 128) * 128 ^ i), ⟨hlt, (by dsimp only; omega), hnu, next (by omega) (by omega)⟩, (by dsimp only; omega), ⟨rfl, rfl, rfl, rfl, rfl, trivial⟩, rfl⟩) | (exfalso; omega))
        · refine boolK_dec_f (by omega) ?_
          (first | (rw [bad (by omega)]; refine Has.intro (Has.intro ?_); exact ⟨rfl, .inr ⟨by decide, rfl⟩⟩) | (have hg := good (by omega) (by omega); rw [hg]; have hcm : c.toNat % 128 = c.toNat := (by omega); rw [hcm]; refine hgetK_has _ ht ?_; refine getK_has rfl ?_; refine eqK_has_eq _ (i64_succ (by omega)) ?_; refine needK_has (by simp; omega) ?_; refine eqK_has_eq (bc (bs.drop (i + 1))) (by rw [mulE_eq, mulE_eq, Nat.mul_one, Nat.mul_one]; show ((bc bs).drop (i + 1)).take (bs.length - (i + 1)) = _; rw [bc_drop]; exact List.take_of_length_le (by rw [bc_len, List.length_drop]; exact Nat.le_refl _)) ?_; refine hgetK_has _ ht ?_; refine needK_has rfl ?_; refine eqK_has ?_; refine Has.intro (Has.intro ?_); refine ⟨rfl, .inl ⟨rfl, x.part true false, ?_⟩⟩; show hset H p _ = hset H p (.pcells [.sl _ (bs.drop (i + 1)).length _, .int .i64 e]); rw [List.length_drop]; rfl) | (refine eqK_has_eq _ (i64_succ (by omega)) ?_; refine Has.intro ⟨(i + 1, u + (c.toNat % 128) * 128 ^ i), ⟨hlt, (by dsimp only; omega), hnu, next (by omega) (by omega)⟩, (by dsimp only; omega), ⟨rfl, rfl, rfl, rfl, rfl, trivial⟩, rfl⟩) | (exfalso; omega))
  · have : i = bs.length := by omega
    subst this
    rw [List.drop_length] at he
    have hn : numF 0 0 bs = (0, 10, []) := by rw [he]; unfold numF; rfl
    rw [hn]
    refine Has.intro (Has.intro ?_)
    exact ⟨rfl, .inr ⟨by decide, rfl⟩⟩
end Go.Proofs.Ytpebkojodmjleaa
