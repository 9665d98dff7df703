/-
  The document's products and quotients.
-/
import Derived.Test.YtilfmfnngkangaaChI
set_option linter.all false
set_option linter.unusedVariables false
set_option linter.unusedSimpArgs false
set_option linter.unusedSectionVars false
namespace Go.Proofs.Ytilfmfnngkangaa
open Go Go.VM

theorem mul_split (x b : Nat) (k : Nat) : x * sh b k = 65536 * (x * sh b (k + 1)) + x * dgt b k := by
  have h0 := sh_succ b k
  have h1 : sh b k = 65536 * sh b (k + 1) + dgt b k := by rw [h0, dc_mod]; omega
  calc x * sh b k = x * (65536 * sh b (k + 1) + dgt b k) := by rw [← h1]
    _ = 65536 * (x * sh b (k + 1)) + x * dgt b k := by rw [Nat.mul_add, Nat.mul_left_comm]

/-- One row of a product: digit x times b, added at place i; up to k digits of it. -/
theorem times_row (T U x b : Nat) (i k : Nat) (hU : U = T / 65536 ^ i + x * b) (hx : x < 65536) :
    sh T (i + k) + x * sh b k ≤ sh U k ∧ sh U k ≤ sh T (i + k) + x * sh b k + 65536 := by
  have hT : sh T (i + k) = sh (T / 65536 ^ i) k := by unfold sh; rw [Nat.pow_add, Nat.div_div_eq_div_mul]
  rw [hT]
  generalize hV : T / 65536 ^ i = V at *
  subst hU
  have hp : 0 < 65536 ^ k := Nat.pow_pos (by decide)
  have e : x * b = x * sh b k * 65536 ^ k + x * (b % 65536 ^ k) := by
    unfold sh
    rw [Nat.mul_assoc, ← Nat.mul_add]
    congr 1
    rw [Nat.mul_comm]; exact (Nat.div_add_mod _ _).symm
  have hmod : b % 65536 ^ k < 65536 ^ k := Nat.mod_lt _ hp
  have hs : sh (V + x * b) k = (V + x * (b % 65536 ^ k)) / 65536 ^ k + x * sh b k := by
    show (V + x * b) / 65536 ^ k = _
    rw [e, show V + (x * sh b k * 65536 ^ k + x * (b % 65536 ^ k)) = V + x * (b % 65536 ^ k) + x * sh b k * 65536 ^ k by omega, Nat.add_mul_div_right _ _ hp]
  rw [hs]
  have h1 : V / 65536 ^ k ≤ (V + x * (b % 65536 ^ k)) / 65536 ^ k := Nat.div_le_div_right (by omega)
  have h2 : (V + x * (b % 65536 ^ k)) / 65536 ^ k ≤ V / 65536 ^ k + 65536 := by
    have : x * (b % 65536 ^ k) ≤ 65536 * 65536 ^ k := Nat.mul_le_mul (by omega) (by omega)
    calc (V + x * (b % 65536 ^ k)) / 65536 ^ k ≤ (V + 65536 * 65536 ^ k) / 65536 ^ k := Nat.div_le_div_right (by omega)
      _ = V / 65536 ^ k + 65536 := Nat.add_mul_div_right _ _ hp
  unfold sh at *
  omega

theorem low_same (T M i j : Nat) (h : j < i) : dgt (T + M * 65536 ^ i) j = dgt T j := by
  unfold dgt sh
  have e : M * 65536 ^ i = M * 65536 ^ (i - j - 1) * 65536 * 65536 ^ j := by
    rw [Nat.mul_assoc, Nat.mul_assoc]
    congr 1
    rw [← Nat.pow_succ', ← Nat.pow_add]
    congr 1; omega
  rw [e, Nat.add_mul_div_right _ _ (Nat.pow_pos (by decide))]
  omega
theorem rows_succ (a b i : Nat) : a % 65536 ^ (i + 1) * b = a % 65536 ^ i * b + (dgt a i * b) * 65536 ^ i := by
  have h : a % 65536 ^ (i + 1) = a % 65536 ^ i + 65536 ^ i * dgt a i := by
    unfold dgt sh
    rw [Nat.pow_succ, Nat.mod_mul]
  rw [h, Nat.add_mul]
  congr 1
  rw [Nat.mul_assoc, Nat.mul_comm (65536 ^ i)]
theorem prod_lt {a b : Nat} {i : Nat} (hb : b < 65536 ^ 8) : a % 65536 ^ i * b < 65536 ^ (i + 8) := by
  rw [Nat.pow_add]
  have h1 : a % 65536 ^ i < 65536 ^ i := Nat.mod_lt _ (Nat.pow_pos (by decide))
  exact Nat.mul_lt_mul'' h1 hb

theorem mul_ok (a b : Nat) (ha : a < 65536 ^ 8) (hb : b < 65536 ^ 8) : EP (EE env) 32 [.agg (dc a), .agg (dc b)] = some (.agg (dc (a * b))) := by
  refine Has.eq (EP_has ?_)
  refine loopK_has ?_
  refine iterE_up 8 (fun i => [(2, .ptr 0 0), (3, .ptr 1 0), (4, .ptr 2 0), (5, .ptr 3 0), (6, .pv (.int .i64 i))])
    (fun i => [.pcells (dc a), .pcells (dc b), .pcells (dc 0), .pcells (dc (a % 65536 ^ i * b))]) (fun i hi r => ?_) (fun r => ?_) ⟨rfl, rfl, rfl, rfl, rfl, trivial⟩ ?_
  · refine boolK_has_true (decide_eq_true (by omega)) ?_
    have hT' := rows_succ a b i
    have hl' := prod_lt (a := a) (i := i + 1) hb
    have hl := prod_lt (a := a) (i := i) hb
    have hx := dgt_lt a i
    generalize hxx : dgt a i = x at *
    generalize hTT : a % 65536 ^ i * b = T at *
    generalize hTT' : a % 65536 ^ (i + 1) * b = T' at *
    have hsm : ∀ j, j < i → dgt T' j = dgt T j := fun j hj => by rw [hT']; exact low_same _ _ _ _ hj
    have hU : ∀ k, sh T' (i + k) = sh (T / 65536 ^ i + x * b) k := fun k => by
      unfold sh
      rw [Nat.pow_add, ← Nat.div_div_eq_div_mul, hT', Nat.add_mul_div_right _ _ (Nat.pow_pos (by decide))]
    refine loopK_has ?_
    refine iterE_up 12 (fun k => [(2, .ptr 0 0), (3, .ptr 1 0), (4, .ptr 2 0), (5, .ptr 3 0), (6, .pv (.int .i64 i)), (7, .pv (.int .u64 ((sh T' (i + k) - sh T (i + k) - x * sh b k : Nat) : Int))), (8, .pv (.int .i64 k))])
      (fun k => [.pcells (dc a), .pcells (dc b), .pcells (dc 0), .pcells (tab 20 (dpv (mix (i + k) (dgt T') (dgt T))))]) (fun k hk r2 => ?_) (fun r2 => ?_) ⟨rfl, rfl, rfl, rfl, rfl, ?_, rfl, trivial⟩ ?_
    · have inv := times_row T (T / 65536 ^ i + x * b) x b i k rfl hx
      rw [← hU k] at inv
      have h0 := sh_succ T (i + k)
      have h2 := sh_succ T' (i + k)
      have h3 := mul_split x b k
      have dT : dgt T (i + k) = sh T (i + k) % 65536 := rfl
      have dT' : dgt T' (i + k) = sh T' (i + k) % 65536 := rfl
      have hbk := dgt_lt b k
      have hprod : x * dgt b k ≤ 65535 * 65535 := Nat.mul_le_mul (by omega) (by omega)
      rw [← Nat.add_assoc] 
      generalize hp0 : x * sh b k = p0 at *
      generalize hp1 : x * sh b (k + 1) = p1 at *
      generalize hC : sh T' (i + k) - sh T (i + k) - p0 = C at *
      refine boolK_has_true (decide_eq_true (by omega)) ?_
      refine eqK_has_eq ((i + k : Nat) : Int) ((wrap_i64 (by omega) (by omega)).trans (by omega)) ?_
      refine boolK_has_true (decide_eq_true (by omega)) ?_
      refine eqK_has_eq ((i + k : Nat) : Int) ((wrap_i64 (by omega) (by omega)).trans (by omega)) ?_
      refine needK_has (by simp; omega) ?_
      refine hgetK_has _ rfl ?_
      refine getK_has (show (tab 20 (dpv (mix (i + k) (dgt T') (dgt T))))[i + k]? = some (.int .u64 ((dgt T (i + k) : Nat) : Int)) by
        rw [tab_get _ (show i + k < 20 by omega)]
        show some (PV.int .u64 ((mix (i + k) (dgt T') (dgt T) (i + k) : Nat) : Int)) = _
        rw [mix_at]) ?_
      refine eqK_has_eq ((dgt T (i + k) + C : Nat) : Int) (u64_nat (n := dgt T (i + k) + C) (by omega)) ?_
      by_cases hk8 : k < 8
      · refine boolK_has_true (decide_eq_true (by omega)) ?_
        refine needK_has (by simp; omega) ?_
        refine hgetK_has _ rfl ?_
        refine getK_has (show (dc a)[i]? = some (.int .u64 ((x : Nat) : Int)) by rw [← hxx]; exact tab_get _ (show i < 20 by omega)) ?_
        refine needK_has (by simp; omega) ?_
        refine hgetK_has _ rfl ?_
        refine getK_has (tab_get _ (show k < 20 by omega)) ?_
        refine eqK_has_eq ((x * dgt b k : Nat) : Int) (by
          show IntKind.u64.wrap ((x : Int) * ((dgt b k : Nat) : Int)) = _
          rw [← Int.natCast_mul]
          exact u64_nat (by omega)) ?_
        generalize hq : x * dgt b k = q at *
        refine eqK_has_eq ((dgt T (i + k) + C + q : Nat) : Int) (u64_nat (n := dgt T (i + k) + C + q) (by omega)) ?_
        refine eqK_has_eq ((i + k : Nat) : Int) ((wrap_i64 (by omega) (by omega)).trans (by omega)) ?_
        refine needK_has rfl ?_
        refine eqK_has_eq ((dgt T' (i + k) : Nat) : Int) ((u64_tmod _ 65536).trans (by rw [dT']; congr 1; omega)) ?_
        refine needK_has (by simp; omega) ?_
        refine hgetK_has _ rfl ?_
        refine needK_has (tab_blt _ (show i + k < 20 by omega)) ?_
        refine eqK_has_eq _ (mix_set 20 (i + k) _ _) ?_
        refine needK_has rfl ?_
        refine eqK_has_eq ((sh T' (i + k + 1) - sh T (i + k + 1) - p1 : Nat) : Int) ((u64_tdiv _ 65536 (by omega)).trans (by congr 1; omega)) ?_
        refine eqK_has_eq _ (i64_succ (by omega)) ?_
        exact Has.intro ⟨⟨rfl, rfl, rfl, rfl, rfl, rfl, rfl, trivial⟩, rfl⟩
      · have hb0 : dgt b k = 0 := by
          rw [dc_mod, show k = 8 + (k - 8) by omega, sh_zero_up (sh_of_lt hb)]
        rw [hb0, Nat.mul_zero] at h3
        refine boolK_has_false (decide_eq_false (by omega)) ?_
        refine eqK_has_eq ((i + k : Nat) : Int) ((wrap_i64 (by omega) (by omega)).trans (by omega)) ?_
        refine needK_has rfl ?_
        refine eqK_has_eq ((dgt T' (i + k) : Nat) : Int) ((u64_tmod _ 65536).trans (by rw [dT']; congr 1; omega)) ?_
        refine needK_has (by simp; omega) ?_
        refine hgetK_has _ rfl ?_
        refine needK_has (tab_blt _ (show i + k < 20 by omega)) ?_
        refine eqK_has_eq _ (mix_set 20 (i + k) _ _) ?_
        refine needK_has rfl ?_
        refine eqK_has_eq ((sh T' (i + k + 1) - sh T (i + k + 1) - p1 : Nat) : Int) ((u64_tdiv _ 65536 (by omega)).trans (by congr 1; omega)) ?_
        refine eqK_has_eq _ (i64_succ (by omega)) ?_
        exact Has.intro ⟨⟨rfl, rfl, rfl, rfl, rfl, rfl, rfl, trivial⟩, rfl⟩
    · refine boolK_has_false (decide_eq_false (by omega)) ?_
      refine Has.intro ?_
      refine eqK_has_eq _ (i64_succ (by omega)) ?_
      refine Has.intro ⟨⟨rfl, rfl, rfl, rfl, rfl, trivial⟩, ?_⟩
      show [HObj.pcells (dc a), .pcells (dc b), .pcells (dc 0), .pcells (tab 20 (dpv (mix (i + 12) (dgt T') (dgt T))))] = [HObj.pcells (dc a), .pcells (dc b), .pcells (dc 0), .pcells (dc T')]
      congr 4
      refine congrArg HObj.pcells (tab_congr fun j _ => ?_)
      show PV.int .u64 ((mix (i + 12) (dgt T') (dgt T) j : Nat) : Int) = .int .u64 ((dgt T' j : Nat) : Int)
      unfold mix
      by_cases h : j < i + 12
      · rw [if_pos h]
      · rw [if_neg h, dc_mod, dc_mod]
        have z1 := sh_zero_up (sh_of_lt hl) (j - (i + 8))
        have z2 := sh_zero_up (sh_of_lt hl') (j - (i + 1 + 8))
        rw [show i + 8 + (j - (i + 8)) = j by omega] at z1
        rw [show i + 1 + 8 + (j - (i + 1 + 8)) = j by omega] at z2
        rw [z1, z2]
    · show AV.pv (.int .u64 0) = _
      have h0 : sh T' (i + 0) = sh T i + x * b := by
        rw [hU 0, sh_zero]; rfl
      rw [h0, Nat.add_zero, sh_zero]
      have : sh T i + x * b - sh T i - x * b = 0 := by omega
      rw [this]; rfl
    · show [HObj.pcells (dc a), .pcells (dc b), .pcells (dc 0), .pcells (dc T)] = _
      congr 4
      refine congrArg HObj.pcells (tab_congr fun j _ => ?_)
      show PV.int .u64 ((dgt T j : Nat) : Int) = .int .u64 ((mix (i + 0) (dgt T') (dgt T) j : Nat) : Int)
      unfold mix
      by_cases h : j < i + 0
      · rw [if_pos h, hsm j h]
      · rw [if_neg h]
  · have e : a % 65536 ^ 8 * b = a * b := by rw [Nat.mod_eq_of_lt ha]
    refine boolK_has_false (decide_eq_false (by omega)) ?_
    refine Has.intro ?_
    refine hgetK_has _ rfl ?_
    refine secK_has (v := dc (a % 65536 ^ 8 * b)) (tab_sec _).1 (tab_sec _).2 ?_
    refine hgetK_has _ rfl ?_
    refine needK_has (dc_fits _ _) ?_
    refine eqK_has_eq _ (dc_store _ _) ?_
    refine hgetK_has _ rfl ?_
    refine secK_has (v := dc (a % 65536 ^ 8 * b)) (tab_sec _).1 (tab_sec _).2 ?_
    refine Has.intro (Has.intro ?_)
    rw [e]
  · rw [Nat.pow_zero, Nat.mod_one, Nat.zero_mul]; rfl
end Go.Proofs.Ytilfmfnngkangaa
