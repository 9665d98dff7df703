/-
  The document's numbers of twenty digits: of a word, back again, powers of two, products, quotients.
-/
import Derived.Test.YtilfmfnngkangaaChF
set_option linter.all false
set_option linter.unusedVariables false
set_option linter.unusedSimpArgs false
set_option linter.unusedSectionVars false
namespace Go.Proofs.Ytilfmfnngkangaa
open Go Go.VM

theorem dc_mod (a i : Nat) : dgt a i = sh a i % 65536 := rfl

/-- A word's digits. -/
theorem of_ok (n : Nat) (hn : n < 18446744073709551616) : EP (EE env) 25 [.agg [.int .u64 0, .int .u64 (n : Int)]] = some (.agg (dc n)) := by
  have top : sh n 4 = 0 := sh_of_lt (by omega)
  refine Has.eq (EP_has ?_)
  refine loopK_has ?_
  refine iterE_up 4 (fun i => [(1, .ptr 0 0), (2, .ptr 1 0), (3, .ptr 2 0), (4, .pv (.int .i64 i))])
    (fun i => [.pcells [.int .u64 0, .int .u64 ((sh n i : Nat) : Int)], .pcells (dc 0), .pcells (tab 20 (dpv (mix i (dgt n) (fun _ => 0))))]) (fun i hi r => ?_) (fun r => ?_) ⟨rfl, rfl, rfl, rfl, trivial⟩ ?_
  · have h0 := sh_succ n i
    have h1 := sh_le n i
    refine boolK_has_true (decide_eq_true (by omega)) ?_
    refine hgetK_has _ rfl ?_
    refine getK_has rfl ?_
    refine needK_has rfl ?_
    refine eqK_has_eq _ (u64_tmod _ 65536) ?_
    refine needK_has (by simp; omega) ?_
    refine hgetK_has _ rfl ?_
    refine needK_has (tab_blt _ (show i < 20 by omega)) ?_
    refine eqK_has_eq _ (mix_set 20 i (dgt n) _) ?_
    refine eqK_has_eq ((4 + i : Nat) : Int) (wrap_i64 (by omega) (by omega)) ?_
    refine hgetK_has _ rfl ?_
    refine getK_has rfl ?_
    refine needK_has rfl ?_
    refine eqK_has_eq 0 rfl ?_
    refine needK_has (by simp; omega) ?_
    refine hgetK_has _ rfl ?_
    refine needK_has (tab_blt _ (show 4 + i < 20 by omega)) ?_
    refine eqK_has_eq (tab 20 (dpv (mix (i + 1) (dgt n) (fun _ => 0)))) (by
      refine tab_set_eq ?_ fun _ _ _ => rfl
      show PV.int .u64 ((mix (i + 1) (dgt n) (fun _ => 0) (4 + i) : Nat) : Int) = _
      unfold mix; rw [if_neg (by omega)]; rfl) ?_
    refine hgetK_has _ rfl ?_
    refine getK_has rfl ?_
    refine needK_has rfl ?_
    refine eqK_has_eq ((sh n (i + 1) : Nat) : Int) ((u64_tdiv _ 65536 (by omega)).trans (by rw [h0])) ?_
    refine hgetK_has _ rfl ?_
    refine needK_has rfl ?_
    refine eqK_has_eq [.int .u64 0, .int .u64 ((sh n (i + 1) : Nat) : Int)] rfl ?_
    refine hgetK_has _ rfl ?_
    refine getK_has rfl ?_
    refine needK_has rfl ?_
    refine eqK_has_eq 0 rfl ?_
    refine hgetK_has _ rfl ?_
    refine needK_has rfl ?_
    refine eqK_has_eq [.int .u64 0, .int .u64 ((sh n (i + 1) : Nat) : Int)] rfl ?_
    refine eqK_has_eq _ (i64_succ (by omega)) ?_
    exact Has.intro ⟨⟨rfl, rfl, rfl, rfl, trivial⟩, rfl⟩
  · have hd : tab 20 (dpv (mix 4 (dgt n) (fun _ => 0))) = dc n := tab_congr fun j _ => by
      show PV.int .u64 ((mix 4 (dgt n) (fun _ => 0) j : Nat) : Int) = .int .u64 ((dgt n j : Nat) : Int)
      unfold mix
      by_cases h : j < 4
      · rw [if_pos h]
      · rw [if_neg h, dc_mod]
        have := sh_zero_up top (j - 4)
        rw [show 4 + (j - 4) = j by omega] at this
        rw [this]
    refine boolK_has_false (decide_eq_false (by omega)) ?_
    refine Has.intro ?_
    refine hgetK_has _ rfl ?_
    refine secK_has (v := dc n) ((tab_sec _).1.trans hd) (tab_sec _).2 ?_
    refine hgetK_has _ rfl ?_
    refine needK_has (by rw [dc_len, dc_len]; rfl) ?_
    refine eqK_has_eq (dc n) (by
      show (dc 0).take 0 ++ dc n ++ (dc 0).drop (0 + 20) = _
      rw [List.take_zero, List.nil_append, List.drop_of_length_le (by rw [dc_len]; exact Nat.le_refl _), List.append_nil]) ?_
    refine hgetK_has _ rfl ?_
    refine secK_has (v := dc n) (tab_sec _).1 (tab_sec _).2 ?_
    exact Has.intro (Has.intro rfl)
  · show [HObj.pcells _, .pcells _, .pcells _] = _
    rw [mix_none, sh_zero]; rfl

theorem dc_one : [PV.int .u64 1, .int .u64 0, .int .u64 0, .int .u64 0, .int .u64 0, .int .u64 0, .int .u64 0, .int .u64 0, .int .u64 0, .int .u64 0, .int .u64 0, .int .u64 0, .int .u64 0, .int .u64 0, .int .u64 0, .int .u64 0, .int .u64 0, .int .u64 0, .int .u64 0, .int .u64 0] = dc 1 := by
  have : dc 1 = tab 20 (fun j => if j = 0 then .int .u64 1 else .int .u64 0) := tab_congr fun j _ => by
    show PV.int .u64 ((dgt 1 j : Nat) : Int) = _
    by_cases h : j = 0
    · subst h; rfl
    · rw [if_neg h]
      have : dgt 1 j = 0 := by
        rw [dc_mod, sh_of_lt]
        calc 1 < 65536 ^ 1 := by decide
          _ ≤ 65536 ^ j := Nat.pow_le_pow_right (by decide) (by omega)
      rw [this]; rfl
  rw [this]; rfl
theorem dc_store (a b : Nat) : (dc a).take 0 ++ dc b ++ (dc a).drop (0 + 20) = dc b := by
  rw [List.take_zero, List.nil_append, List.drop_of_length_le (by rw [dc_len]; exact Nat.le_refl _), List.append_nil]
theorem dc_fits (a b : Nat) : (Nat.beq (dc b).length 20 && Nat.ble (0 + 20) (dc a).length) = true := by rw [dc_len, dc_len]; rfl

theorem power_ok (n : Nat) (hn : n ≤ 300) : EP (EE env) 29 [.int .i64 (n : Int)] = some (.agg (dc (2 ^ n))) := by
  refine Has.eq (EP_has ?_)
  refine hgetK_has _ rfl ?_
  refine needK_has rfl ?_
  refine eqK_has_eq (dc 1) dc_one ?_
  refine loopK_has ?_
  refine iterE_up n (fun i => [(0, .pv (.int .i64 n)), (2, .ptr 0 0), (3, .ptr 1 0), (4, .pv (.int .i64 i))]) (fun i => [.pcells (dc 0), .pcells (dc (2 ^ i))]) (fun i hi r => ?_) (fun r => ?_) ⟨rfl, rfl, rfl, rfl, trivial⟩ rfl
  · refine boolK_has_true (decide_eq_true (by omega)) ?_
    refine hgetK_has _ rfl ?_
    refine secK_has (v := dc (2 ^ i)) (tab_sec _).1 (tab_sec _).2 ?_
    refine hgetK_has _ rfl ?_
    refine secK_has (v := dc (2 ^ i)) (tab_sec _).1 (tab_sec _).2 ?_
    refine callPK_has (plus_ok _ _) ?_
    refine hgetK_has _ rfl ?_
    refine needK_has (dc_fits _ _) ?_
    refine eqK_has_eq (dc (2 ^ (i + 1))) ((dc_store _ _).trans (by rw [Nat.pow_succ]; congr 1; omega)) ?_
    refine eqK_has_eq _ (i64_succ (by omega)) ?_
    exact Has.intro ⟨⟨rfl, rfl, rfl, rfl, trivial⟩, rfl⟩
  · refine boolK_has_false (decide_eq_false (by omega)) ?_
    refine Has.intro ?_
    refine hgetK_has _ rfl ?_
    refine secK_has (v := dc (2 ^ n)) (tab_sec _).1 (tab_sec _).2 ?_
    refine hgetK_has _ rfl ?_
    refine needK_has (dc_fits _ _) ?_
    refine eqK_has_eq _ (dc_store _ _) ?_
    refine hgetK_has _ rfl ?_
    refine secK_has (v := dc (2 ^ n)) (tab_sec _).1 (tab_sec _).2 ?_
    exact Has.intro (Has.intro rfl)

/-- Digits back into two words. -/
theorem wide_ok (a : Nat) (ha : a < 340282366920938463463374607431768211456) :
    EP (EE env) 30 [.agg (dc a)] = some (.tup [.agg [.int .u64 ((a / 18446744073709551616 : Nat) : Int), .int .u64 ((a % 18446744073709551616 : Nat) : Int)], .bool true]) := by
  have top : sh a 8 = 0 := sh_of_lt (by omega)
  have low : ∀ m, m < 4 → sh a (3 - m) % 65536 ^ (m + 1) = (sh a (4 - m) % 65536 ^ m) * 65536 + sh a (3 - m) % 65536 := by
    intro m hm
    have h0 := sh_succ a (3 - m)
    rw [show 3 - m + 1 = 4 - m by omega] at h0
    have : m = 0 ∨ m = 1 ∨ m = 2 ∨ m = 3 := by omega
    rcases this with e | e | e | e <;> subst e <;> simp only [Nat.reducePow, Nat.reduceAdd, Nat.reduceSub] at h0 ⊢ <;> omega
  have high : ∀ m, m < 4 → sh a (7 - m) % 65536 ^ (m + 1) = (sh a (8 - m) % 65536 ^ m) * 65536 + sh a (7 - m) % 65536 := by
    intro m hm
    have h0 := sh_succ a (7 - m)
    rw [show 7 - m + 1 = 8 - m by omega] at h0
    have : m = 0 ∨ m = 1 ∨ m = 2 ∨ m = 3 := by omega
    rcases this with e | e | e | e <;> subst e <;> simp only [Nat.reducePow, Nat.reduceAdd, Nat.reduceSub] at h0 ⊢ <;> omega
  have small : ∀ m x, m ≤ 4 → x % 65536 ^ m < 18446744073709551616 := by
    intro m x hm
    have h1 : 65536 ^ m ≤ 65536 ^ 4 := Nat.pow_le_pow_right (by decide) hm
    have h2 : x % 65536 ^ m < 65536 ^ m := Nat.mod_lt _ (Nat.pow_pos (by decide))
    omega
  refine Has.eq (EP_has ?_)
  refine loopK_has ?_
  refine iterE_up 4 (fun m => [(1, .ptr 0 0), (2, .ptr 1 0), (3, .pv (.bool false)), (4, .ptr 2 0), (5, .pv (.int .i64 (3 - (m : Int))))])
    (fun m => [.pcells (dc a), .pcells [.int .u64 0, .int .u64 0], .pcells [.int .u64 ((sh a (8 - m) % 65536 ^ m : Nat) : Int), .int .u64 ((sh a (4 - m) % 65536 ^ m : Nat) : Int)]]) (fun m hm r => ?_) (fun r => ?_) ⟨rfl, rfl, rfl, rfl, rfl, trivial⟩ ?_
  · have l0 := low m hm
    have l1 := high m hm
    have s0 := small (m + 1) (sh a (3 - m)) (by omega)
    have s1 := small (m + 1) (sh a (7 - m)) (by omega)
    have en : (3 - (m : Int)).toNat = 3 - m := by omega
    have en4 : (4 + (3 - (m : Int))) = ((7 - m : Nat) : Int) := by omega
    refine boolK_has_true (decide_eq_true (by omega)) ?_
    refine hgetK_has _ rfl ?_
    refine getK_has rfl ?_
    refine eqK_has_eq ((sh a (4 - m) % 65536 ^ m * 65536 : Nat) : Int) (u64_nat (n := sh a (4 - m) % 65536 ^ m * 65536) (by omega)) ?_
    refine needK_has (by simp; omega) ?_
    refine hgetK_has _ rfl ?_
    refine getK_has (show (dc a)[addO 0 (3 - (m : Int)).toNat]? = some (dpv (dgt a) (3 - m)) by rw [en]; exact tab_get _ (show 3 - m < 20 by omega)) ?_
    refine eqK_has_eq ((sh a (3 - m) % 65536 ^ (m + 1) : Nat) : Int) ((u64_nat (n := sh a (4 - m) % 65536 ^ m * 65536 + dgt a (3 - m)) (by rw [dc_mod]; omega)).trans (by rw [l0]; rfl)) ?_
    refine hgetK_has _ rfl ?_
    refine needK_has rfl ?_
    refine eqK_has_eq [.int .u64 ((sh a (8 - m) % 65536 ^ m : Nat) : Int), .int .u64 ((sh a (3 - m) % 65536 ^ (m + 1) : Nat) : Int)] rfl ?_
    refine hgetK_has _ rfl ?_
    refine getK_has rfl ?_
    refine eqK_has_eq ((sh a (8 - m) % 65536 ^ m * 65536 : Nat) : Int) (u64_nat (n := sh a (8 - m) % 65536 ^ m * 65536) (by omega)) ?_
    refine eqK_has_eq ((7 - m : Nat) : Int) ((wrap_i64 (by omega) (by omega)).trans en4) ?_
    refine needK_has (by simp; omega) ?_
    refine hgetK_has _ rfl ?_
    refine getK_has (tab_get _ (show 7 - m < 20 by omega)) ?_
    refine eqK_has_eq ((sh a (7 - m) % 65536 ^ (m + 1) : Nat) : Int) ((u64_nat (n := sh a (8 - m) % 65536 ^ m * 65536 + dgt a (7 - m)) (by rw [dc_mod]; omega)).trans (by rw [l1]; rfl)) ?_
    refine hgetK_has _ rfl ?_
    refine needK_has rfl ?_
    refine eqK_has_eq [.int .u64 ((sh a (7 - m) % 65536 ^ (m + 1) : Nat) : Int), .int .u64 ((sh a (3 - m) % 65536 ^ (m + 1) : Nat) : Int)] rfl ?_
    refine eqK_has_eq (3 - ((m + 1 : Nat) : Int)) (by rw [wrap_i64 (by omega) (by omega)]; omega) ?_
    refine Has.intro ⟨⟨rfl, rfl, rfl, rfl, rfl, trivial⟩, ?_⟩
    rw [show 8 - (m + 1) = 7 - m by omega, show 4 - (m + 1) = 3 - m by omega]; rfl
  · refine boolK_has_false (decide_eq_false (by omega)) ?_
    refine Has.intro ?_
    refine loopK_has ?_
    have e1 : sh a (8 - 4) % 65536 ^ 4 = a / 18446744073709551616 := by
      show sh a 4 % 65536 ^ 4 = _
      unfold sh
      have : (65536 ^ 4 : Nat) = 18446744073709551616 := by decide
      rw [this]; omega
    have e2 : sh a (4 - 4) % 65536 ^ 4 = a % 18446744073709551616 := by
      show sh a 0 % 65536 ^ 4 = _
      rw [sh_zero]
    rw [e1, e2]
    refine iterE_up 12 (fun m => [(1, .ptr 0 0), (2, .ptr 1 0), (3, .pv (.bool false)), (4, .ptr 2 0), (6, .pv (.int .i64 (8 + (m : Int))))])
      (fun m => [.pcells (dc a), .pcells [.int .u64 0, .int .u64 0], .pcells [.int .u64 ((a / 18446744073709551616 : Nat) : Int), .int .u64 ((a % 18446744073709551616 : Nat) : Int)]]) (fun m hm r2 => ?_) (fun r2 => ?_) ⟨rfl, rfl, rfl, rfl, rfl, trivial⟩ rfl
    · have en : (8 + (m : Int)).toNat = 8 + m := by omega
      have hz : dgt a (8 + m) = 0 := by rw [dc_mod, sh_zero_up top m]
      refine boolK_has_true (decide_eq_true (by omega)) ?_
      refine needK_has (by simp; omega) ?_
      refine hgetK_has _ rfl ?_
      refine getK_has (show (dc a)[addO 0 (8 + (m : Int)).toNat]? = some (.int .u64 0) by rw [en]; exact (tab_get _ (show 8 + m < 20 by omega)).trans (by show some (PV.int .u64 ((dgt a (8 + m) : Nat) : Int)) = _; rw [hz]; rfl)) ?_
      refine boolK_has_false rfl ?_
      refine eqK_has_eq (8 + ((m + 1 : Nat) : Int)) (by rw [wrap_i64 (by omega) (by omega)]; omega) ?_
      exact Has.intro ⟨⟨rfl, rfl, rfl, rfl, rfl, trivial⟩, rfl⟩
    · refine boolK_has_false (decide_eq_false (by omega)) ?_
      refine Has.intro ?_
      refine hgetK_has _ rfl ?_
      refine secK_has rfl (Nat.le_refl 2) ?_
      refine hgetK_has _ rfl ?_
      refine needK_has rfl ?_
      refine eqK_has_eq [.int .u64 ((a / 18446744073709551616 : Nat) : Int), .int .u64 ((a % 18446744073709551616 : Nat) : Int)] rfl ?_
      refine hgetK_has _ rfl ?_
      refine secK_has rfl (Nat.le_refl 2) ?_
      exact Has.intro (Has.intro rfl)
  · rw [Nat.pow_zero, Nat.mod_one, Nat.mod_one]; rfl
end Go.Proofs.Ytilfmfnngkangaa
