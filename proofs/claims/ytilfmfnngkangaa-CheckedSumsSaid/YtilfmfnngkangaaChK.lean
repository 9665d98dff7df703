/-
  The document's quotients, multiples; CheckedSums in the abstract machine.
-/
import Derived.Test.YtilfmfnngkangaaChJ
set_option linter.all false
set_option linter.unusedVariables false
set_option linter.unusedSimpArgs false
set_option linter.unusedSectionVars false
namespace Go.Proofs.Ytilfmfnngkangaa
open Go Go.VM

theorem hset_last (L : Heap) (o o' : HObj) : hset (L ++ [o]) L.length o' = L ++ [o'] := by
  induction L with
  | nil => rfl
  | cons a L ih => show a :: hset (L ++ [o]) L.length o' = _; rw [ih]; rfl

theorem by_step (a N : Nat) (hN : 0 < N) : (a / (2 * N)) * 2 + (if a % (2 * N) < N then 0 else 1) = a / N ∧ (if a % (2 * N) < N then a % (2 * N) else a % (2 * N) - N) = a % N := by
  have h1 := Nat.div_add_mod a (2 * N)
  have h2 : a % (2 * N) < 2 * N := Nat.mod_lt _ (by omega)
  split
  · rename_i h
    have e : a = N * (a / (2 * N) * 2) + a % (2 * N) := by
      have h3 : N * (a / (2 * N) * 2) = 2 * N * (a / (2 * N)) := by rw [Nat.mul_comm (a / (2 * N)) 2, ← Nat.mul_assoc, Nat.mul_comm N 2]
      omega
    constructor
    · symm
      rw [Nat.add_zero]
      exact (Nat.div_eq_of_lt_le (by rw [Nat.mul_comm]; omega) (by rw [Nat.add_mul, Nat.mul_comm _ N]; omega))
    · rw [← Nat.mod_mul_left_mod a 2 N]
      exact (Nat.mod_eq_of_lt h).symm
  · rename_i h
    have e : a = N * (a / (2 * N) * 2 + 1) + (a % (2 * N) - N) := by
      have h3 : N * (a / (2 * N) * 2 + 1) = 2 * N * (a / (2 * N)) + N := by rw [Nat.mul_add, Nat.mul_comm (a / (2 * N)) 2, ← Nat.mul_assoc, Nat.mul_comm N 2, Nat.mul_one]
      omega
    constructor
    · symm
      exact (Nat.div_eq_of_lt_le (by rw [Nat.mul_comm]; omega) (by rw [Nat.add_mul, Nat.mul_comm _ N]; omega))
    · rw [← Nat.mod_mul_left_mod a 2 N]
      rw [Nat.mod_eq_sub_mod (by omega : a % (2 * N) ≥ N)]
      exact (Nat.mod_eq_of_lt (by omega)).symm

/-- What is left behind of the rounds. -/
def junk (e : Nat) : Nat → Heap
  | 0 => []
  | m + 1 => junk e m ++ [.pcells (dc (e * 2 ^ (128 - m)))]
def byHeap (e d q m : Nat) : Heap := .pcells (dc d) :: .pcells (dc e) :: .pcells (dc 0) :: .pcells (dc 0) :: .pcells (dc q) :: junk e m
theorem byHeap_succ (e d q m : Nat) : byHeap e d q (m + 1) = byHeap e d q m ++ [.pcells (dc (e * 2 ^ (128 - m)))] := rfl

theorem by_ok (a e : Nat) (ha : a < 65536 ^ 8) (he : 0 < e) (he8 : e < 65536 ^ 8) : EP (EE env) 33 [.agg (dc a), .agg (dc e)] = some (.tup [.agg (dc (a / e)), .agg (dc (a % e))]) := by
  have p8 : (65536 ^ 8 : Nat) = 2 ^ 128 := by decide
  refine Has.eq (EP_has ?_)
  refine loopK_has ?_
  refine iterE_up 129 (fun m => [(2, .ptr 0 0), (3, .ptr 1 0), (4, .ptr 2 0), (5, .ptr 3 0), (6, .ptr 4 0), (7, .pv (.int .i64 (128 - (m : Int))))])
    (fun m => byHeap e (a % (e * 2 ^ (129 - m))) (a / (e * 2 ^ (129 - m)) * 2 ^ (129 - m)) m) (fun m hm r => ?_) (fun r => ?_) ⟨rfl, rfl, rfl, rfl, rfl, rfl, trivial⟩ ?_
  · have en : (128 - (m : Int)) = ((128 - m : Nat) : Int) := by omega
    have hpow : 2 ^ (129 - m) = 2 * 2 ^ (128 - m) := by rw [show 129 - m = (128 - m) + 1 by omega, Nat.pow_succ]; omega
    have hN0 : 0 < e * 2 ^ (128 - m) := Nat.mul_pos he (Nat.pow_pos (by decide))
    have e2 : e * 2 ^ (129 - m) = 2 * (e * 2 ^ (128 - m)) := by rw [hpow, Nat.mul_left_comm]
    have hle : ∀ k, k ≤ 128 → e * 2 ^ k < 65536 ^ 20 := fun k hk => by
      have h1 : 2 ^ k ≤ 2 ^ 128 := Nat.pow_le_pow_right (by decide) hk
      have h2 : e * 2 ^ k ≤ e * 2 ^ 128 := Nat.mul_le_mul_left _ h1
      have h3 : e * 2 ^ 128 < 2 ^ 128 * 2 ^ 128 := Nat.mul_lt_mul_of_pos_right (by rw [← p8]; exact he8) (Nat.pow_pos (by decide))
      have h4 : (2 ^ 128 * 2 ^ 128 : Nat) ≤ 65536 ^ 20 := by decide
      omega
    have hs := by_step a (e * 2 ^ (128 - m)) hN0
    rw [← e2] at hs
    have hdl : a % (e * 2 ^ (129 - m)) < 65536 ^ 20 := Nat.lt_of_le_of_lt (Nat.mod_le _ _) (Nat.lt_of_lt_of_le ha (Nat.pow_le_pow_right (by decide) (by decide)))
    generalize hD : a % (e * 2 ^ (129 - m)) = D at *
    generalize hQ : a / (e * 2 ^ (129 - m)) = Q at *
    rw [hpow]
    generalize hL : byHeap e D (Q * (2 * 2 ^ (128 - m))) m = L
    have hL0 : hget L 0 = .pcells (dc D) := by rw [← hL]; rfl
    have hL1 : hget L 1 = .pcells (dc e) := by rw [← hL]; rfl
    have hL4 : hget L 4 = .pcells (dc (Q * (2 * 2 ^ (128 - m)))) := by rw [← hL]; rfl
    have hlen : 4 < L.length := by rw [← hL]; show 4 < (junk e m).length + 1 + 1 + 1 + 1 + 1; omega
    have at_ : ∀ (i : Nat) (o : HObj), i ≤ 4 → hget (L ++ [o]) i = hget L i := fun i o hi => hget_append_lt (by omega)
    refine boolK_has_true (decide_eq_true (by omega)) ?_
    refine hgetK_has _ hL1 ?_
    refine secK_has (v := dc e) (tab_sec _).1 (tab_sec _).2 ?_
    refine hgetK_has _ (hget_append_same L _) ?_
    refine needK_has (by rw [dc_len]; rfl) ?_
    refine eqK_has_eq (dc (e * 2 ^ 0)) (by rw [Nat.pow_zero, Nat.mul_one]; rfl) ?_
    rw [hset_last]
    refine loopK_has ?_
    refine iterE_up (128 - m) (fun k => [(2, .ptr 0 0), (3, .ptr 1 0), (4, .ptr 2 0), (5, .ptr 3 0), (6, .ptr 4 0), (7, .pv (.int .i64 (128 - (m : Int)))), (8, .ptr L.length 0), (9, .pv (.int .i64 k))])
      (fun k => L ++ [.pcells (dc (e * 2 ^ k))]) (fun k hk r2 => ?_) (fun r2 => ?_) ⟨rfl, rfl, rfl, rfl, rfl, rfl, rfl, rfl, trivial⟩ rfl
    · refine boolK_has_true (decide_eq_true (by omega)) ?_
      refine hgetK_has _ (hget_append_same L _) ?_
      refine secK_has (v := dc (e * 2 ^ k)) (tab_sec _).1 (tab_sec _).2 ?_
      refine hgetK_has _ (hget_append_same L _) ?_
      refine secK_has (v := dc (e * 2 ^ k)) (tab_sec _).1 (tab_sec _).2 ?_
      refine callPK_has (plus_ok _ _) ?_
      refine hgetK_has _ (hget_append_same L _) ?_
      refine needK_has (dc_fits _ _) ?_
      refine eqK_has_eq (dc (e * 2 ^ (k + 1))) ((dc_store _ _).trans (by rw [Nat.pow_succ]; congr 1; rw [← Nat.mul_assoc]; omega)) ?_
      rw [hset_last]
      refine eqK_has_eq _ (i64_succ (by omega)) ?_
      exact Has.intro ⟨⟨rfl, rfl, rfl, rfl, rfl, rfl, rfl, rfl, trivial⟩, rfl⟩
    · refine boolK_has_false (decide_eq_false (by omega)) ?_
      refine Has.intro ?_
      generalize hN : e * 2 ^ (128 - m) = N at *
      refine hgetK_has _ ((at_ 0 _ (by decide)).trans hL0) ?_
      refine secK_has (v := dc D) (tab_sec _).1 (tab_sec _).2 ?_
      refine hgetK_has _ (hget_append_same L _) ?_
      refine secK_has (v := dc N) (tab_sec _).1 (tab_sec _).2 ?_
      refine callPK_has (less_ok D N hdl (by rw [← hN]; exact hle _ (by omega))) ?_
      cases hc : decide (D < N) with
      | true =>
        have hc' := of_decide_eq_true hc
        rw [if_pos hc', if_pos hc'] at hs
        refine eqK_has_eq (128 - ((m + 1 : Nat) : Int)) (by rw [wrap_i64 (by omega) (by omega)]; omega) ?_
        refine Has.intro ⟨⟨rfl, rfl, rfl, rfl, rfl, rfl, trivial⟩, ?_⟩
        show L ++ [HObj.pcells (dc N)] = byHeap e (a % (e * 2 ^ (129 - (m + 1)))) (a / (e * 2 ^ (129 - (m + 1))) * 2 ^ (129 - (m + 1))) (m + 1)
        rw [show 129 - (m + 1) = 128 - m by omega, hN, byHeap_succ, hN, ← hs.1, ← hs.2, Nat.add_zero, Nat.mul_assoc, hL]
      | false =>
        have hc' := of_decide_eq_false hc
        rw [if_neg hc', if_neg hc'] at hs
        have hpw : EP (EE env) 29 [.int .i64 (128 - (m : Int))] = some (.agg (dc (2 ^ (128 - m)))) := by rw [en]; exact power_ok (128 - m) (by omega)
        refine hgetK_has _ ((at_ 0 _ (by decide)).trans hL0) ?_
        refine secK_has (v := dc D) (tab_sec _).1 (tab_sec _).2 ?_
        refine hgetK_has _ (hget_append_same L _) ?_
        refine secK_has (v := dc N) (tab_sec _).1 (tab_sec _).2 ?_
        refine callPK_has (minus_ok D N (by omega)) ?_
        refine hgetK_has _ ((at_ 0 _ (by decide)).trans hL0) ?_
        refine needK_has (dc_fits _ _) ?_
        refine eqK_has_eq _ (dc_store _ _) ?_
        rw [← hL]
        refine hgetK_has (.pcells (dc (Q * (2 * 2 ^ (128 - m))))) rfl ?_
        refine secK_has (v := dc (Q * (2 * 2 ^ (128 - m)))) (tab_sec _).1 (tab_sec _).2 ?_
        refine callPK_has hpw ?_
        refine callPK_has (plus_ok _ _) ?_
        refine hgetK_has (.pcells (dc (Q * (2 * 2 ^ (128 - m))))) rfl ?_
        refine needK_has (dc_fits _ _) ?_
        refine eqK_has_eq _ (dc_store _ _) ?_
        refine eqK_has_eq (128 - ((m + 1 : Nat) : Int)) (by rw [wrap_i64 (by omega) (by omega)]; omega) ?_
        refine Has.intro ⟨⟨rfl, rfl, rfl, rfl, rfl, rfl, trivial⟩, ?_⟩
        show byHeap e (D - N) (Q * (2 * 2 ^ (128 - m)) + 2 ^ (128 - m)) m ++ [HObj.pcells (dc N)] = byHeap e (a % (e * 2 ^ (129 - (m + 1)))) (a / (e * 2 ^ (129 - (m + 1))) * 2 ^ (129 - (m + 1))) (m + 1)
        rw [show 129 - (m + 1) = 128 - m by omega, hN, byHeap_succ, hN, ← hs.1, ← hs.2, Nat.add_mul, Nat.one_mul, Nat.mul_assoc]
  · refine boolK_has_false (decide_eq_false (by omega)) ?_
    refine Has.intro ?_
    have e0 : e * 2 ^ (129 - 129) = e := by rw [Nat.sub_self, Nat.pow_zero, Nat.mul_one]
    have e1 : (2 : Nat) ^ (129 - 129) = 1 := by rw [Nat.sub_self, Nat.pow_zero]
    rw [e0, e1, Nat.mul_one]
    refine hgetK_has (.pcells (dc (a / e))) rfl ?_
    refine secK_has (v := dc (a / e)) (tab_sec _).1 (tab_sec _).2 ?_
    refine hgetK_has (.pcells (dc (a % e))) rfl ?_
    refine secK_has (v := dc (a % e)) (tab_sec _).1 (tab_sec _).2 ?_
    refine hgetK_has (.pcells (dc 0)) rfl ?_
    refine needK_has (dc_fits _ _) ?_
    refine eqK_has_eq _ (dc_store _ _) ?_
    refine hgetK_has (.pcells (dc 0)) rfl ?_
    refine needK_has (dc_fits _ _) ?_
    refine eqK_has_eq _ (dc_store _ _) ?_
    refine sameK_has rfl rfl ?_
    refine hgetK_has (.pcells (dc (a / e))) rfl ?_
    refine secK_has (v := dc (a / e)) (tab_sec _).1 (tab_sec _).2 ?_
    refine hgetK_has (.pcells (dc (a % e))) rfl ?_
    refine secK_has (v := dc (a % e)) (tab_sec _).1 (tab_sec _).2 ?_
    exact Has.intro (Has.intro rfl)
  · have h1 : a < e * 2 ^ (129 - 0) := by
      have h2 : 1 * 2 ^ 129 ≤ e * 2 ^ 129 := Nat.mul_le_mul_right _ he
      have h3 : (2 ^ 128 : Nat) ≤ 1 * 2 ^ 129 := by decide
      rw [p8] at ha
      show a < e * 2 ^ 129
      omega
    rw [Nat.mod_eq_of_lt h1, Nat.div_eq_of_lt h1, Nat.zero_mul]
    rfl
end Go.Proofs.Ytilfmfnngkangaa
