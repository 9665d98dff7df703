/-
  Vectors.
-/
import Derived.Test.YtnnhkkocdgegfaaSpCh
set_option linter.all false
set_option linter.unusedVariables false
set_option linter.unusedSimpArgs false
set_option linter.unusedSectionVars false
namespace Go.Proofs.Ytnnhkkocdgegfaa
open Go Go.VM

structure Vc where
  c : Int
  m : Int
  h : Int
def vc (v : Vc) : List PV := [.int .i64 v.c, .int .i64 v.m, .int .i64 v.h]
def vR (v : Vc) : Prop := (0 ≤ v.c ∧ v.c ≤ 1099511627776) ∧ (0 ≤ v.m ∧ v.m ≤ 1125899906842624) ∧ (0 ≤ v.h ∧ v.h ≤ 1125899906842624) ∧ v.h % 2097152 = 0
instance (v : Vc) : Decidable (vR v) := by unfold vR; infer_instance
def vRB (v : Vc) : Bool := decide (vR v)
theorem vRB_iff {v : Vc} : vRB v = true ↔ vR v := decide_eq_true_iff
theorem vRB_t {v : Vc} (h : vR v) : vRB v = true := decide_eq_true h
theorem vRB_f {v : Vc} (h : ¬ vR v) : vRB v = false := decide_eq_false h
def fitP (r : Nat) (n : Int) : Prop := 0 ≤ n ∧ n ≤ (if r = 0 then 1099511627776 else 1125899906842624)
instance (r : Nat) (n : Int) : Decidable (fitP r n) := by unfold fitP; infer_instance
theorem parts_ok (v : Vc) : EP (EE env) 43 [.agg (vc v)] = some (.agg (vc v)) := by
  refine Has.eq (EP_has ?_)
  (repeat (first | refine hgetK_last ?_ | refine hgetK_set ?_ | refine hgetK_has _ rfl ?_ | refine needK_has rfl ?_ | refine getK_has rfl ?_ | refine secK_has rfl (by first | exact Nat.le_refl _ | decide) ?_ | refine eqK_has ?_))
  (refine Has.intro (Has.intro ?_))
  rfl
theorem of_ok (v : Vc) : EP (EE env) 49 [.agg (vc v)] = some (.agg (vc v)) := by
  refine Has.eq (EP_has ?_)
  (repeat (first | refine hgetK_last ?_ | refine hgetK_set ?_ | refine hgetK_has _ rfl ?_ | refine needK_has rfl ?_ | refine getK_has rfl ?_ | refine secK_has rfl (by first | exact Nat.le_refl _ | decide) ?_ | refine eqK_has ?_))
  (refine Has.intro (Has.intro ?_))
  rfl
theorem fits_ok (r : Nat) (n : Int) : EP (EE env) 44 [.int .i64 r, .int .i64 n] = some (.bool (decide (fitP r n))) := by
  refine Has.eq (EP_has ?_)
  refine boolK_beq (fun h => ?_) (fun h => ?_)
  all_goals
    refine boolK_dec (fun h1 => ?_) (fun h1 => ?_)
    · refine boolK_dec (fun h2 => ?_) (fun h2 => ?_)
      · rw [decide_eq_true (show fitP r n by unfold fitP; split <;> omega)]
        (refine Has.intro (Has.intro ?_))
        rfl
      · rw [decide_eq_false (show ¬ fitP r n by unfold fitP; split <;> omega)]
        (refine Has.intro (Has.intro ?_))
        rfl
    · rw [decide_eq_false (show ¬ fitP r n by unfold fitP; split <;> omega)]
      (refine Has.intro (Has.intro ?_))
      rfl
theorem and21 (n : Int) : IntKind.i64.wrap ((BitVec.ofInt IntKind.i64.bits n &&& BitVec.ofInt IntKind.i64.bits 2097151).toNat : Int) = n % 2097152 := by
  have e : (BitVec.ofInt 64 n &&& BitVec.ofInt 64 2097151).toNat = (n % 2097152).toNat := by
    rw [BitVec.toNat_and, BitVec.toNat_ofInt, show (BitVec.ofInt 64 2097151).toNat = 2 ^ 21 - 1 from rfl, Nat.and_two_pow_sub_one_eq_mod]
    simp only [Nat.reducePow]
    omega
  show IntKind.i64.wrap ((BitVec.ofInt 64 n &&& BitVec.ofInt 64 2097151).toNat : Int) = _
  rw [e, wrap_i64 (by omega) (by omega)]; omega
set_option maxHeartbeats 1000000 in
theorem right_ok (v : Vc) : EP (EE env) 31 [.agg (vc v)] = some (.bool (vRB v)) := by
  refine Has.eq (EP_has (fn_has rfl ?_))
  refine seq_on [(1, .ptr 0 0)] [.pcells (vc v)] (by (repeat (first | refine hgetK_last ?_ | refine hgetK_set ?_ | refine hgetK_has _ rfl ?_ | refine needK_has rfl ?_ | refine getK_has rfl ?_ | refine secK_has rfl (by first | exact Nat.le_refl _ | decide) ?_ | refine eqK_has ?_)); (refine Has.intro ⟨rfl, ?_, rfl⟩; (repeat (first | exact trivial | refine ⟨rfl, ?_⟩)))) (fun r => ?_)
  refine seq_if [(2, .pv (.bool false))] (¬ vR v) [(1, .ptr 0 0)] (fitP 0 v.c ∧ fitP 1 v.m ∧ fitP 2 v.h) [.pcells (vc v)] ?_ (fun h r => ?_) (fun ⟨h1, h2, h3⟩ r => ?_)
  · (repeat (first | refine hgetK_last ?_ | refine hgetK_set ?_ | refine hgetK_has _ rfl ?_ | refine needK_has rfl ?_ | refine getK_has rfl ?_ | refine secK_has rfl (by first | exact Nat.le_refl _ | decide) ?_ | refine eqK_has ?_))
    refine callPK_has (parts_ok v) ?_
    refine loopK_has ?_
    refine iterE_loop (σ := Nat) (fun i => 3 - i) (fun i => [(1, .ptr 0 0), (6, .pv (.agg (vc v))), (7, .pv (.int .i64 i))]) (fun _ => [.pcells (vc v)]) (fun i => i ≤ 3 ∧ (0 < i → fitP 0 v.c) ∧ (1 < i → fitP 1 v.m) ∧ (2 < i → fitP 2 v.h)) (fun i ⟨hi, f0, f1, f2⟩ r => ?_) 0 ⟨by decide, (by omega), (by omega), (by omega)⟩ ⟨rfl, rfl, rfl, trivial⟩ rfl
    refine boolK_dec (fun hc => ?_) (fun hc => ?_)
    · have h3 : i = 0 ∨ i = 1 ∨ i = 2 := by omega
      rcases h3 with rfl | rfl | rfl
      all_goals
        refine needK_has rfl ?_
        refine getK_has rfl ?_
        refine callPK_dec (fits_ok _ _) (fun h => ?_) (fun h => ?_)
        · refine eqK_has_eq _ (i64_succ (by decide)) ?_
          exact Has.intro ⟨_, ⟨(by decide), (fun _ => by first | exact h | exact f0 (by decide)), (fun _ => by first | exact h | exact f1 (by decide) | (exfalso; omega)), (fun _ => by first | exact h | (exfalso; omega))⟩, (by decide), ⟨rfl, rfl, rfl, trivial⟩, rfl⟩
        · refine Has.intro (Has.intro (.inl ⟨rfl, ⟨rfl, trivial⟩, rfl, fun hv => h ?_⟩))
          first
            | exact hv.1
            | exact hv.2.1
            | exact hv.2.2.1
    · have : i = 3 := by omega
      subst this
      exact Has.intro (Has.intro (.inr ⟨rfl, ⟨rfl, trivial⟩, rfl, f0 (by decide), f1 (by decide), f2 (by decide)⟩))
  · have : vRB v = false := decide_eq_false h
    rw [this]
    exact Has.intro (Has.intro rfl)
  · (repeat (first | refine hgetK_has _ rfl ?_ | refine needK_has rfl ?_ | refine getK_has rfl ?_))
    refine eqK_has_eq _ (and21 v.h) ?_
    refine boolK_has_keep ?_
    refine Has.intro (Has.intro ?_)
    show PV.bool (v.h % 2097152 == 0) = _
    congr 1
    rw [Bool.eq_iff_iff, beq_iff_eq, vRB_iff]
    exact ⟨fun h => ⟨h1, h2, h3, h⟩, fun h => h.2.2.2⟩
theorem at_ok (v : Vc) (i : Nat) (hi : i < 3) : EP (EE env) 32 [.agg (vc v), .int .i64 i] = some (.int .i64 (if i = 0 then v.c else if i = 1 then v.m else v.h)) := by
  refine Has.eq (EP_has ?_)
  have h3 : i = 0 ∨ i = 1 ∨ i = 2 := by omega
  rcases h3 with rfl | rfl | rfl
  all_goals
    refine boolK_dec_f (by decide) ?_
    refine boolK_dec_f (by decide) ?_
    (repeat (first | refine hgetK_last ?_ | refine hgetK_set ?_ | refine hgetK_has _ rfl ?_ | refine needK_has rfl ?_ | refine getK_has rfl ?_ | refine secK_has rfl (by first | exact Nat.le_refl _ | decide) ?_ | refine eqK_has ?_))
    refine callPK_has (parts_ok v) ?_
    refine needK_has rfl ?_
    refine getK_has rfl ?_
    (refine Has.intro (Has.intro ?_))
    rfl
set_option maxHeartbeats 1000000 in
theorem rright_ok (v : Vc) : EP (EE env) 33 [.agg (vc v)] = some (.bool (vRB v)) := by
  refine Has.eq (EP_has ?_)
  (repeat (first | refine hgetK_last ?_ | refine hgetK_set ?_ | refine hgetK_has _ rfl ?_ | refine needK_has rfl ?_ | refine getK_has rfl ?_ | refine secK_has rfl (by first | exact Nat.le_refl _ | decide) ?_ | refine eqK_has ?_))
  repeat' (first
    | refine boolK_dec (fun _ => ?_) (fun _ => ?_)
    | refine boolK_beq (fun _ => ?_) (fun _ => ?_)
    | refine eqK_has ?_
    | refine hgetK_has _ rfl ?_
    | refine getK_has rfl ?_
    | refine needK_has rfl ?_
    | fail)
  all_goals
    refine Has.intro (Has.intro ?_)
    first
      | exact congrArg PV.bool (vRB_t (by unfold vR; have := Int.tmod_eq_emod_of_nonneg (a := v.h) (b := 2097152) (by omega); omega)).symm
      | exact congrArg PV.bool (vRB_f (by unfold vR; omega)).symm
      | exact congrArg PV.bool (vRB_f (by unfold vR; have := Int.tmod_eq_emod_of_nonneg (a := v.h) (b := 2097152) (by omega); omega)).symm
def vadd (a b : Vc) : Vc := ⟨a.c + b.c, a.m + b.m, a.h + b.h⟩
/-- A sum of two. -/
def addV (a b : Vc) : Option Vc := if vR a ∧ vR b ∧ vR (vadd a b) then some (vadd a b) else none
def v0 : Vc := ⟨0, 0, 0⟩
def pairV (o : Option Vc) : PV := match o with
  | some v => .tup [.agg (vc v), .bool true]
  | none => .tup [.agg (vc v0), .bool false]
theorem vR_in {v : Vc} (h : vR v) : (0 ≤ v.c ∧ v.c ≤ 1125899906842624) ∧ (0 ≤ v.m ∧ v.m ≤ 1125899906842624) ∧ (0 ≤ v.h ∧ v.h ≤ 1125899906842624) := by unfold vR at h; omega
theorem cadd_ok (a b : Int) (ha : 0 ≤ a ∧ a ≤ 1125899906842624) (hb : 0 ≤ b ∧ b ≤ 1125899906842624) : EP (EE env) 48 [.int .i64 a, .int .i64 b] = some (.tup [.int .i64 (a + b), .bool true]) := by
  rw [add_ok ((fit_iff a).2 (by omega)) ((fit_iff b).2 (by omega))]
  unfold told
  rw [(fit_iff (a + b)).2 (by omega)]; rfl
set_option maxHeartbeats 1000000 in
theorem radd_ok (a b : Vc) : EP (EE env) 45 [.agg (vc a), .agg (vc b)] = some (pairV (addV a b)) := by
  refine Has.eq (EP_has ?_)
  (repeat (first | refine hgetK_last ?_ | refine hgetK_set ?_ | refine hgetK_has _ rfl ?_ | refine needK_has rfl ?_ | refine getK_has rfl ?_ | refine secK_has rfl (by first | exact Nat.le_refl _ | decide) ?_ | refine eqK_has ?_))
  refine callPK_dec (rright_ok a) (fun h1 => ?_) (fun h1 => ?_)
  · (repeat (first | refine hgetK_last ?_ | refine hgetK_set ?_ | refine hgetK_has _ rfl ?_ | refine needK_has rfl ?_ | refine getK_has rfl ?_ | refine secK_has rfl (by first | exact Nat.le_refl _ | decide) ?_ | refine eqK_has ?_))
    refine callPK_dec (rright_ok b) (fun h2 => ?_) (fun h2 => ?_)
    · have := vR_in h1
      have := vR_in h2
      (repeat (first | refine hgetK_has _ rfl ?_ | refine needK_has rfl ?_ | refine getK_has rfl ?_))
      refine eqK_has_eq (a.c + b.c) (wrap_i64 (by omega) (by omega)) ?_
      (repeat (first | refine hgetK_has _ rfl ?_ | refine needK_has rfl ?_ | refine getK_has rfl ?_))
      refine eqK_has_eq (a.m + b.m) (wrap_i64 (by omega) (by omega)) ?_
      (repeat (first | refine hgetK_has _ rfl ?_ | refine needK_has rfl ?_ | refine getK_has rfl ?_))
      refine eqK_has_eq (a.h + b.h) (wrap_i64 (by omega) (by omega)) ?_
      (repeat (first | refine hgetK_last ?_ | refine hgetK_set ?_ | refine hgetK_has _ rfl ?_ | refine needK_has rfl ?_ | refine getK_has rfl ?_ | refine secK_has rfl (by first | exact Nat.le_refl _ | decide) ?_ | refine eqK_has ?_))
      refine callPK_dec (rright_ok (vadd a b)) (fun h3 => ?_) (fun h3 => ?_)
      · (repeat (first | refine hgetK_last ?_ | refine hgetK_set ?_ | refine hgetK_has _ rfl ?_ | refine needK_has rfl ?_ | refine getK_has rfl ?_ | refine secK_has rfl (by first | exact Nat.le_refl _ | decide) ?_ | refine eqK_has ?_))
        (refine Has.intro (Has.intro ?_))
        unfold addV; rw [if_pos ⟨h1, h2, h3⟩]; rfl
      · (repeat (first | refine hgetK_last ?_ | refine hgetK_set ?_ | refine hgetK_has _ rfl ?_ | refine needK_has rfl ?_ | refine getK_has rfl ?_ | refine secK_has rfl (by first | exact Nat.le_refl _ | decide) ?_ | refine eqK_has ?_))
        (refine Has.intro (Has.intro ?_))
        unfold addV; rw [if_neg (fun h => h3 h.2.2)]; rfl
    · (repeat (first | refine hgetK_last ?_ | refine hgetK_set ?_ | refine hgetK_has _ rfl ?_ | refine needK_has rfl ?_ | refine getK_has rfl ?_ | refine secK_has rfl (by first | exact Nat.le_refl _ | decide) ?_ | refine eqK_has ?_))
      (refine Has.intro (Has.intro ?_))
      unfold addV; rw [if_neg (fun h => h2 h.2.1)]; rfl
  · (repeat (first | refine hgetK_last ?_ | refine hgetK_set ?_ | refine hgetK_has _ rfl ?_ | refine needK_has rfl ?_ | refine getK_has rfl ?_ | refine secK_has rfl (by first | exact Nat.le_refl _ | decide) ?_ | refine eqK_has ?_))
    (refine Has.intro (Has.intro ?_))
    unfold addV; rw [if_neg (fun h => h1 h.1)]; rfl
def z3 : HObj := .pcells (vc v0)
def mixV (a b : Vc) (i : Nat) : Vc := ⟨if 0 < i then a.c + b.c else a.c, if 1 < i then a.m + b.m else a.m, if 2 < i then a.h + b.h else a.h⟩
set_option maxHeartbeats 2000000 in
theorem both_ok (a b : Vc) : EP (EE env) 47 [.agg (vc a), .agg (vc b), .fn 48 [] []] = some (pairV (addV a b)) := by
  refine Has.eq (EP_has (fn_has rfl ?_))
  refine seq_on [(2, .pv (.fn 48 [] [])), (3, .ptr 0 0), (4, .ptr 1 0), (6, .ptr 2 0)] [.pcells (vc a), .pcells (vc b), z3] (by (repeat (first | refine hgetK_last ?_ | refine hgetK_set ?_ | refine hgetK_has _ rfl ?_ | refine needK_has rfl ?_ | refine getK_has rfl ?_ | refine secK_has rfl (by first | exact Nat.le_refl _ | decide) ?_ | refine eqK_has ?_)); (refine Has.intro ⟨rfl, ?_, rfl⟩; (repeat (first | exact trivial | refine ⟨rfl, ?_⟩)))) (fun r => ?_)
  refine seq_if [(6, .ptr 2 0), (7, .pv (.bool false))] (¬ (vR a ∧ vR b)) [(2, .pv (.fn 48 [] [])), (3, .ptr 0 0), (4, .ptr 1 0), (6, .ptr 2 0)] (vR a ∧ vR b) [.pcells (vc a), .pcells (vc b), z3] ?_ (fun h r => ?_) (fun ⟨h1, h2⟩ r => ?_)
  · (repeat (first | refine hgetK_last ?_ | refine hgetK_set ?_ | refine hgetK_has _ rfl ?_ | refine needK_has rfl ?_ | refine getK_has rfl ?_ | refine secK_has rfl (by first | exact Nat.le_refl _ | decide) ?_ | refine eqK_has ?_))
    refine callPK_dec (right_ok a) (fun h1 => ?_) (fun h1 => ?_)
    · (repeat (first | refine hgetK_last ?_ | refine hgetK_set ?_ | refine hgetK_has _ rfl ?_ | refine needK_has rfl ?_ | refine getK_has rfl ?_ | refine secK_has rfl (by first | exact Nat.le_refl _ | decide) ?_ | refine eqK_has ?_))
      refine callPK_dec (right_ok b) (fun h2 => ?_) (fun h2 => ?_)
      · exact Has.intro (.inr ⟨rfl, ⟨rfl, rfl, rfl, rfl, trivial⟩, rfl, h1, h2⟩)
      · (repeat (first | refine hgetK_last ?_ | refine hgetK_set ?_ | refine hgetK_has _ rfl ?_ | refine needK_has rfl ?_ | refine getK_has rfl ?_ | refine secK_has rfl (by first | exact Nat.le_refl _ | decide) ?_ | refine eqK_has ?_))
        exact Has.intro (.inl ⟨rfl, ⟨rfl, rfl, trivial⟩, rfl, fun h => h2 h.2⟩)
    · (repeat (first | refine hgetK_last ?_ | refine hgetK_set ?_ | refine hgetK_has _ rfl ?_ | refine needK_has rfl ?_ | refine getK_has rfl ?_ | refine secK_has rfl (by first | exact Nat.le_refl _ | decide) ?_ | refine eqK_has ?_))
      exact Has.intro (.inl ⟨rfl, ⟨rfl, rfl, trivial⟩, rfl, fun h => h1 h.1⟩)
  · (repeat (first | refine hgetK_last ?_ | refine hgetK_set ?_ | refine hgetK_has _ rfl ?_ | refine needK_has rfl ?_ | refine getK_has rfl ?_ | refine secK_has rfl (by first | exact Nat.le_refl _ | decide) ?_ | refine eqK_has ?_))
    refine Has.intro (Has.intro ?_)
    unfold addV; rw [if_neg (fun hh => h ⟨hh.1, hh.2.1⟩)]; rfl
  have b1 := vR_in h1
  have b2 := vR_in h2
  refine seq_on [(2, .pv (.fn 48 [] [])), (6, .ptr 2 0), (8, .ptr 3 0), (9, .ptr 4 0)] [.pcells (vc a), .pcells (vc b), z3, .pcells (vc a), .pcells (vc b)] ?_ (fun r => ?_)
  · (repeat (first | refine hgetK_last ?_ | refine hgetK_set ?_ | refine hgetK_has _ rfl ?_ | refine needK_has rfl ?_ | refine getK_has rfl ?_ | refine secK_has rfl (by first | exact Nat.le_refl _ | decide) ?_ | refine eqK_has ?_))
    refine callPK_has (parts_ok a) ?_
    (repeat (first | refine hgetK_last ?_ | refine hgetK_set ?_ | refine hgetK_has _ rfl ?_ | refine needK_has rfl ?_ | refine getK_has rfl ?_ | refine secK_has rfl (by first | exact Nat.le_refl _ | decide) ?_ | refine eqK_has ?_))
    refine callPK_has (parts_ok b) ?_
    (repeat (first | refine hgetK_last ?_ | refine hgetK_set ?_ | refine hgetK_has _ rfl ?_ | refine needK_has rfl ?_ | refine getK_has rfl ?_ | refine secK_has rfl (by first | exact Nat.le_refl _ | decide) ?_ | refine eqK_has ?_))
    (refine Has.intro ⟨rfl, ?_, rfl⟩; (repeat (first | exact trivial | refine ⟨rfl, ?_⟩)))
  refine seq_on [(6, .ptr 2 0), (8, .ptr 3 0)] [.pcells (vc a), .pcells (vc b), z3, .pcells (vc (vadd a b)), .pcells (vc b)] ?_ (fun r => ?_)
  · refine loopK_has ?_
    refine iterE_loop (σ := Nat) (fun i => 3 - i) (fun i => [(2, .pv (.fn 48 [] [])), (6, .ptr 2 0), (8, .ptr 3 0), (9, .ptr 4 0), (25, .pv (.int .i64 i))]) (fun i => [.pcells (vc a), .pcells (vc b), z3, .pcells (vc (mixV a b i)), .pcells (vc b)]) (fun i => i ≤ 3) (fun i hi r => ?_) 0 (by decide) ⟨rfl, rfl, rfl, rfl, rfl, trivial⟩ rfl
    refine boolK_dec (fun hc => ?_) (fun hc => ?_)
    · have h3 : i = 0 ∨ i = 1 ∨ i = 2 := by omega
      rcases h3 with rfl | rfl | rfl
      all_goals
        (repeat (first | refine hgetK_has _ rfl ?_ | refine needK_has rfl ?_ | refine getK_has rfl ?_))
        first
          | refine callPK_has (cadd_ok a.c b.c (by omega) (by omega)) ?_
          | refine callPK_has (cadd_ok a.m b.m (by omega) (by omega)) ?_
          | refine callPK_has (cadd_ok a.h b.h (by omega) (by omega)) ?_
        (repeat (first | refine hgetK_last ?_ | refine hgetK_set ?_ | refine hgetK_has _ rfl ?_ | refine needK_has rfl ?_ | refine getK_has rfl ?_ | refine secK_has rfl (by first | exact Nat.le_refl _ | decide) ?_ | refine eqK_has ?_))
        first
          | exact Has.intro ⟨1, (by decide), (by decide), ⟨rfl, rfl, rfl, rfl, rfl, trivial⟩, rfl⟩
          | exact Has.intro ⟨2, (by decide), (by decide), ⟨rfl, rfl, rfl, rfl, rfl, trivial⟩, rfl⟩
          | exact Has.intro ⟨3, (by decide), (by decide), ⟨rfl, rfl, rfl, rfl, rfl, trivial⟩, rfl⟩
    · have : i = 3 := by omega
      subst this
      refine Has.intro (Has.intro ?_)
      exact ⟨rfl, ⟨rfl, rfl, trivial⟩, rfl⟩
  by_cases h3 : vR (vadd a b)
  · (repeat (first | refine hgetK_last ?_ | refine hgetK_set ?_ | refine hgetK_has _ rfl ?_ | refine needK_has rfl ?_ | refine getK_has rfl ?_ | refine secK_has rfl (by first | exact Nat.le_refl _ | decide) ?_ | refine eqK_has ?_))
    refine callPK_has (of_ok (vadd a b)) ?_
    (repeat (first | refine hgetK_last ?_ | refine hgetK_set ?_ | refine hgetK_has _ rfl ?_ | refine needK_has rfl ?_ | refine getK_has rfl ?_ | refine secK_has rfl (by first | exact Nat.le_refl _ | decide) ?_ | refine eqK_has ?_))
    refine callPK_dec_t (right_ok (vadd a b)) h3 ?_
    (repeat (first | refine hgetK_last ?_ | refine hgetK_set ?_ | refine hgetK_has _ rfl ?_ | refine needK_has rfl ?_ | refine getK_has rfl ?_ | refine secK_has rfl (by first | exact Nat.le_refl _ | decide) ?_ | refine eqK_has ?_))
    refine Has.intro (Has.intro ?_)
    unfold addV; rw [if_pos ⟨h1, h2, h3⟩]; rfl
  · (repeat (first | refine hgetK_last ?_ | refine hgetK_set ?_ | refine hgetK_has _ rfl ?_ | refine needK_has rfl ?_ | refine getK_has rfl ?_ | refine secK_has rfl (by first | exact Nat.le_refl _ | decide) ?_ | refine eqK_has ?_))
    refine callPK_has (of_ok (vadd a b)) ?_
    (repeat (first | refine hgetK_last ?_ | refine hgetK_set ?_ | refine hgetK_has _ rfl ?_ | refine needK_has rfl ?_ | refine getK_has rfl ?_ | refine secK_has rfl (by first | exact Nat.le_refl _ | decide) ?_ | refine eqK_has ?_))
    refine callPK_dec_f (right_ok (vadd a b)) h3 ?_
    (repeat (first | refine hgetK_last ?_ | refine hgetK_set ?_ | refine hgetK_has _ rfl ?_ | refine needK_has rfl ?_ | refine getK_has rfl ?_ | refine secK_has rfl (by first | exact Nat.le_refl _ | decide) ?_ | refine eqK_has ?_))
    refine Has.intro (Has.intro ?_)
    unfold addV; rw [if_neg (fun hh => h3 hh.2.2)]; rfl
theorem add2_ok (a b : Vc) : EP (EE env) 46 [.agg (vc a), .agg (vc b)] = some (pairV (addV a b)) := by
  refine Has.eq (EP_has ?_)
  (repeat (first | refine hgetK_last ?_ | refine hgetK_set ?_ | refine hgetK_has _ rfl ?_ | refine needK_has rfl ?_ | refine getK_has rfl ?_ | refine secK_has rfl (by first | exact Nat.le_refl _ | decide) ?_ | refine eqK_has ?_))
  refine callPK_has (both_ok a b) ?_
  cases h : addV a b with
  | some v =>
    (repeat (first | refine hgetK_last ?_ | refine hgetK_set ?_ | refine hgetK_has _ rfl ?_ | refine needK_has rfl ?_ | refine getK_has rfl ?_ | refine secK_has rfl (by first | exact Nat.le_refl _ | decide) ?_ | refine eqK_has ?_))
    exact Has.intro (Has.intro rfl)
  | none =>
    (repeat (first | refine hgetK_last ?_ | refine hgetK_set ?_ | refine hgetK_has _ rfl ?_ | refine needK_has rfl ?_ | refine getK_has rfl ?_ | refine secK_has rfl (by first | exact Nat.le_refl _ | decide) ?_ | refine eqK_has ?_))
    exact Has.intro (Has.intro rfl)
def unlike (a b : Vc) : List PV := [.bool (a.c != b.c), .bool (a.m != b.m), .bool (a.h != b.h)]
theorem unlike_ok (a b : Vc) : EP (EE env) 40 [.agg (vc a), .agg (vc b)] = some (.agg (unlike a b)) := by
  refine Has.eq (EP_has ?_)
  (repeat (first | refine hgetK_last ?_ | refine hgetK_set ?_ | refine hgetK_has _ rfl ?_ | refine needK_has rfl ?_ | refine getK_has rfl ?_ | refine secK_has rfl (by first | exact Nat.le_refl _ | decide) ?_ | refine eqK_has ?_))
  refine boolK_has_keep ?_
  (repeat (first | refine hgetK_last ?_ | refine hgetK_set ?_ | refine hgetK_has _ rfl ?_ | refine needK_has rfl ?_ | refine getK_has rfl ?_ | refine secK_has rfl (by first | exact Nat.le_refl _ | decide) ?_ | refine eqK_has ?_))
  refine boolK_has_keep ?_
  (repeat (first | refine hgetK_last ?_ | refine hgetK_set ?_ | refine hgetK_has _ rfl ?_ | refine needK_has rfl ?_ | refine getK_has rfl ?_ | refine secK_has rfl (by first | exact Nat.le_refl _ | decide) ?_ | refine eqK_has ?_))
  refine boolK_has_keep ?_
  (repeat (first | refine hgetK_last ?_ | refine hgetK_set ?_ | refine hgetK_has _ rfl ?_ | refine needK_has rfl ?_ | refine getK_has rfl ?_ | refine secK_has rfl (by first | exact Nat.le_refl _ | decide) ?_ | refine eqK_has ?_))
  exact Has.intro (Has.intro rfl)
def givenB (a b : Vc) : Bool := ((a.c == 0) != (b.c == 0)) || ((a.m == 0) != (b.m == 0))
theorem given_ok (a b : Vc) : EP (EE env) 42 [.agg (vc a), .agg (vc b)] = some (.bool (givenB a b)) := by
  refine Has.eq (EP_has ?_)
  (repeat (first | refine hgetK_last ?_ | refine hgetK_set ?_ | refine hgetK_has _ rfl ?_ | refine needK_has rfl ?_ | refine getK_has rfl ?_ | refine secK_has rfl (by first | exact Nat.le_refl _ | decide) ?_ | refine eqK_has ?_))
  refine boolK_beq (fun _ => ?_) (fun _ => ?_)
  all_goals (repeat (first | refine hgetK_has _ rfl ?_ | refine needK_has rfl ?_ | refine getK_has rfl ?_))
  all_goals refine boolK_beq (fun _ => ?_) (fun _ => ?_)
  all_goals (first | refine boolK_has_true rfl ?_ | refine boolK_has_false rfl ?_)
  all_goals (repeat (first | refine hgetK_has _ rfl ?_ | refine needK_has rfl ?_ | refine getK_has rfl ?_))
  all_goals (try refine boolK_beq (fun _ => ?_) (fun _ => ?_))
  all_goals (repeat (first | refine hgetK_has _ rfl ?_ | refine needK_has rfl ?_ | refine getK_has rfl ?_))
  all_goals (try refine boolK_beq (fun _ => ?_) (fun _ => ?_))
  all_goals (try first | refine boolK_has_true rfl ?_ | refine boolK_has_false rfl ?_)
  all_goals
    refine Has.intro (Has.intro ?_)
    refine congrArg PV.bool ?_
    have hb : ∀ x : Int, (x == 0) = decide (x = 0) := fun x => by rw [Bool.eq_iff_iff]; simp
    unfold givenB
    simp only [hb]
    simp [*]
end Go.Proofs.Ytnnhkkocdgegfaa
