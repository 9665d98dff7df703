/-
  Containers.
-/
import Derived.Test.YtnnhkkocdgegfaaSpB
set_option linter.all false
set_option linter.unusedVariables false
set_option linter.unusedSimpArgs false
set_option linter.unusedSectionVars false
namespace Go.Proofs.Ytnnhkkocdgegfaa
open Go Go.VM

structure Ct where
  name : List UInt8
  rq : Vc
  lm : Vc
  r0 : Bool
  r1 : Bool
  r2 : Bool
def ct (c : Ct) : List PV := [sv c.name, .int .i64 c.rq.c, .int .i64 c.rq.m, .int .i64 c.rq.h, .int .i64 c.lm.c, .int .i64 c.lm.m, .int .i64 c.lm.h, .bool c.r0, .bool c.r1, .bool c.r2]
theorem ct_len (c : Ct) : (ct c).length = 10 := rfl
def cP (c : Ct) : Prop := nameB c.name = true ∧ vR c.rq ∧ vR c.lm ∧ c.rq.h = c.lm.h ∧ (c.lm.c = 0 ∨ c.rq.c ≤ c.lm.c) ∧ (c.lm.m = 0 ∨ c.rq.m ≤ c.lm.m)
instance (c : Ct) : Decidable (cP c) := by unfold cP; infer_instance
theorem name_dec (l : List UInt8) (hl : l.length ≤ maxLen) : EP (EE env) 9 [sv l] = some (.bool (decide (nameB l = true))) := (name_ok l hl).trans (by cases nameB l <;> rfl)
theorem rname_dec (l : List UInt8) (hl : l.length ≤ maxLen) : EP (EE env) 10 [sv l] = some (.bool (decide (nameB l = true))) := (rname_ok l hl).trans (by cases nameB l <;> rfl)
set_option maxHeartbeats 2000000 in
theorem ctr_ok (c : Ct) (hl : c.name.length ≤ maxLen) : EP (EE env) 11 [.agg (ct c)] = some (.bool (decide (cP c))) := by
  refine Has.eq (EP_has (fn_has rfl ?_))
  refine seq_on [(1, .ptr 0 0)] [.pcells (ct c)] (by (repeat (first | refine hgetK_last ?_ | refine hgetK_set ?_ | refine hgetK_has _ rfl ?_ | refine needK_has rfl ?_ | refine getK_has rfl ?_ | refine secK_has rfl (of_decide_eq_true rfl) ?_ | refine eqK_has ?_)); (refine Has.intro ⟨rfl, ?_, rfl⟩; (repeat (first | exact trivial | refine ⟨rfl, ?_⟩)))) (fun r => ?_)
  refine seq_if [(2, .pv (.bool false))] (¬ cP c) [(1, .ptr 0 0)] (nameB c.name = true ∧ vR c.rq ∧ vR c.lm ∧ c.rq.h = c.lm.h) [.pcells (ct c)] ?_ (fun h r => ?_) (fun ⟨h1, h2, h3, h4⟩ r => ?_)
  · (repeat (first | refine hgetK_last ?_ | refine hgetK_set ?_ | refine hgetK_has _ rfl ?_ | refine needK_has rfl ?_ | refine getK_has rfl ?_ | refine secK_has rfl (of_decide_eq_true rfl) ?_ | refine eqK_has ?_))
    refine callPK_dec (name_dec c.name hl) (fun h1 => ?_) (fun h1 => ?_)
    · (repeat (first | refine hgetK_last ?_ | refine hgetK_set ?_ | refine hgetK_has _ rfl ?_ | refine needK_has rfl ?_ | refine getK_has rfl ?_ | refine secK_has rfl (of_decide_eq_true rfl) ?_ | refine eqK_has ?_))
      refine callPK_dec (right_ok c.rq) (fun h2 => ?_) (fun h2 => ?_)
      · (repeat (first | refine hgetK_last ?_ | refine hgetK_set ?_ | refine hgetK_has _ rfl ?_ | refine needK_has rfl ?_ | refine getK_has rfl ?_ | refine secK_has rfl (of_decide_eq_true rfl) ?_ | refine eqK_has ?_))
        refine callPK_dec (right_ok c.lm) (fun h3 => ?_) (fun h3 => ?_)
        · (repeat (first | refine hgetK_last ?_ | refine hgetK_set ?_ | refine hgetK_has _ rfl ?_ | refine needK_has rfl ?_ | refine getK_has rfl ?_ | refine secK_has rfl (of_decide_eq_true rfl) ?_ | refine eqK_has ?_))
          refine boolK_bne (fun h4 => ?_) (fun h4 => ?_)
          · exact Has.intro (.inl ⟨rfl, ⟨rfl, trivial⟩, rfl, fun h => h4 h.2.2.2.1⟩)
          · exact Has.intro (.inr ⟨rfl, ⟨rfl, trivial⟩, rfl, h1, h2, h3, h4⟩)
        · (repeat (first | refine hgetK_last ?_ | refine hgetK_set ?_ | refine hgetK_has _ rfl ?_ | refine needK_has rfl ?_ | refine getK_has rfl ?_ | refine secK_has rfl (of_decide_eq_true rfl) ?_ | refine eqK_has ?_))
          exact Has.intro (.inl ⟨rfl, ⟨rfl, trivial⟩, rfl, fun h => h3 h.2.2.1⟩)
      · (repeat (first | refine hgetK_last ?_ | refine hgetK_set ?_ | refine hgetK_has _ rfl ?_ | refine needK_has rfl ?_ | refine getK_has rfl ?_ | refine secK_has rfl (of_decide_eq_true rfl) ?_ | refine eqK_has ?_))
        exact Has.intro (.inl ⟨rfl, ⟨rfl, trivial⟩, rfl, fun h => h2 h.2.1⟩)
    · (repeat (first | refine hgetK_last ?_ | refine hgetK_set ?_ | refine hgetK_has _ rfl ?_ | refine needK_has rfl ?_ | refine getK_has rfl ?_ | refine secK_has rfl (of_decide_eq_true rfl) ?_ | refine eqK_has ?_))
      exact Has.intro (.inl ⟨rfl, ⟨rfl, trivial⟩, rfl, fun h => h1 h.1⟩)
  · rw [decide_eq_false h]
    exact Has.intro (Has.intro rfl)
  have b3 := vR_in h3
  refine seq_if [(2, .pv (.bool false))] (¬ cP c) [(1, .ptr 0 0)] (cP c) [.pcells (ct c)] ?_ (fun h r => ?_) (fun h r => ?_)
  · refine loopK_has ?_
    refine iterE_loop (σ := Nat) (fun i => 2 - i) (fun i => [(1, .ptr 0 0), (3, .pv (.int .i64 i))]) (fun _ => [.pcells (ct c)]) (fun i => i ≤ 2 ∧ (0 < i → (c.lm.c = 0 ∨ c.rq.c ≤ c.lm.c)) ∧ (1 < i → (c.lm.m = 0 ∨ c.rq.m ≤ c.lm.m))) (fun i ⟨hi, f0, f1⟩ r => ?_) 0 ⟨by decide, (by omega), (by omega)⟩ ⟨rfl, rfl, trivial⟩ rfl
    refine boolK_dec (fun hc => ?_) (fun hc => ?_)
    · have h3 : i = 0 ∨ i = 1 := by omega
      rcases h3 with rfl | rfl
      all_goals
        (repeat (first | refine hgetK_has _ rfl ?_ | refine needK_has rfl ?_ | refine getK_has rfl ?_))
        (repeat (first | refine hgetK_last ?_ | refine hgetK_set ?_ | refine hgetK_has _ rfl ?_ | refine needK_has rfl ?_ | refine getK_has rfl ?_ | refine secK_has rfl (of_decide_eq_true rfl) ?_ | refine eqK_has ?_))
        refine callPK_has (at_ok c.lm _ (by decide)) ?_
        refine boolK_dec (fun g1 => ?_) (fun g1 => ?_)
        · (repeat (first | refine hgetK_last ?_ | refine hgetK_set ?_ | refine hgetK_has _ rfl ?_ | refine needK_has rfl ?_ | refine getK_has rfl ?_ | refine secK_has rfl (of_decide_eq_true rfl) ?_ | refine eqK_has ?_))
          refine callPK_has (at_ok c.rq _ (by decide)) ?_
          refine boolK_dec (fun g2 => ?_) (fun g2 => ?_)
          · simp only [if_true, if_false, Nat.one_ne_zero] at g1 g2
            refine Has.intro (Has.intro (.inl ⟨rfl, ⟨rfl, trivial⟩, rfl, fun h => ?_⟩))
            have := h.2.2.2.2
            omega
          · simp only [if_true, if_false, Nat.one_ne_zero] at g1 g2
            (repeat (first | refine hgetK_last ?_ | refine hgetK_set ?_ | refine hgetK_has _ rfl ?_ | refine needK_has rfl ?_ | refine getK_has rfl ?_ | refine secK_has rfl (of_decide_eq_true rfl) ?_ | refine eqK_has ?_))
            first
              | exact Has.intro ⟨1, ⟨(by decide), (fun _ => by omega), (by omega)⟩, (by decide), ⟨rfl, rfl, trivial⟩, rfl⟩
              | exact Has.intro ⟨2, ⟨(by decide), (fun _ => f0 (by decide)), (fun _ => by omega)⟩, (by decide), ⟨rfl, rfl, trivial⟩, rfl⟩
        · simp only [if_true, if_false, Nat.one_ne_zero] at g1
          (repeat (first | refine hgetK_last ?_ | refine hgetK_set ?_ | refine hgetK_has _ rfl ?_ | refine needK_has rfl ?_ | refine getK_has rfl ?_ | refine secK_has rfl (of_decide_eq_true rfl) ?_ | refine eqK_has ?_))
          first
            | exact Has.intro ⟨1, ⟨(by decide), (fun _ => by omega), (by omega)⟩, (by decide), ⟨rfl, rfl, trivial⟩, rfl⟩
            | exact Has.intro ⟨2, ⟨(by decide), (fun _ => f0 (by decide)), (fun _ => by omega)⟩, (by decide), ⟨rfl, rfl, trivial⟩, rfl⟩
    · have : i = 2 := by omega
      subst this
      exact Has.intro (Has.intro (.inr ⟨rfl, ⟨rfl, trivial⟩, rfl, h1, h2, h3, h4, f0 (by decide), f1 (by decide)⟩))
  · rw [decide_eq_false h]
    exact Has.intro (Has.intro rfl)
  · rw [decide_eq_true h]
    exact Has.intro (Has.intro rfl)
set_option maxHeartbeats 2000000 in
theorem rctr_ok (c : Ct) (hl : c.name.length ≤ maxLen) : EP (EE env) 12 [.agg (ct c)] = some (.bool (decide (cP c))) := by
  refine Has.eq (EP_has (fn_has rfl ?_))
  refine seq_on [(1, .ptr 0 0)] [.pcells (ct c)] (by (repeat (first | refine hgetK_last ?_ | refine hgetK_set ?_ | refine hgetK_has _ rfl ?_ | refine needK_has rfl ?_ | refine getK_has rfl ?_ | refine secK_has rfl (of_decide_eq_true rfl) ?_ | refine eqK_has ?_)); (refine Has.intro ⟨rfl, ?_, rfl⟩; (repeat (first | exact trivial | refine ⟨rfl, ?_⟩)))) (fun r => ?_)
  refine seq_on [(1, .ptr 0 0), (3, .ptr 1 0), (4, .ptr 2 0)] [.pcells (ct c), .pcells (vc c.rq), .pcells (vc c.lm)] ?_ (fun r => ?_)
  · (repeat (first | refine hgetK_last ?_ | refine hgetK_set ?_ | refine hgetK_has _ rfl ?_ | refine needK_has rfl ?_ | refine getK_has rfl ?_ | refine secK_has rfl (of_decide_eq_true rfl) ?_ | refine eqK_has ?_))
    refine sameK_has rfl rfl ?_
    (refine Has.intro ⟨rfl, ?_, rfl⟩; (repeat (first | exact trivial | refine ⟨rfl, ?_⟩)))
  (repeat (first | refine hgetK_last ?_ | refine hgetK_set ?_ | refine hgetK_has _ rfl ?_ | refine needK_has rfl ?_ | refine getK_has rfl ?_ | refine secK_has rfl (of_decide_eq_true rfl) ?_ | refine eqK_has ?_))
  refine callPK_dec (rname_dec c.name hl) (fun h1 => ?_) (fun h1 => ?_)
  · (repeat (first | refine hgetK_last ?_ | refine hgetK_set ?_ | refine hgetK_has _ rfl ?_ | refine needK_has rfl ?_ | refine getK_has rfl ?_ | refine secK_has rfl (of_decide_eq_true rfl) ?_ | refine eqK_has ?_))
    refine callPK_dec (rright_ok c.rq) (fun h2 => ?_) (fun h2 => ?_)
    · (repeat (first | refine hgetK_last ?_ | refine hgetK_set ?_ | refine hgetK_has _ rfl ?_ | refine needK_has rfl ?_ | refine getK_has rfl ?_ | refine secK_has rfl (of_decide_eq_true rfl) ?_ | refine eqK_has ?_))
      refine callPK_dec (rright_ok c.lm) (fun h3 => ?_) (fun h3 => ?_)
      · have b3 := vR_in h3
        (repeat (first | refine hgetK_last ?_ | refine hgetK_set ?_ | refine hgetK_has _ rfl ?_ | refine needK_has rfl ?_ | refine getK_has rfl ?_ | refine secK_has rfl (of_decide_eq_true rfl) ?_ | refine eqK_has ?_))
        refine boolK_beq (fun g1 => ?_) (fun g1 => ?_)
        all_goals (repeat (first | refine hgetK_has _ rfl ?_ | refine needK_has rfl ?_ | refine getK_has rfl ?_))
        all_goals (try refine boolK_dec (fun g2 => ?_) (fun g2 => ?_))
        all_goals (repeat (first | refine hgetK_has _ rfl ?_ | refine needK_has rfl ?_ | refine getK_has rfl ?_))
        all_goals (try refine boolK_beq (fun g3 => ?_) (fun g3 => ?_))
        all_goals (repeat (first | refine hgetK_has _ rfl ?_ | refine needK_has rfl ?_ | refine getK_has rfl ?_))
        all_goals (try refine boolK_dec (fun g4 => ?_) (fun g4 => ?_))
        all_goals (repeat (first | refine hgetK_has _ rfl ?_ | refine needK_has rfl ?_ | refine getK_has rfl ?_))
        all_goals (try refine boolK_beq (fun g5 => ?_) (fun g5 => ?_))
        all_goals
          refine Has.intro (Has.intro ?_)
          first
            | exact yes (p := cP c) ⟨h1, h2, h3, (by omega), (by omega), (by omega)⟩
            | exact no (p := cP c) (fun h => by have := h.2.2.2; omega)
      · (repeat (first | refine hgetK_last ?_ | refine hgetK_set ?_ | refine hgetK_has _ rfl ?_ | refine needK_has rfl ?_ | refine getK_has rfl ?_ | refine secK_has rfl (of_decide_eq_true rfl) ?_ | refine eqK_has ?_))
        exact Has.intro (Has.intro (no (fun h => h3 h.2.2.1)))
    · (repeat (first | refine hgetK_last ?_ | refine hgetK_set ?_ | refine hgetK_has _ rfl ?_ | refine needK_has rfl ?_ | refine getK_has rfl ?_ | refine secK_has rfl (of_decide_eq_true rfl) ?_ | refine eqK_has ?_))
      exact Has.intro (Has.intro (no (fun h => h2 h.2.1)))
  · (repeat (first | refine hgetK_last ?_ | refine hgetK_set ?_ | refine hgetK_has _ rfl ?_ | refine needK_has rfl ?_ | refine getK_has rfl ?_ | refine secK_has rfl (of_decide_eq_true rfl) ?_ | refine eqK_has ?_))
    exact Has.intro (Has.intro (no (fun h => h1 h.1)))
end Go.Proofs.Ytnnhkkocdgegfaa
