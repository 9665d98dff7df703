/-
  What may be written: what the program's and the document's functions compute.
-/
import Derived.Test.YtaiomdfajdeacaaVmC
set_option linter.all false
set_option linter.unusedVariables false
set_option linter.unusedSimpArgs false
set_option linter.unusedSectionVars false
namespace Go.Proofs.Ytaiomdfajdeacaa
open Go Go.VM

/-- A group's knobs. -/
structure Kn where
  c : Int
  w : Int
  mn : Int
  mx : Int
  hg : Int
def kn (k : Kn) : List PV := [.int .i64 k.c, .int .i64 k.w, .int .i64 k.mn, .int .i64 k.mx, .int .i64 k.hg]
def at_ (k : Kn) (f : Int) : Int := if f = 0 then k.c else if f = 1 then k.w else if f = 2 then k.mn else if f = 3 then k.mx else if f = 4 then k.hg else 0

theorem parts_ok (k : Kn) : EP (EE env) 38 [.agg (kn k)] = some (.agg (kn k)) := by
  refine Has.eq (EP_has ?_)
  repeat' (first
    | refine hgetK_has _ rfl ?_
    | refine getK_has rfl ?_
    | refine needK_has rfl ?_
    | refine eqK_has_eq (kn k) rfl ?_
    | refine secK_has (v := kn k) rfl (Nat.le_refl _) ?_
    | fail)
  exact Has.intro (Has.intro rfl)

theorem at_ok (k : Kn) (f : Int) : EP (EE env) 35 [.agg (kn k), .int .i64 f] = some (.int .i64 (at_ k f)) := by
  refine Has.eq (EP_has ?_)
  have out : f < 0 ∨ 4 < f → at_ k f = 0 := fun h => by unfold at_; rw [if_neg (by omega), if_neg (by omega), if_neg (by omega), if_neg (by omega), if_neg (by omega)]
  refine boolK_dec (fun h => ?_) (fun h => ?_)
  · refine Has.intro (Has.intro ?_)
    rw [out (by omega)]
  · refine boolK_dec (fun h => ?_) (fun h => ?_)
    · refine Has.intro (Has.intro ?_)
      rw [out (by omega)]
    · refine hgetK_has _ rfl ?_
      refine secK_has (v := kn k) rfl (Nat.le_refl _) ?_
      refine callPK_has (parts_ok k) ?_
      refine needK_has (by simp; omega) ?_
      have c : f = 0 ∨ f = 1 ∨ f = 2 ∨ f = 3 ∨ f = 4 := by omega
      rcases c with c | c | c | c | c <;> subst c
      all_goals
        refine getK_has rfl ?_
        exact Has.intro (Has.intro rfl)
theorem rat_ok (k : Kn) (f : Int) : EP (EE env) 25 [.agg (kn k), .int .i64 f] = some (.int .i64 (at_ k f)) := by
  refine Has.eq (EP_has ?_)
  repeat' (first
    | refine hgetK_has _ rfl ?_
    | refine getK_has rfl ?_
    | refine boolK_beq (fun _ => ?_) (fun _ => ?_)
    | fail)
  all_goals
    refine Has.intro (Has.intro ?_)
    simp_all [at_]

def bound (f : Int) : Prop := f = 0 ∨ f = 2 ∨ f = 3 ∨ f = 4
instance (f : Int) : Decidable (bound f) := by unfold bound; infer_instance
def num (f n : Int) : Prop := (f = 1 ∧ 1 ≤ n ∧ n ≤ 10000) ∨ ((f = 0 ∨ f = 3) ∧ (n = 4611686018427387904 ∨ 0 ≤ n ∧ n ≤ 9007199254740992)) ∨ ((f = 2 ∨ f = 4) ∧ 0 ≤ n ∧ n ≤ 9007199254740992)
instance (f n : Int) : Decidable (num f n) := by unfold num; infer_instance
theorem rnum_ok (f n : Int) : EP (EE env) 33 [.int .i64 f, .int .i64 n] = some (.bool (decide (num f n))) := by
  refine Has.eq (EP_has ?_)
  repeat' (first
    | refine boolK_beq (fun _ => ?_) (fun _ => ?_)
    | refine boolK_dec (fun _ => ?_) (fun _ => ?_)
    | fail)
  all_goals
    refine Has.intro (Has.intro ?_)
    first
      | exact yes (by unfold num; omega)
      | exact no (by unfold num; omega)
      | (exfalso; omega)

def sumP (n : Int) : Prop := 0 ≤ n ∧ n ≤ 9007199254740992
instance (n : Int) : Decidable (sumP n) := by unfold sumP; infer_instance
theorem sum_ok (n : Int) : EP (EE env) 37 [.int .i64 n] = some (.bool (decide (sumP n))) := by
  refine Has.eq (EP_has ?_)
  repeat' (first
    | refine boolK_dec (fun _ => ?_) (fun _ => ?_)
    | fail)
  all_goals
    refine Has.intro (Has.intro ?_)
    first
      | exact yes (by unfold sumP; omega)
      | exact no (by unfold sumP; omega)
      | fail

def right (k : Kn) : Prop := (k.c = 4611686018427387904 ∨ sumP k.c) ∧ (k.mx = 4611686018427387904 ∨ sumP k.mx) ∧ (1 ≤ k.w ∧ k.w ≤ 10000) ∧ sumP k.mn ∧ sumP k.hg ∧ k.mn ≤ k.mx
instance (k : Kn) : Decidable (right k) := by unfold right; infer_instance
theorem right_ok (k : Kn) : EP (EE env) 27 [.agg (kn k)] = some (.bool (decide (right k))) := by
  refine Has.eq (EP_has ?_)
  repeat' (first
    | refine hgetK_has _ rfl ?_
    | refine getK_has rfl ?_
    | refine boolK_beq (fun _ => ?_) (fun _ => ?_)
    | refine boolK_dec (fun _ => ?_) (fun _ => ?_)
    | refine callPK_dec (sum_ok _) (fun _ => ?_) (fun _ => ?_)
    | fail)
  all_goals
    refine Has.intro (Has.intro ?_)
    first
      | exact yes (by unfold right sumP at *; omega)
      | exact no (by unfold right sumP at *; omega)
      | (exfalso; unfold sumP at *; omega)
set_option maxHeartbeats 2000000 in
theorem rright_ok (k : Kn) : EP (EE env) 28 [.agg (kn k)] = some (.bool (decide (right k))) := by
  refine Has.eq (EP_has ?_)
  repeat' (first
    | refine hgetK_has _ rfl ?_
    | refine getK_has rfl ?_
    | refine boolK_beq (fun _ => ?_) (fun _ => ?_)
    | refine boolK_dec (fun _ => ?_) (fun _ => ?_)
    | fail)
  all_goals
    refine Has.intro (Has.intro ?_)
    first
      | exact yes (by unfold right sumP at *; omega)
      | exact no (by unfold right sumP at *; omega)
      | (exfalso; unfold sumP at *; omega)
end Go.Proofs.Ytaiomdfajdeacaa
