/-
  Writes, new groups, and whether the rules hold.
-/
import Derived.Test.YtaiomdfajdeacaaPRuB
set_option linter.all false
set_option linter.unusedVariables false
set_option linter.unusedSimpArgs false
set_option linter.unusedSectionVars false
namespace Go.Proofs.Ytaiomdfajdeacaa
open Go Go.VM

def wr (up own : Kn) (l : List Kn) (used f n : Int) : Int :=
  if ¬ num f n then 2 else if bound f ∧ ¬ between up l f n then 23 else if (f = 2 ∧ n > own.mx) ∨ (f = 3 ∧ n < own.mn) then 23 else if f = 3 ∧ n < used then 24 else 0
theorem num_bound {f n : Int} (h : num f n) : bound f ↔ f ≠ 1 := by unfold num at h; unfold bound; omega

section
variable (up own : Kn) (x : Ext) (l : List Kn) (hl : l.length ≤ maxLen) (used f n : Int)
include hl
set_option maxHeartbeats 2000000 in
theorem rwrite_ok : EP (EE env) 17 [.agg (kn up), .agg (kn own), .sl x l.length (kns l), .int .i64 used, .int .i64 f, .int .i64 n] = some (.int .i64 (wr up own l used f n)) := by
  have hb := num_bound (f := f) (n := n)
  refine Has.eq (EP_has ?_)
  repeat' (first
    | refine hgetK_has _ rfl ?_
    | refine getK_has rfl ?_
    | refine secK_has (v := kn up) rfl (Nat.le_refl _) ?_
    | refine boolK_beq (fun _ => ?_) (fun _ => ?_)
    | refine boolK_bne (fun _ => ?_) (fun _ => ?_)
    | refine boolK_dec (fun _ => ?_) (fun _ => ?_)
    | refine callPK_dec (rnum_ok _ _) (fun _ => ?_) (fun _ => ?_)
    | refine callPK_dec (wrong_ok up x l hl f n) (fun _ => ?_) (fun _ => ?_)
    | fail)
  all_goals
    refine Has.intro (Has.intro ?_)
    refine congrArg (PV.int .i64) ?_
    unfold wr
    repeat' split
    all_goals first
      | rfl
      | (exfalso; omega)
      | (exfalso; simp_all; done)
      | (exfalso; simp_all; omega)

/-- All rules. -/
def below (up own : Kn) (l : List Kn) : Prop := between up l 0 own.c ∧ between up l 2 own.mn ∧ between up l 3 own.mx ∧ between up l 4 own.hg
instance : Decidable (below up own l) := by unfold below; infer_instance
def holds (up own : Kn) (l : List Kn) (used : Int) : Prop := below up own l ∧ own.mn ≤ own.mx ∧ used ≤ own.mx
instance : Decidable (holds up own l used) := by unfold holds; infer_instance
omit hl in
theorem below_iff : below up own l ↔ ∀ f : Nat, f < 5 → bound f → between up l f (at_ own f) := by
  constructor
  · intro ⟨h0, h2, h3, h4⟩ f hf hb
    have : f = 0 ∨ f = 2 ∨ f = 3 ∨ f = 4 := by unfold bound at hb; omega
    rcases this with e | e | e | e <;> subst e
    · exact h0
    · exact h2
    · exact h3
    · exact h4
  · intro h
    exact ⟨h 0 (by decide) (by decide), h 2 (by decide) (by decide), h 3 (by decide) (by decide), h 4 (by decide) (by decide)⟩

def fsv (i : Nat) : Int := ([0, 2, 3, 4] : List Int).getD i 0
/-- Up to i of the files. -/
def stb (up own : Kn) (l : List Kn) (used : Int) : Nat → Bool
  | 0 => decide (own.mn ≤ own.mx) && decide (used ≤ own.mx)
  | i + 1 => stb up own l used i && decide (between up l (fsv i) (at_ own (fsv i)))
omit hl in
theorem stb_end : stb up own l used 4 = decide (holds up own l used) := by
  have e : stb up own l used 4 = ((((decide (own.mn ≤ own.mx) && decide (used ≤ own.mx)) && decide (between up l 0 own.c)) && decide (between up l 2 own.mn)) && decide (between up l 3 own.mx) && decide (between up l 4 own.hg)) := rfl
  have hh : holds up own l used ↔ ((between up l 0 own.c ∧ between up l 2 own.mn ∧ between up l 3 own.mx ∧ between up l 4 own.hg) ∧ own.mn ≤ own.mx ∧ used ≤ own.mx) := Iff.rfl
  rw [e, Bool.eq_iff_iff, decide_eq_true_iff, hh]
  simp only [Bool.and_eq_true, decide_eq_true_eq]
  exact ⟨fun ⟨⟨⟨⟨⟨h1, h2⟩, h3⟩, h4⟩, h5⟩, h6⟩ => ⟨⟨h3, h4, h5, h6⟩, h1, h2⟩, fun ⟨⟨h3, h4, h5, h6⟩, h1, h2⟩ => ⟨⟨⟨⟨⟨h1, h2⟩, h3⟩, h4⟩, h5⟩, h6⟩⟩
omit hl in
theorem fs_get : ∀ i : Nat, i < 4 → ([PV.int .i64 0, .int .i64 2, .int .i64 3, .int .i64 4] : List PV)[i]? = some (.int .i64 (fsv i)) := by
  intro i hi
  have : i = 0 ∨ i = 1 ∨ i = 2 ∨ i = 3 := by omega
  rcases this with e | e | e | e <;> subst e <;> rfl

end

/-- A new group. -/
def mk (up own : Kn) : Int := if ¬ right own then 2 else if ¬ below up own [] then 23 else 0
theorem between_nil (up : Kn) (f n : Int) : between up [] f n ↔ n ≤ at_ up f := by
  unfold between over
  constructor
  · intro h; exact h.1
  · intro h; exact ⟨h, fun ⟨k, hk, _⟩ => by cases hk⟩
/-- Knobs with one file written. -/
def with_ (k : Kn) (f n : Int) : Kn := if f = 0 then { k with c := n } else if f = 1 then { k with w := n } else if f = 2 then { k with mn := n } else if f = 3 then { k with mx := n } else if f = 4 then { k with hg := n } else k
theorem with_ok (k : Kn) (f n : Int) : EP (EE env) 32 [.agg (kn k), .int .i64 f, .int .i64 n] = some (.agg (kn (with_ k f n))) := by
  refine Has.eq (EP_has ?_)
  unfold with_
  refine boolK_beq (fun h => ?_) (fun h => ?_)
  · rw [if_pos h]
    refine hgetK_has _ rfl ?_
    refine needK_has rfl ?_
    refine eqK_has_eq (kn { k with c := n }) rfl ?_
    refine hgetK_has _ rfl ?_
    refine secK_has (v := kn { k with c := n }) rfl (Nat.le_refl _) ?_
    refine hgetK_has _ rfl ?_
    refine needK_has rfl ?_
    refine eqK_has_eq (kn { k with c := n }) rfl ?_
    refine hgetK_has _ rfl ?_
    refine secK_has (v := kn { k with c := n }) rfl (Nat.le_refl _) ?_
    exact Has.intro (Has.intro rfl)
  rw [if_neg h]
  refine boolK_beq (fun h => ?_) (fun h => ?_)
  · rw [if_pos h]
    refine hgetK_has _ rfl ?_
    refine needK_has rfl ?_
    refine eqK_has_eq (kn { k with w := n }) rfl ?_
    refine hgetK_has _ rfl ?_
    refine secK_has (v := kn { k with w := n }) rfl (Nat.le_refl _) ?_
    refine hgetK_has _ rfl ?_
    refine needK_has rfl ?_
    refine eqK_has_eq (kn { k with w := n }) rfl ?_
    refine hgetK_has _ rfl ?_
    refine secK_has (v := kn { k with w := n }) rfl (Nat.le_refl _) ?_
    exact Has.intro (Has.intro rfl)
  rw [if_neg h]
  refine boolK_beq (fun h => ?_) (fun h => ?_)
  · rw [if_pos h]
    refine hgetK_has _ rfl ?_
    refine needK_has rfl ?_
    refine eqK_has_eq (kn { k with mn := n }) rfl ?_
    refine hgetK_has _ rfl ?_
    refine secK_has (v := kn { k with mn := n }) rfl (Nat.le_refl _) ?_
    refine hgetK_has _ rfl ?_
    refine needK_has rfl ?_
    refine eqK_has_eq (kn { k with mn := n }) rfl ?_
    refine hgetK_has _ rfl ?_
    refine secK_has (v := kn { k with mn := n }) rfl (Nat.le_refl _) ?_
    exact Has.intro (Has.intro rfl)
  rw [if_neg h]
  refine boolK_beq (fun h => ?_) (fun h => ?_)
  · rw [if_pos h]
    refine hgetK_has _ rfl ?_
    refine needK_has rfl ?_
    refine eqK_has_eq (kn { k with mx := n }) rfl ?_
    refine hgetK_has _ rfl ?_
    refine secK_has (v := kn { k with mx := n }) rfl (Nat.le_refl _) ?_
    refine hgetK_has _ rfl ?_
    refine needK_has rfl ?_
    refine eqK_has_eq (kn { k with mx := n }) rfl ?_
    refine hgetK_has _ rfl ?_
    refine secK_has (v := kn { k with mx := n }) rfl (Nat.le_refl _) ?_
    exact Has.intro (Has.intro rfl)
  rw [if_neg h]
  refine boolK_beq (fun h => ?_) (fun h => ?_)
  · rw [if_pos h]
    refine hgetK_has _ rfl ?_
    refine needK_has rfl ?_
    refine eqK_has_eq (kn { k with hg := n }) rfl ?_
    refine hgetK_has _ rfl ?_
    refine secK_has (v := kn { k with hg := n }) rfl (Nat.le_refl _) ?_
    refine hgetK_has _ rfl ?_
    refine needK_has rfl ?_
    refine eqK_has_eq (kn { k with hg := n }) rfl ?_
    refine hgetK_has _ rfl ?_
    refine secK_has (v := kn { k with hg := n }) rfl (Nat.le_refl _) ?_
    exact Has.intro (Has.intro rfl)
  · rw [if_neg h]
    refine hgetK_has _ rfl ?_
    refine secK_has (v := kn k) rfl (Nat.le_refl _) ?_
    refine hgetK_has _ rfl ?_
    refine needK_has rfl ?_
    refine eqK_has_eq (kn k) rfl ?_
    refine hgetK_has _ rfl ?_
    refine secK_has (v := kn k) rfl (Nat.le_refl _) ?_
    exact Has.intro (Has.intro rfl)
end Go.Proofs.Ytaiomdfajdeacaa
