/-
  Writes, new groups, and whether the rules hold.
-/
import Derived.Test.YtiengddmdankiaaRuB
set_option linter.all false
set_option linter.unusedVariables false
set_option linter.unusedSimpArgs false
set_option linter.unusedSectionVars false
namespace Go.Proofs.Ytiengddmdankiaa
open Go Go.VM

def wr (up own : Kn) (l : List Kn) (used f n : Int) : Int :=
  if ¬ num f n then 2 else if bound f ∧ ¬ between up l f n then 23 else if (f = 2 ∧ n > own.mx) ∨ (f = 3 ∧ n < own.mn) then 23 else if f = 3 ∧ n < used then 24 else 0
theorem num_bound {f n : Int} (h : num f n) : bound f ↔ f ≠ 1 := by unfold num at h; unfold bound; omega

section
variable (up own : Kn) (x : Ext) (l : List Kn) (hl : l.length ≤ maxLen) (used f n : Int)
include hl
set_option maxHeartbeats 2000000 in
theorem write_ok : EP (EE env) 10 [.agg (kn up), .agg (kn own), .sl x l.length (kns l), .int .i64 used, .int .i64 f, .int .i64 n] = some (.int .i64 (wr up own l used f n)) := by
  refine Has.eq (EP_has ?_)
  repeat' (first
    | refine hgetK_has _ rfl ?_
    | refine getK_has rfl ?_
    | refine secK_has (v := kn up) rfl (Nat.le_refl _) ?_
    | refine boolK_beq (fun _ => ?_) (fun _ => ?_)
    | refine boolK_dec (fun _ => ?_) (fun _ => ?_)
    | refine callPK_dec (num_ok _ _) (fun _ => ?_) (fun _ => ?_)
    | refine callPK_dec (bound_ok _) (fun _ => ?_) (fun _ => ?_)
    | refine callPK_dec (between_ok up x l hl f n) (fun _ => ?_) (fun _ => ?_)
    | fail)
  all_goals
    refine Has.intro (Has.intro ?_)
    refine congrArg (PV.int .i64) ?_
    unfold wr
    repeat' split
    all_goals first
      | rfl
      | (exfalso; omega)
      | (exfalso; simp_all; done)
      | (exfalso; simp_all; omega)
set_option maxHeartbeats 2000000 in
theorem rwrite_ok : EP (EE env) 11 [.agg (kn up), .agg (kn own), .sl x l.length (kns l), .int .i64 used, .int .i64 f, .int .i64 n] = some (.int .i64 (wr up own l used f n)) := by
  have hb := num_bound (f := f) (n := n)
  refine Has.eq (EP_has ?_)
  repeat' (first
    | refine hgetK_has _ rfl ?_
    | refine getK_has rfl ?_
    | refine secK_has (v := kn up) rfl (Nat.le_refl _) ?_
    | refine boolK_beq (fun _ => ?_) (fun _ => ?_)
    | refine boolK_bne (fun _ => ?_) (fun _ => ?_)
    | refine boolK_dec (fun _ => ?_) (fun _ => ?_)
    | refine callPK_dec (rnum_ok _ _) (fun _ => ?_) (fun _ => ?_)
    | refine callPK_dec (wrong_ok up x l hl f n) (fun _ => ?_) (fun _ => ?_)
    | fail)
  all_goals
    refine Has.intro (Has.intro ?_)
    refine congrArg (PV.int .i64) ?_
    unfold wr
    repeat' split
    all_goals first
      | rfl
      | (exfalso; omega)
      | (exfalso; simp_all; done)
      | (exfalso; simp_all; omega)

/-- All rules. -/
def below (up own : Kn) (l : List Kn) : Prop := between up l 0 own.c ∧ between up l 2 own.mn ∧ between up l 3 own.mx ∧ between up l 4 own.hg
instance : Decidable (below up own l) := by unfold below; infer_instance
def holds (up own : Kn) (l : List Kn) (used : Int) : Prop := below up own l ∧ own.mn ≤ own.mx ∧ used ≤ own.mx
instance : Decidable (holds up own l used) := by unfold holds; infer_instance
omit hl in
theorem below_iff : below up own l ↔ ∀ f : Nat, f < 5 → bound f → between up l f (at_ own f) := by
  constructor
  · intro ⟨h0, h2, h3, h4⟩ f hf hb
    have : f = 0 ∨ f = 2 ∨ f = 3 ∨ f = 4 := by unfold bound at hb; omega
    rcases this with e | e | e | e <;> subst e
    · exact h0
    · exact h2
    · exact h3
    · exact h4
  · intro h
    exact ⟨h 0 (by decide) (by decide), h 2 (by decide) (by decide), h 3 (by decide) (by decide), h 4 (by decide) (by decide)⟩

theorem holds_ok : EP (EE env) 14 [.agg (kn up), .agg (kn own), .sl x l.length (kns l), .int .i64 used] = some (.bool (decide (holds up own l used))) := by
  refine Has.eq (EP_has ?_)
  refine loopK_has ?_
  refine iterE_loop (fun f => 5 - f) (fun f => [(2, .pv (.sl x l.length (kns l))), (3, .pv (.int .i64 used)), (4, .ptr 0 0), (5, .ptr 1 0), (8, .pv (.bool false)), (9, .pv (.int .i64 ((f : Nat) : Int)))])
    (fun _ => [.pcells (kn up), .pcells (kn own)]) (fun f => f ≤ 5 ∧ ∀ g : Nat, g < f → bound g → between up l g (at_ own g)) (fun f ⟨hf, hinv⟩ r => ?_) 0 ⟨by decide, fun g hg => by omega⟩ ⟨rfl, rfl, rfl, rfl, rfl, rfl, trivial⟩ rfl
  refine boolK_dec (fun hc => ?_) (fun hc => ?_)
  · have next : (bound f → between up l f (at_ own f)) → ∀ g : Nat, g < f + 1 → bound g → between up l g (at_ own g) := fun h g hg hb => by
      by_cases e : g = f
      · subst e; exact h hb
      · exact hinv g (by omega) hb
    refine callPK_dec (bound_ok _) (fun hb => ?_) (fun hb => ?_)
    · refine hgetK_has _ rfl ?_
      refine secK_has (v := kn up) rfl (Nat.le_refl _) ?_
      refine hgetK_has _ rfl ?_
      refine secK_has (v := kn own) rfl (Nat.le_refl _) ?_
      refine callPK_has (at_ok own f) ?_
      refine callPK_dec (between_ok up x l hl f (at_ own f)) (fun h => ?_) (fun h => ?_)
      · refine eqK_has_eq _ (i64_succ (by omega)) ?_
        exact Has.intro ⟨f + 1, ⟨by omega, next fun _ => h⟩, by omega, ⟨rfl, rfl, rfl, rfl, rfl, rfl, trivial⟩, rfl⟩
      · refine Has.intro (Has.intro (Has.intro ?_))
        exact no (fun hh => h ((below_iff up own l).1 hh.1 f (by omega) hb))
    · refine eqK_has_eq _ (i64_succ (by omega)) ?_
      exact Has.intro ⟨f + 1, ⟨by omega, next fun h => absurd h hb⟩, by omega, ⟨rfl, rfl, rfl, rfl, rfl, rfl, trivial⟩, rfl⟩
  · have h5 : f = 5 := by omega
    subst h5
    have hbl : below up own l := (below_iff up own l).2 hinv
    refine Has.intro ?_
    refine hgetK_has _ rfl ?_
    refine getK_has rfl ?_
    refine hgetK_has _ rfl ?_
    refine getK_has rfl ?_
    refine boolK_dec (fun h1 => ?_) (fun h1 => ?_)
    · refine hgetK_has _ rfl ?_
      refine getK_has rfl ?_
      refine boolK_dec (fun h2 => ?_) (fun h2 => ?_)
      · exact Has.intro (Has.intro (yes ⟨hbl, h1, h2⟩))
      · exact Has.intro (Has.intro (no fun h => h2 h.2.2))
    · exact Has.intro (Has.intro (no fun h => h1 h.2.1))

def fsv (i : Nat) : Int := ([0, 2, 3, 4] : List Int).getD i 0
/-- Up to i of the files. -/
def stb (up own : Kn) (l : List Kn) (used : Int) : Nat → Bool
  | 0 => decide (own.mn ≤ own.mx) && decide (used ≤ own.mx)
  | i + 1 => stb up own l used i && decide (between up l (fsv i) (at_ own (fsv i)))
omit hl in
theorem stb_end : stb up own l used 4 = decide (holds up own l used) := by
  have e : stb up own l used 4 = ((((decide (own.mn ≤ own.mx) && decide (used ≤ own.mx)) && decide (between up l 0 own.c)) && decide (between up l 2 own.mn)) && decide (between up l 3 own.mx) && decide (between up l 4 own.hg)) := rfl
  have hh : holds up own l used ↔ ((between up l 0 own.c ∧ between up l 2 own.mn ∧ between up l 3 own.mx ∧ between up l 4 own.hg) ∧ own.mn ≤ own.mx ∧ used ≤ own.mx) := Iff.rfl
  rw [e, Bool.eq_iff_iff, decide_eq_true_iff, hh]
  simp only [Bool.and_eq_true, decide_eq_true_eq]
  exact ⟨fun ⟨⟨⟨⟨⟨h1, h2⟩, h3⟩, h4⟩, h5⟩, h6⟩ => ⟨⟨h3, h4, h5, h6⟩, h1, h2⟩, fun ⟨⟨h3, h4, h5, h6⟩, h1, h2⟩ => ⟨⟨⟨⟨⟨h1, h2⟩, h3⟩, h4⟩, h5⟩, h6⟩⟩
omit hl in
theorem fs_get : ∀ i : Nat, i < 4 → ([PV.int .i64 0, .int .i64 2, .int .i64 3, .int .i64 4] : List PV)[i]? = some (.int .i64 (fsv i)) := by
  intro i hi
  have : i = 0 ∨ i = 1 ∨ i = 2 ∨ i = 3 := by omega
  rcases this with e | e | e | e <;> subst e <;> rfl

theorem rholds_ok : EP (EE env) 15 [.agg (kn up), .agg (kn own), .sl x l.length (kns l), .int .i64 used] = some (.bool (decide (holds up own l used))) := by
  refine Has.eq (EP_has ?_)
  refine hgetK_has _ rfl ?_
  refine getK_has rfl ?_
  refine hgetK_has _ rfl ?_
  refine getK_has rfl ?_
  have h00 : ∀ b, stb up own l used 0 = b → AV.pv (.bool b) = .pv (.bool (stb up own l used 0)) := fun b h => by rw [h]
  refine boolK_dec (fun h1 => ?_) (fun h1 => ?_)
  · refine hgetK_has _ rfl ?_
    refine getK_has rfl ?_
    refine boolK_dec (fun h2 => ?_) (fun h2 => ?_)
    all_goals
      refine loopK_has ?_
      refine iterE_up 4 (fun i => [(2, .pv (.sl x l.length (kns l))), (4, .ptr 0 0), (5, .ptr 1 0), (9, .pv (.bool (stb up own l used i))), (23, .pv (.sl .exact 4 [.int .i64 0, .int .i64 2, .int .i64 3, .int .i64 4])), (24, .pv (.int .i64 4)), (25, .pv (.int .i64 i))])
        (fun _ => [.pcells (kn up), .pcells (kn own)]) (fun i hi r => ?_) (fun r => ?_) ⟨rfl, rfl, rfl, h00 _ (by unfold stb; first | (rw [decide_eq_true h1, decide_eq_true h2]; rfl) | (rw [decide_eq_true h1, decide_eq_false h2]; rfl) | fail), rfl, rfl, rfl, trivial⟩ rfl
      · refine boolK_dec_t (by omega) ?_
        refine needK_has (by simp; omega) ?_
        refine getK_has (fs_get i hi) ?_
        have hs : stb up own l used (i + 1) = (stb up own l used i && decide (between up l (fsv i) (at_ own (fsv i)))) := rfl
        cases hb : stb up own l used i with
        | false =>
          rw [hb] at hs
          refine eqK_has_eq _ (i64_succ (by omega)) ?_
          exact Has.intro ⟨⟨rfl, rfl, rfl, by rw [hs]; rfl, rfl, rfl, rfl, trivial⟩, rfl⟩
        | true =>
          rw [hb, Bool.true_and] at hs
          refine hgetK_has _ rfl ?_
          refine secK_has (v := kn up) rfl (Nat.le_refl _) ?_
          refine hgetK_has _ rfl ?_
          refine secK_has (v := kn own) rfl (Nat.le_refl _) ?_
          refine callPK_has (rat_ok own (fsv i)) ?_
          refine callPK_dec (wrong_ok up x l hl (fsv i) (at_ own (fsv i))) (fun h => ?_) (fun h => ?_)
          · refine eqK_has_eq _ (i64_succ (by omega)) ?_
            exact Has.intro ⟨⟨rfl, rfl, rfl, by rw [hs, decide_eq_false h]; rfl, rfl, rfl, rfl, trivial⟩, rfl⟩
          · refine eqK_has_eq _ (i64_succ (by omega)) ?_
            exact Has.intro ⟨⟨rfl, rfl, rfl, by rw [hs, decide_eq_true (Decidable.not_not.1 h)]; rfl, rfl, rfl, rfl, trivial⟩, rfl⟩
      · refine boolK_dec_f (by omega) ?_
        refine Has.intro ?_
        refine Has.intro (Has.intro ?_)
        show PV.bool (stb up own l used 4) = _
        rw [stb_end]
  · refine loopK_has ?_
    refine iterE_up 4 (fun i => [(2, .pv (.sl x l.length (kns l))), (4, .ptr 0 0), (5, .ptr 1 0), (9, .pv (.bool (stb up own l used i))), (23, .pv (.sl .exact 4 [.int .i64 0, .int .i64 2, .int .i64 3, .int .i64 4])), (24, .pv (.int .i64 4)), (25, .pv (.int .i64 i))])
      (fun _ => [.pcells (kn up), .pcells (kn own)]) (fun i hi r => ?_) (fun r => ?_) ⟨rfl, rfl, rfl, h00 _ (by unfold stb; rw [decide_eq_false h1]; rfl), rfl, rfl, rfl, trivial⟩ rfl
    · refine boolK_dec_t (by omega) ?_
      refine needK_has (by simp; omega) ?_
      refine getK_has (fs_get i hi) ?_
      have hs : stb up own l used (i + 1) = (stb up own l used i && decide (between up l (fsv i) (at_ own (fsv i)))) := rfl
      cases hb : stb up own l used i with
      | false =>
        rw [hb] at hs
        refine eqK_has_eq _ (i64_succ (by omega)) ?_
        exact Has.intro ⟨⟨rfl, rfl, rfl, by rw [hs]; rfl, rfl, rfl, rfl, trivial⟩, rfl⟩
      | true =>
        rw [hb, Bool.true_and] at hs
        refine hgetK_has _ rfl ?_
        refine secK_has (v := kn up) rfl (Nat.le_refl _) ?_
        refine hgetK_has _ rfl ?_
        refine secK_has (v := kn own) rfl (Nat.le_refl _) ?_
        refine callPK_has (rat_ok own (fsv i)) ?_
        refine callPK_dec (wrong_ok up x l hl (fsv i) (at_ own (fsv i))) (fun h => ?_) (fun h => ?_)
        · refine eqK_has_eq _ (i64_succ (by omega)) ?_
          exact Has.intro ⟨⟨rfl, rfl, rfl, by rw [hs, decide_eq_false h]; rfl, rfl, rfl, rfl, trivial⟩, rfl⟩
        · refine eqK_has_eq _ (i64_succ (by omega)) ?_
          exact Has.intro ⟨⟨rfl, rfl, rfl, by rw [hs, decide_eq_true (Decidable.not_not.1 h)]; rfl, rfl, rfl, rfl, trivial⟩, rfl⟩
    · refine boolK_dec_f (by omega) ?_
      refine Has.intro ?_
      refine Has.intro (Has.intro ?_)
      show PV.bool (stb up own l used 4) = _
      rw [stb_end]
end

/-- A new group. -/
def mk (up own : Kn) : Int := if ¬ right own then 2 else if ¬ below up own [] then 23 else 0
theorem between_nil (up : Kn) (f n : Int) : between up [] f n ↔ n ≤ at_ up f := by
  unfold between over
  constructor
  · intro h; exact h.1
  · intro h; exact ⟨h, fun ⟨k, hk, _⟩ => by cases hk⟩
theorem make_ok (up own : Kn) : EP (EE env) 12 [.agg (kn up), .agg (kn own)] = some (.int .i64 (mk up own)) := by
  refine Has.eq (EP_has ?_)
  refine hgetK_has _ rfl ?_
  refine secK_has (v := kn own) rfl (Nat.le_refl _) ?_
  refine callPK_dec (right_ok own) (fun hr => ?_) (fun hr => ?_)
  · refine loopK_has ?_
    refine iterE_loop (fun f => 5 - f) (fun f => [(2, .ptr 0 0), (3, .ptr 1 0), (4, .pv (.int .i64 0)), (5, .pv (.int .i64 ((f : Nat) : Int)))])
      (fun _ => [.pcells (kn up), .pcells (kn own)]) (fun f => f ≤ 5 ∧ ∀ g : Nat, g < f → bound g → between up [] g (at_ own g)) (fun f ⟨hf, hinv⟩ r => ?_) 0 ⟨by decide, fun g hg => by omega⟩ ⟨rfl, rfl, rfl, rfl, trivial⟩ rfl
    refine boolK_dec (fun hc => ?_) (fun hc => ?_)
    · have next : (bound f → between up [] f (at_ own f)) → ∀ g : Nat, g < f + 1 → bound g → between up [] g (at_ own g) := fun h g hg hb => by
        by_cases e : g = f
        · subst e; exact h hb
        · exact hinv g (by omega) hb
      refine callPK_dec (bound_ok _) (fun hb => ?_) (fun hb => ?_)
      · refine hgetK_has _ rfl ?_
        refine secK_has (v := kn up) rfl (Nat.le_refl _) ?_
        refine hgetK_has _ rfl ?_
        refine secK_has (v := kn own) rfl (Nat.le_refl _) ?_
        refine callPK_has (at_ok own f) ?_
        refine callPK_dec (between_ok up .nil [] (by decide) f (at_ own f)) (fun h => ?_) (fun h => ?_)
        · refine eqK_has_eq _ (i64_succ (by omega)) ?_
          exact Has.intro ⟨f + 1, ⟨by omega, next fun _ => h⟩, by omega, ⟨rfl, rfl, rfl, rfl, trivial⟩, rfl⟩
        · refine Has.intro (Has.intro (Has.intro ?_))
          show PV.int .i64 23 = _
          unfold mk
          rw [if_neg (fun h => h hr), if_pos (fun hh => h ((below_iff up own []).1 hh f (by omega) hb))]
      · refine eqK_has_eq _ (i64_succ (by omega)) ?_
        exact Has.intro ⟨f + 1, ⟨by omega, next fun h => absurd h hb⟩, by omega, ⟨rfl, rfl, rfl, rfl, trivial⟩, rfl⟩
    · have h5 : f = 5 := by omega
      subst h5
      have hbl : below up own [] := (below_iff up own []).2 hinv
      refine Has.intro (Has.intro (Has.intro ?_))
      show PV.int .i64 0 = _
      unfold mk
      rw [if_neg (fun h => h hr), if_neg (fun h => h hbl)]
  · refine Has.intro (Has.intro ?_)
    show PV.int .i64 2 = _
    unfold mk
    rw [if_pos hr]
theorem rmake_ok (up own : Kn) : EP (EE env) 13 [.agg (kn up), .agg (kn own)] = some (.int .i64 (mk up own)) := by
  have hbl : below up own [] ↔ own.c ≤ up.c ∧ own.mn ≤ up.mn ∧ own.mx ≤ up.mx ∧ own.hg ≤ up.hg := by
    unfold below
    rw [between_nil, between_nil, between_nil, between_nil]
    exact Iff.rfl
  refine Has.eq (EP_has ?_)
  refine hgetK_has _ rfl ?_
  refine secK_has (v := kn own) rfl (Nat.le_refl _) ?_
  refine callPK_dec (rright_ok own) (fun hr => ?_) (fun hr => ?_)
  · repeat' (first
      | refine hgetK_has _ rfl ?_
      | refine getK_has rfl ?_
      | refine boolK_dec (fun _ => ?_) (fun _ => ?_)
      | fail)
    all_goals
      refine Has.intro (Has.intro ?_)
      refine congrArg (PV.int .i64) ?_
      unfold mk
      rw [if_neg (fun h => h hr)]
      first
        | rw [if_pos (fun h => by rw [hbl] at h; omega)]
        | rw [if_neg (fun h => h (hbl.2 (by omega)))]
  · refine Has.intro (Has.intro ?_)
    show PV.int .i64 2 = _
    unfold mk
    rw [if_pos hr]

/-- Knobs with one file written. -/
def with_ (k : Kn) (f n : Int) : Kn := if f = 0 then { k with c := n } else if f = 1 then { k with w := n } else if f = 2 then { k with mn := n } else if f = 3 then { k with mx := n } else if f = 4 then { k with hg := n } else k
theorem with_ok (k : Kn) (f n : Int) : EP (EE env) 16 [.agg (kn k), .int .i64 f, .int .i64 n] = some (.agg (kn (with_ k f n))) := by
  refine Has.eq (EP_has ?_)
  unfold with_
  refine boolK_beq (fun h => ?_) (fun h => ?_)
  · rw [if_pos h]
    refine hgetK_has _ rfl ?_
    refine needK_has rfl ?_
    refine eqK_has_eq (kn { k with c := n }) rfl ?_
    refine hgetK_has _ rfl ?_
    refine secK_has (v := kn { k with c := n }) rfl (Nat.le_refl _) ?_
    refine hgetK_has _ rfl ?_
    refine needK_has rfl ?_
    refine eqK_has_eq (kn { k with c := n }) rfl ?_
    refine hgetK_has _ rfl ?_
    refine secK_has (v := kn { k with c := n }) rfl (Nat.le_refl _) ?_
    exact Has.intro (Has.intro rfl)
  rw [if_neg h]
  refine boolK_beq (fun h => ?_) (fun h => ?_)
  · rw [if_pos h]
    refine hgetK_has _ rfl ?_
    refine needK_has rfl ?_
    refine eqK_has_eq (kn { k with w := n }) rfl ?_
    refine hgetK_has _ rfl ?_
    refine secK_has (v := kn { k with w := n }) rfl (Nat.le_refl _) ?_
    refine hgetK_has _ rfl ?_
    refine needK_has rfl ?_
    refine eqK_has_eq (kn { k with w := n }) rfl ?_
    refine hgetK_has _ rfl ?_
    refine secK_has (v := kn { k with w := n }) rfl (Nat.le_refl _) ?_
    exact Has.intro (Has.intro rfl)
  rw [if_neg h]
  refine boolK_beq (fun h => ?_) (fun h => ?_)
  · rw [if_pos h]
    refine hgetK_has _ rfl ?_
    refine needK_has rfl ?_
    refine eqK_has_eq (kn { k with mn := n }) rfl ?_
    refine hgetK_has _ rfl ?_
    refine secK_has (v := kn { k with mn := n }) rfl (Nat.le_refl _) ?_
    refine hgetK_has _ rfl ?_
    refine needK_has rfl ?_
    refine eqK_has_eq (kn { k with mn := n }) rfl ?_
    refine hgetK_has _ rfl ?_
    refine secK_has (v := kn { k with mn := n }) rfl (Nat.le_refl _) ?_
    exact Has.intro (Has.intro rfl)
  rw [if_neg h]
  refine boolK_beq (fun h => ?_) (fun h => ?_)
  · rw [if_pos h]
    refine hgetK_has _ rfl ?_
    refine needK_has rfl ?_
    refine eqK_has_eq (kn { k with mx := n }) rfl ?_
    refine hgetK_has _ rfl ?_
    refine secK_has (v := kn { k with mx := n }) rfl (Nat.le_refl _) ?_
    refine hgetK_has _ rfl ?_
    refine needK_has rfl ?_
    refine eqK_has_eq (kn { k with mx := n }) rfl ?_
    refine hgetK_has _ rfl ?_
    refine secK_has (v := kn { k with mx := n }) rfl (Nat.le_refl _) ?_
    exact Has.intro (Has.intro rfl)
  rw [if_neg h]
  refine boolK_beq (fun h => ?_) (fun h => ?_)
  · rw [if_pos h]
    refine hgetK_has _ rfl ?_
    refine needK_has rfl ?_
    refine eqK_has_eq (kn { k with hg := n }) rfl ?_
    refine hgetK_has _ rfl ?_
    refine secK_has (v := kn { k with hg := n }) rfl (Nat.le_refl _) ?_
    refine hgetK_has _ rfl ?_
    refine needK_has rfl ?_
    refine eqK_has_eq (kn { k with hg := n }) rfl ?_
    refine hgetK_has _ rfl ?_
    refine secK_has (v := kn { k with hg := n }) rfl (Nat.le_refl _) ?_
    exact Has.intro (Has.intro rfl)
  · rw [if_neg h]
    refine hgetK_has _ rfl ?_
    refine secK_has (v := kn k) rfl (Nat.le_refl _) ?_
    refine hgetK_has _ rfl ?_
    refine needK_has rfl ?_
    refine eqK_has_eq (kn k) rfl ?_
    refine hgetK_has _ rfl ?_
    refine secK_has (v := kn k) rfl (Nat.le_refl _) ?_
    exact Has.intro (Has.intro rfl)
end Go.Proofs.Ytiengddmdankiaa
