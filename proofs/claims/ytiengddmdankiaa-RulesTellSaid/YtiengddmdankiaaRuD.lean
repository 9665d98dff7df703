/-
  RulesTell, RulesHold and RulesMake in the abstract machine.
-/
import Derived.Test.YtiengddmdankiaaRuC
set_option linter.all false
set_option linter.unusedVariables false
set_option linter.unusedSimpArgs false
set_option linter.unusedSectionVars false
namespace Go.Proofs.Ytiengddmdankiaa
open Go Go.VM

def up0 : Kn := ⟨10, 1, 5, 9, 0⟩
def own0 : Kn := ⟨4, 1, 2, 6, 0⟩
def kid0 : Kn := ⟨3, 1, 0, 1, 0⟩
theorem write_lit (used f n e : Int) (h : wr up0 own0 [kid0] used f n = e) (x : Ext) : EP (EE env) 10 [.agg (kn up0), .agg (kn own0), .sl x 1 (kn kid0), .int .i64 used, .int .i64 f, .int .i64 n] = some (.int .i64 e) := by
  have h1 := write_ok up0 own0 x [kid0] (by decide) used f n
  rw [h] at h1; exact h1
theorem holds_lit (used : Int) (b : Bool) (h : decide (holds up0 own0 [kid0] used) = b) (x : Ext) : EP (EE env) 14 [.agg (kn up0), .agg (kn own0), .sl x 1 (kn kid0), .int .i64 used] = some (.bool b) := by
  have h1 := holds_ok up0 own0 x [kid0] (by decide) used
  rw [h] at h1; exact h1

theorem first_ok : EP (EE env) 6 [] = some (.bool true) := by
  have b4 : EP (EE env) 9 [.int .i64 4] = some (.bool true) := bound_ok 4
  have b1 : EP (EE env) 9 [.int .i64 1] = some (.bool false) := bound_ok 1
  have n1 : EP (EE env) 7 [.int .i64 0, .int .i64 4611686018427387904] = some (.bool true) := num_ok 0 4611686018427387904
  have m1 : EP (EE env) 12 [.agg (kn up0), .agg (kn own0)] = some (.int .i64 0) := (make_ok up0 own0).trans (congrArg (fun z => some (PV.int .i64 z)) (by decide))
  refine Has.eq (EP_has ?_)
  refine hgetK_has _ rfl ?_
  refine needK_has rfl ?_
  refine eqK_has_eq (kn up0) rfl ?_
  refine hgetK_has _ rfl ?_
  refine needK_has rfl ?_
  refine eqK_has_eq (kn own0) rfl ?_
  have ld : ∀ {R : Type} {Q : R → Prop} {F : List PV → Option R} (k : Kn), Has (F (kn k)) Q → Has (secK (kn k) 0 5 F) Q := fun k h => secK_has (v := kn k) rfl (Nat.le_refl _) h
  refine hgetK_has _ rfl (ld up0 (hgetK_has _ rfl (ld own0 ?_)))
  refine callPK_has (write_lit 5 0 11 23 (by decide) _) ?_
  refine boolK_has_true rfl ?_
  refine hgetK_has _ rfl (ld up0 (hgetK_has _ rfl (ld own0 ?_)))
  refine callPK_has (write_lit 5 0 2 23 (by decide) _) ?_
  refine boolK_has_true rfl ?_
  refine hgetK_has _ rfl (ld up0 (hgetK_has _ rfl (ld own0 ?_)))
  refine callPK_has (write_lit 5 0 10 0 (by decide) _) ?_
  refine boolK_has_true rfl ?_
  refine hgetK_has _ rfl (ld up0 (hgetK_has _ rfl (ld own0 ?_)))
  refine callPK_has (write_lit 5 3 4 24 (by decide) _) ?_
  refine boolK_has_true rfl ?_
  refine hgetK_has _ rfl (ld up0 (hgetK_has _ rfl (ld own0 ?_)))
  refine callPK_has (write_lit 5 1 0 2 (by decide) _) ?_
  refine boolK_has_true rfl ?_
  refine hgetK_has _ rfl (ld up0 (hgetK_has _ rfl (ld own0 ?_)))
  refine callPK_has m1 ?_
  refine boolK_has_true rfl ?_
  refine hgetK_has _ rfl (ld up0 (hgetK_has _ rfl (ld own0 ?_)))
  refine callPK_has (holds_lit 5 true (by decide) _) ?_
  refine hgetK_has _ rfl (ld up0 (hgetK_has _ rfl (ld own0 ?_)))
  refine callPK_has (holds_lit 7 false (by decide) _) ?_
  refine callPK_has b4 ?_
  refine callPK_has b1 ?_
  refine callPK_has n1 ?_
  exact Has.intro (Has.intro rfl)

/-! ### what is given -/
abbrev TK : Ty := .st [(1, .int .i64), (1, .int .i64), (1, .int .i64), (1, .int .i64), (1, .int .i64)]
abbrev TC : Ty := .st [(5, TK), (5, TK), (1, .sl 5 TK), (1, .int .i64), (1, .int .i64), (1, .int .i64)]
theorem arg_kn {cs : List PV} (h : HasTy TK cs) : ∃ k : Kn, cs = kn k := by
  obtain ⟨a1, b1, rfl, l1, h1, a2, b2, rfl, l2, h2, a3, b3, rfl, l3, h3, a4, b4, rfl, l4, h4, a5, b5, rfl, l5, h5, rfl⟩ := h
  obtain ⟨q1, rfl⟩ := list1 l1
  obtain ⟨q2, rfl⟩ := list1 l2
  obtain ⟨q3, rfl⟩ := list1 l3
  obtain ⟨q4, rfl⟩ := list1 l4
  obtain ⟨q5, rfl⟩ := list1 l5
  obtain ⟨n1, rfl, _⟩ := arg_i64 h1
  obtain ⟨n2, rfl, _⟩ := arg_i64 h2
  obtain ⟨n3, rfl, _⟩ := arg_i64 h3
  obtain ⟨n4, rfl, _⟩ := arg_i64 h4
  obtain ⟨n5, rfl, _⟩ := arg_i64 h5
  exact ⟨⟨n1, n2, n3, n4, n5⟩, rfl⟩
theorem arg_kns : ∀ (n : Nat) (cs : List PV), Els (HasTy TK) 5 n cs → ∃ l : List Kn, l.length = n ∧ cs = kns l := by
  intro n
  induction n with
  | zero => intro cs h; exact ⟨[], rfl, h⟩
  | succ n ih =>
    intro cs ⟨a, b, h1, h2, h3, h4⟩
    obtain ⟨l, g1, g2⟩ := ih b h4
    obtain ⟨k, rfl⟩ := arg_kn h3
    exact ⟨k :: l, by simp [g1], by rw [h1, g2]; rfl⟩
def caseC (up own : Kn) (x : Ext) (l : List Kn) (used f n : Int) : List PV := [.int .i64 up.c, .int .i64 up.w, .int .i64 up.mn, .int .i64 up.mx, .int .i64 up.hg, .int .i64 own.c, .int .i64 own.w, .int .i64 own.mn, .int .i64 own.mx, .int .i64 own.hg, .sl x l.length (kns l), .int .i64 used, .int .i64 f, .int .i64 n]
theorem arg_case {ps : List PV} (h : HasArgs [TC] ps) : ∃ up own x l used f n, ps = [.agg (caseC up own x l used f n)] ∧ l.length ≤ maxLen := by
  obtain ⟨p, _, rfl, ⟨cs, rfl, h⟩, rfl⟩ := h
  obtain ⟨a1, b1, rfl, l1, h1, a2, b2, rfl, l2, h2, a3, b3, rfl, l3, h3, a4, b4, rfl, l4, h4, a5, b5, rfl, l5, h5, a6, b6, rfl, l6, h6, rfl⟩ := h
  obtain ⟨up, rfl⟩ := arg_kn h1
  obtain ⟨own, rfl⟩ := arg_kn h2
  obtain ⟨x, len, cells, rfl, _, e3, e4⟩ := h3
  obtain ⟨l, rfl, rfl⟩ := arg_kns _ _ e4
  obtain ⟨q4, rfl⟩ := list1 l4
  obtain ⟨q5, rfl⟩ := list1 l5
  obtain ⟨q6, rfl⟩ := list1 l6
  obtain ⟨used, rfl, _⟩ := arg_i64 h4
  obtain ⟨f, rfl, _⟩ := arg_i64 h5
  obtain ⟨n, rfl, _⟩ := arg_i64 h6
  exact ⟨up, own, x, l, used, f, n, rfl, e3⟩

section
variable {R : Type} {Q : R → Prop} {F : List PV → Option R} {G : PV → Option R}
theorem ldUp (up own : Kn) (x : Ext) (l : List Kn) (used f n : Int) (h : Has (F (kn up)) Q) : Has (secK (caseC up own x l used f n) 0 5 F) Q := secK_has (v := kn up) rfl (by show 5 ≤ 14; decide) h
theorem ldOwn (up own : Kn) (x : Ext) (l : List Kn) (used f n : Int) (h : Has (F (kn own)) Q) : Has (secK (caseC up own x l used f n) 5 5 F) Q := secK_has (v := kn own) rfl (by show 10 ≤ 14; decide) h
end

theorem tell_ok (ps : List PV) (h : HasArgs [TC] ps) : ∃ H', EE env (.fn 3) (ps.map .pv) [] = some (.pv (.bool true), H') := by
  obtain ⟨up, own, x, l, used, f, n, rfl, hl⟩ := arg_case h
  refine law_end (EE_has ?_)
  refine callPK_has first_ok ?_
  refine hgetK_has (.pcells (caseC up own x l used f n)) rfl ?_
  refine getK_has rfl ?_
  refine boolK_dec (fun _ => Has.intro rfl) (fun _ => ?_)
  refine hgetK_has (.pcells (caseC up own x l used f n)) rfl ?_
  refine getK_has rfl ?_
  repeat' (first
    | refine boolK_beq (fun _ => ?_) (fun _ => ?_)
    | refine hgetK_has (.pcells (caseC up own x l used f n)) rfl (getK_has rfl (boolK_dec (fun _ => ?_) (fun _ => ?_)))
    | fail)
  all_goals
    refine hgetK_has (.pcells (caseC up own x l used f n)) rfl (getK_has rfl ?_)
    refine hgetK_has (.pcells (caseC up own x l used f n)) rfl (getK_has rfl ?_)
    refine callPK_has (num_ok _ _) ?_
    refine hgetK_has (.pcells (caseC up own x l used f n)) rfl (getK_has rfl ?_)
    refine hgetK_has (.pcells (caseC up own x l used f n)) rfl (getK_has rfl ?_)
    refine callPK_has (rnum_ok _ _) ?_
    refine boolK_has_true (by simp) ?_
    refine hgetK_has (.pcells (caseC up own x l used f n)) rfl (getK_has rfl ?_)
    refine callPK_has (bound_ok _) ?_
    refine boolK_has_true (by rw [beq_iff_eq]; first | exact decide_eq_true (by unfold bound; omega) | exact decide_eq_false (by unfold bound; omega)) ?_
    refine hgetK_has (.pcells (caseC up own x l used f n)) rfl (ldUp up own x l used f n ?_)
    refine hgetK_has (.pcells (caseC up own x l used f n)) rfl (ldOwn up own x l used f n ?_)
    refine hgetK_has (.pcells (caseC up own x l used f n)) rfl (getK_has rfl ?_)
    refine hgetK_has (.pcells (caseC up own x l used f n)) rfl (getK_has rfl ?_)
    refine hgetK_has (.pcells (caseC up own x l used f n)) rfl (getK_has rfl ?_)
    refine hgetK_has (.pcells (caseC up own x l used f n)) rfl (getK_has rfl ?_)
    refine callPK_has (write_ok up own x l hl used f n) ?_
    refine hgetK_has (.pcells (caseC up own x l used f n)) rfl (ldUp up own x l used f n ?_)
    refine hgetK_has (.pcells (caseC up own x l used f n)) rfl (ldOwn up own x l used f n ?_)
    refine hgetK_has (.pcells (caseC up own x l used f n)) rfl (getK_has rfl ?_)
    refine hgetK_has (.pcells (caseC up own x l used f n)) rfl (getK_has rfl ?_)
    refine hgetK_has (.pcells (caseC up own x l used f n)) rfl (getK_has rfl ?_)
    refine hgetK_has (.pcells (caseC up own x l used f n)) rfl (getK_has rfl ?_)
    refine callPK_has (rwrite_ok up own x l hl used f n) ?_
    refine boolK_has_true (by simp) ?_
    refine hgetK_has (.pcells (caseC up own x l used f n)) rfl (ldUp up own x l used f n ?_)
    refine hgetK_has (.pcells (caseC up own x l used f n)) rfl (ldOwn up own x l used f n ?_)
    refine callPK_has (make_ok up own) ?_
    refine hgetK_has (.pcells (caseC up own x l used f n)) rfl (ldUp up own x l used f n ?_)
    refine hgetK_has (.pcells (caseC up own x l used f n)) rfl (ldOwn up own x l used f n ?_)
    refine callPK_has (rmake_ok up own) ?_
    refine boolK_has_true (by simp) ?_
    refine hgetK_has (.pcells (caseC up own x l used f n)) rfl (ldUp up own x l used f n ?_)
    refine hgetK_has (.pcells (caseC up own x l used f n)) rfl (ldOwn up own x l used f n ?_)
    refine hgetK_has (.pcells (caseC up own x l used f n)) rfl (getK_has rfl ?_)
    refine hgetK_has (.pcells (caseC up own x l used f n)) rfl (getK_has rfl ?_)
    refine callPK_has (holds_ok up own x l hl used) ?_
    refine hgetK_has (.pcells (caseC up own x l used f n)) rfl (ldUp up own x l used f n ?_)
    refine hgetK_has (.pcells (caseC up own x l used f n)) rfl (ldOwn up own x l used f n ?_)
    refine hgetK_has (.pcells (caseC up own x l used f n)) rfl (getK_has rfl ?_)
    refine hgetK_has (.pcells (caseC up own x l used f n)) rfl (getK_has rfl ?_)
    refine callPK_has (rholds_ok up own x l hl used) ?_
    refine boolK_has_true (by simp) ?_
    exact Has.intro rfl

/-- Behind a write that may be, the rules hold. -/
theorem holds_behind {up own : Kn} {l : List Kn} {used f n : Int} (h : holds up own l used) (hw : wr up own l used f n = 0) : num f n ∧ holds up (with_ own f n) l used := by
  unfold wr at hw
  split at hw
  · cases hw
  rename_i hn
  have hn' : num f n := Decidable.not_not.1 hn
  split at hw
  · cases hw
  rename_i hb
  split at hw
  · cases hw
  rename_i ht
  split at hw
  · cases hw
  rename_i hu
  refine ⟨hn', ?_⟩
  obtain ⟨⟨h0, h2, h3, h4⟩, h5, h6⟩ := h
  have hbt : bound f → between up l f n := fun hf => Decidable.not_not.1 fun hc => hb ⟨hf, hc⟩
  unfold with_
  have c : f = 0 ∨ f = 1 ∨ f = 2 ∨ f = 3 ∨ f = 4 := by unfold num at hn'; omega
  rcases c with c | c | c | c | c <;> subst c
  · exact ⟨⟨hbt (by decide), h2, h3, h4⟩, h5, h6⟩
  · exact ⟨⟨h0, h2, h3, h4⟩, h5, h6⟩
  · exact ⟨⟨h0, hbt (by decide), h3, h4⟩, by show n ≤ own.mx; omega, h6⟩
  · exact ⟨⟨h0, h2, hbt (by decide), h4⟩, by show own.mn ≤ n; omega, by show used ≤ n; omega⟩
  · exact ⟨⟨h0, h2, h3, hbt (by decide)⟩, h5, h6⟩

theorem hold_ok (ps : List PV) (h : HasArgs [TC] ps) : ∃ H', EE env (.fn 4) (ps.map .pv) [] = some (.pv (.bool true), H') := by
  obtain ⟨up, own, x, l, used, f, n, rfl, hl⟩ := arg_case h
  refine law_end (EE_has ?_)
  refine callPK_has first_ok ?_
  refine hgetK_has (.pcells (caseC up own x l used f n)) rfl ?_
  refine getK_has rfl ?_
  refine boolK_dec (fun _ => Has.intro rfl) (fun _ => ?_)
  refine hgetK_has (.pcells (caseC up own x l used f n)) rfl (ldUp up own x l used f n ?_)
  refine hgetK_has (.pcells (caseC up own x l used f n)) rfl (ldOwn up own x l used f n ?_)
  refine hgetK_has (.pcells (caseC up own x l used f n)) rfl (getK_has rfl ?_)
  refine hgetK_has (.pcells (caseC up own x l used f n)) rfl (getK_has rfl ?_)
  refine callPK_dec (holds_ok up own x l hl used) (fun hh => ?_) (fun _ => Has.intro rfl)
  refine hgetK_has (.pcells (caseC up own x l used f n)) rfl (ldUp up own x l used f n ?_)
  refine hgetK_has (.pcells (caseC up own x l used f n)) rfl (ldOwn up own x l used f n ?_)
  refine hgetK_has (.pcells (caseC up own x l used f n)) rfl (getK_has rfl ?_)
  refine hgetK_has (.pcells (caseC up own x l used f n)) rfl (getK_has rfl ?_)
  refine hgetK_has (.pcells (caseC up own x l used f n)) rfl (getK_has rfl ?_)
  refine hgetK_has (.pcells (caseC up own x l used f n)) rfl (getK_has rfl ?_)
  refine callPK_has (write_ok up own x l hl used f n) ?_
  refine boolK_bne (fun _ => Has.intro rfl) (fun hw => ?_)
  obtain ⟨g1, g2⟩ := holds_behind hh hw
  refine hgetK_has (.pcells (caseC up own x l used f n)) rfl (getK_has rfl ?_)
  refine hgetK_has (.pcells (caseC up own x l used f n)) rfl (getK_has rfl ?_)
  refine callPK_dec_t (num_ok _ _) g1 ?_
  refine hgetK_has (.pcells (caseC up own x l used f n)) rfl (ldUp up own x l used f n ?_)
  refine hgetK_has (.pcells (caseC up own x l used f n)) rfl (ldOwn up own x l used f n ?_)
  refine hgetK_has (.pcells (caseC up own x l used f n)) rfl (getK_has rfl ?_)
  refine hgetK_has (.pcells (caseC up own x l used f n)) rfl (getK_has rfl ?_)
  refine callPK_has (with_ok own f n) ?_
  refine hgetK_has (.pcells (caseC up own x l used f n)) rfl (getK_has rfl ?_)
  refine hgetK_has (.pcells (caseC up own x l used f n)) rfl (getK_has rfl ?_)
  refine callPK_dec_t (holds_ok up (with_ own f n) x l hl used) g2 ?_
  exact Has.intro rfl

theorem makes_ok (ps : List PV) (h : HasArgs [TC] ps) : ∃ H', EE env (.fn 5) (ps.map .pv) [] = some (.pv (.bool true), H') := by
  obtain ⟨up, own, x, l, used, f, n, rfl, hl⟩ := arg_case h
  have key : (mk up own == 0) = decide (right own ∧ holds up own [] 0) := by
    rw [Bool.eq_iff_iff, beq_iff_eq, decide_eq_true_iff]
    unfold mk
    by_cases hr : right own
    · rw [if_neg (fun h => h hr)]
      by_cases hb : below up own []
      · rw [if_neg (fun h => h hb)]
        refine ⟨fun _ => ⟨hr, hb, ?_, ?_⟩, fun _ => rfl⟩
        · unfold right at hr; omega
        · unfold right sumP at hr; omega
      · rw [if_pos hb]
        exact ⟨fun h => absurd h (by decide), fun h => absurd h.2.1 hb⟩
    · rw [if_pos hr]
      exact ⟨fun h => absurd h (by decide), fun h => absurd h.1 hr⟩
  refine law_end (EE_has ?_)
  refine callPK_has first_ok ?_
  refine hgetK_has (.pcells (caseC up own x l used f n)) rfl (ldUp up own x l used f n ?_)
  refine hgetK_has (.pcells (caseC up own x l used f n)) rfl (ldOwn up own x l used f n ?_)
  refine callPK_has (make_ok up own) ?_
  refine boolK_has_eq key ?_
  refine hgetK_has (.pcells (caseC up own x l used f n)) rfl (ldOwn up own x l used f n ?_)
  refine callPK_dec (rright_ok own) (fun hr => ?_) (fun hr => ?_)
  · refine hgetK_has (.pcells (caseC up own x l used f n)) rfl (ldUp up own x l used f n ?_)
    refine hgetK_has (.pcells (caseC up own x l used f n)) rfl (ldOwn up own x l used f n ?_)
    refine callPK_has (holds_ok up own .nil [] (by decide) 0) ?_
    refine boolK_has_true (by simp [hr]) ?_
    exact Has.intro rfl
  · refine boolK_has_true (by simp [hr]) ?_
    exact Has.intro rfl
end Go.Proofs.Ytiengddmdankiaa
