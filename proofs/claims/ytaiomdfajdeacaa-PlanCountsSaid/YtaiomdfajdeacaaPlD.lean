/-
  The document's next step: one phase.
-/
import Derived.Test.YtaiomdfajdeacaaPlC
set_option linter.all false
set_option linter.unusedVariables false
set_option linter.unusedSimpArgs false
set_option linter.unusedSectionVars false
namespace Go.Proofs.Ytaiomdfajdeacaa
open Go Go.VM

/-- Does a file go as a phase has it? -/
def hitG (ph : Int) (a b : Int) : Prop := (a > b ∧ (ph = 1 ∨ ph = 5 ∨ ph = 2)) ∨ (a < b ∧ (ph = 3 ∨ ph = 4 ∨ ph = 2))
instance (ph a b : Int) : Decidable (hitG ph a b) := by unfold hitG; infer_instance
def fstG (who : Int) (a b : Kn) (o : List Int) (ph : Int) : Option Stp := o.findSome? fun f => if hitG ph (at_ a f) (at_ b f) then some ⟨who, f, at_ b f⟩ else none
def skp (ph who : Int) : Prop := (who < 0 ∧ (ph = 1 ∨ ph = 4)) ∨ (who ≥ 0 ∧ (ph = 3 ∨ ph = 5))
instance (ph who : Int) : Decidable (skp ph who) := by unfold skp; infer_instance
def z3 : Stp := ⟨0, 0, 0⟩

abbrev PH : VCode := c8.at [1, 1, 1, 0, 1, 0, 0]
abbrev LP2 : VCode := PH.at [1, 0, 0, 1, 1, 1, 1]
abbrev B3 : VCode := LP2.at [0, 0, 1, 0]
abbrev INN : VCode := B3.at [0, 1, 1, 1]

section
variable (v2 v3 v4 v5 v10 v13 : AV) (o : List Int) (ho : o.length ≤ 4) (ph : Int) (hph : ph = 1 ∨ ph = 2 ∨ ph = 3 ∨ ph = 4 ∨ ph = 5)
def Lr (i : AV) : List (Nat × AV) := [(2, v2), (3, v3), (4, v4), (5, v5), (8, .ptr 2 0), (10, v10), (11, .pv (.int .i64 ph)), (12, .pv (.sl .nnx o.length (ints o))), (13, i)]
include ho hph in
set_option maxHeartbeats 1000000 in
theorem inn4 (r : Regs) (H : Heap) (p q : Nat) (a b : Kn) (who : Int) (hp : hget H p = .pcells (kn a)) (hq : hget H q = .pcells (kn b)) (hz : hget H 2 = .pcells (sc z3)) :
    Has (evK env (EE env) INN Res (setL r ((14, .ptr p 0) :: (15, .ptr q 0) :: (16, .pv (.int .i64 who)) :: Lr v2 v3 v4 v5 v10 o ph v13)) H doneK)
      (fun x => match fstG who a b o ph with
        | none => x.1 = .normal ∧ Agr x.2.1 (Lr v2 v3 v4 v5 v10 o ph v13) ∧ x.2.2 = H
        | some s => x.1 = .ret ∧ x.2.1 8 = .ptr 2 0 ∧ x.2.1 9 = .pv (.bool true) ∧ x.2.2 = hset H 2 (.pcells (sc s))) := by
  refine loopK_has ?_
  refine iterE_loop (σ := Nat) (fun m => o.length - m) (fun m => (87, .pv (.sl .nnx o.length (ints o))) :: (88, .pv (.int .i64 o.length)) :: (89, .pv (.int .i64 m)) :: (14, .ptr p 0) :: (15, .ptr q 0) :: (16, .pv (.int .i64 who)) :: Lr v2 v3 v4 v5 v10 o ph v13)
    (fun _ => H) (fun m => m ≤ o.length ∧ fstG who a b (o.take m) ph = none) (fun m ⟨hm, hno⟩ r => ?_) 0 ⟨Nat.zero_le _, rfl⟩ ⟨rfl, rfl, rfl, rfl, rfl, rfl, rfl, rfl, rfl, rfl, rfl, rfl, rfl, rfl, rfl, trivial⟩ rfl
  refine boolK_dec (fun hc => ?_) (fun hc => ?_)
  · have hlt : m < o.length := by omega
    obtain ⟨f, hf⟩ : ∃ f, o[m]? = some f := ⟨_, List.getElem?_eq_getElem hlt⟩
    have hyes : hitG ph (at_ a f) (at_ b f) → fstG who a b o ph = some ⟨who, f, at_ b f⟩ := fun h => find_some hf hno (if_pos h)
    have hnot : ¬ hitG ph (at_ a f) (at_ b f) → fstG who a b (o.take (m + 1)) ph = none := fun h => find_none hf hno (if_neg h)
    refine needK_has (by (first | rfl | (simp; done) | (simp; omega))) ?_
    refine getK_has (ints_get hf) ?_
    refine hgetK_has _ hp ?_
    refine secK_has (v := kn a) rfl (Nat.le_refl _) ?_
    refine callPK_has (rat_ok a f) ?_
    refine hgetK_has _ hq ?_
    refine secK_has (v := kn b) rfl (Nat.le_refl _) ?_
    refine callPK_has (rat_ok b f) ?_
    generalize fstG who a b o ph = G at *
    rcases hph with rfl | rfl | rfl | rfl | rfl
    all_goals
      repeat' (first
        | refine boolK_has_true rfl ?_
        | refine boolK_has_false rfl ?_
        | refine boolK_dec (fun _ => ?_) (fun _ => ?_))
      all_goals first
        | (refine eqK_has_eq _ (i64_succ (by omega)) ?_
           refine Has.intro ⟨m + 1, ⟨hlt, hnot (by unfold hitG; omega)⟩, by omega, ⟨rfl, rfl, rfl, rfl, rfl, rfl, rfl, rfl, rfl, rfl, rfl, rfl, rfl, rfl, rfl, trivial⟩, rfl⟩)
        | (rw [hyes (by unfold hitG; omega)]
           refine hgetK_has _ hz ?_
           refine needK_has rfl ?_
           refine eqK_has ?_
           refine Has.intro (Has.intro ?_)
           exact ⟨rfl, rfl, rfl, rfl⟩)
        | (exfalso; omega)
  · have : m = o.length := by omega
    subst this
    rw [List.take_length] at hno
    refine Has.intro (Has.intro ?_)
    rw [hno]
    exact ⟨rfl, ⟨rfl, rfl, rfl, rfl, rfl, rfl, rfl, rfl, rfl, trivial⟩, rfl⟩
end
end Go.Proofs.Ytaiomdfajdeacaa
