/-
  A list's clone.
-/
import Derived.Test.YtnnhkkocdgegfaaSpQ
set_option linter.all false
set_option linter.unusedVariables false
set_option linter.unusedSimpArgs false
set_option linter.unusedSectionVars false
namespace Go.Proofs.Ytnnhkkocdgegfaa
open Go Go.VM

theorem clone_ok (x : Ext) (l : List Ct) (h0 : l ≠ []) (hl : l.length ≤ 1000) : EP (EE env) 41 [.sl x l.length (flat ct l)] = some (.sl .nn l.length (flat ct l)) := by
  cases l with
  | nil => exact absurd rfl h0
  | cons a l =>
    cases x
    all_goals
      refine Has.eq (EP_has ?_)
      refine app_plain rfl rfl (flat_len ct_len _) (by simp) (by show (0 + (a :: l).length) * 72 ≤ 140737488355328; omega) ?_
      refine Has.intro (Has.intro ?_)
      show PV.sl .nn (0 + (a :: l).length) ([] ++ flat ct (a :: l)) = _
      rw [Nat.zero_add]; rfl
theorem clone_ee (x : Ext) (l : List Ct) (h0 : l ≠ []) (hl : l.length ≤ 1000) : EE env (.fn 41) [.pv (.sl x l.length (flat ct l))] [] = some (.tsl 0 l.length (flat ct l), [.tok l.length 10]) := by
  cases l with
  | nil => exact absurd rfl h0
  | cons a l =>
    cases x
    all_goals
      refine Has.eq (EE_has ?_)
      refine app_plain rfl rfl (flat_len ct_len _) (by simp) (by show (0 + (a :: l).length) * 72 ≤ 140737488355328; omega) ?_
      refine Has.intro ?_
      show (AV.tsl 0 (0 + (a :: l).length) ([] ++ flat ct (a :: l)), [HObj.tok (0 + (a :: l).length) 10]) = _
      rw [Nat.zero_add]; rfl
theorem flat_flat (l : List Ct) : (flat ct l).all PV.flat = true := by
  unfold flat
  rw [List.all_eq_true]
  intro v hv
  obtain ⟨q, hq, hv⟩ := List.mem_flatten.1 hv
  obtain ⟨c, _, rfl⟩ := List.mem_map.1 hq
  simp only [ct, List.mem_cons, List.not_mem_nil, or_false] at hv
  rcases hv with rfl | rfl | rfl | rfl | rfl | rfl | rfl | rfl | rfl | rfl <;> rfl
end Go.Proofs.Ytnnhkkocdgegfaa
