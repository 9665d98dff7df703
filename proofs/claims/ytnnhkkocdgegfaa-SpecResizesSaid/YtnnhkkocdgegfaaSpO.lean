/-
  Pods that are the same.
-/
import Derived.Test.YtnnhkkocdgegfaaSpN
set_option linter.all false
set_option linter.unusedVariables false
set_option linter.unusedSimpArgs false
set_option linter.unusedSectionVars false
namespace Go.Proofs.Ytnnhkkocdgegfaa
open Go Go.VM

def sameP (a b : Pd) : Prop := a.name = b.name ∧ a.prio = b.prio ∧ a.pol = b.pol ∧ a.l = b.l
noncomputable instance (a b : Pd) : Decidable (sameP a b) := Classical.propDecidable _
theorem str_bne (a b : List UInt8) : (!((⟨a.toArray⟩ : ByteArray).toList == (⟨b.toArray⟩ : ByteArray).toList)) = decide (a ≠ b) := by
  rw [str_beq]; by_cases h : a = b <;> simp [h]
set_option maxHeartbeats 1000000 in
theorem same_ok (x y : Ext) (a b : Pd) (hl : a.l.length ≤ maxLen) : EP (EE env) 23 [.agg (pdc a x), .agg (pdc b y)] = some (.bool (decide (sameP a b))) := by
  refine Has.eq (EP_has ?_)
  (repeat (first | refine hgetK_has _ rfl ?_ | refine getK_has rfl ?_))
  refine boolK_has_eq (c := decide (a.name = b.name)) (str_beq _ _) ?_
  by_cases h1 : a.name = b.name
  rotate_left
  · rw [decide_eq_false h1]
    exact Has.intro (Has.intro (no (fun h => h1 h.1)))
  rw [decide_eq_true h1]
  (repeat (first | refine hgetK_has _ rfl ?_ | refine getK_has rfl ?_))
  refine boolK_beq (fun h2 => ?_) (fun h2 => ?_)
  rotate_left
  · exact Has.intro (Has.intro (no (fun h => h2 h.2.1)))
  (repeat (first | refine hgetK_has _ rfl ?_ | refine getK_has rfl ?_))
  refine boolK_beq (fun h3 => ?_) (fun h3 => ?_)
  rotate_left
  · exact Has.intro (Has.intro (no (fun h => h3 h.2.2.1)))
  (repeat (first | refine hgetK_has _ rfl ?_ | refine getK_has rfl ?_))
  refine callPK_dec (equal_ok x y a.l b.l hl) (fun h4 => ?_) (fun h4 => ?_)
  · exact Has.intro (Has.intro (yes ⟨h1, h2, h3, h4⟩))
  · exact Has.intro (Has.intro (no (fun h => h4 h.2.2.2)))
set_option maxHeartbeats 1000000 in
theorem rsame_ok (x y : Ext) (a b : Pd) (hl : a.l.length ≤ maxLen) : EP (EE env) 24 [.agg (pdc a x), .agg (pdc b y)] = some (.bool (decide (sameP a b))) := by
  rw [maxLen_eq] at hl
  refine Has.eq (EP_has ?_)
  (repeat (first | refine hgetK_has _ rfl ?_ | refine getK_has rfl ?_))
  refine boolK_has_eq (c := decide (a.name ≠ b.name)) (str_bne _ _) ?_
  by_cases h1 : a.name = b.name
  rotate_left
  · rw [decide_eq_true h1]
    exact Has.intro (Has.intro (no (fun h => h1 h.1)))
  rw [decide_eq_false (fun h => h h1)]
  (repeat (first | refine hgetK_has _ rfl ?_ | refine getK_has rfl ?_))
  refine boolK_bne (fun h2 => ?_) (fun h2 => ?_)
  · exact Has.intro (Has.intro (no (fun h => h2 h.2.1)))
  (repeat (first | refine hgetK_has _ rfl ?_ | refine getK_has rfl ?_))
  refine boolK_bne (fun h3 => ?_) (fun h3 => ?_)
  · exact Has.intro (Has.intro (no (fun h => h3 h.2.2.1)))
  (repeat (first | refine hgetK_has _ rfl ?_ | refine getK_has rfl ?_))
  refine boolK_bne (fun h4 => ?_) (fun h4 => ?_)
  · exact Has.intro (Has.intro (no (fun h => h4 (by rw [h.2.2.2]))))
  (repeat (first | refine hgetK_has _ rfl ?_ | refine getK_has rfl ?_))
  have hab : a.l.length = b.l.length := by omega
  refine loopK_has ?_
  refine iterE_loop (σ := Nat) (fun i => a.l.length - i) (fun i => [(2, .ptr 0 0), (3, .ptr 1 0), (36, .pv (.int .i64 a.l.length)), (37, .pv (.int .i64 i))]) (fun _ => [.pcells (pdc a x), .pcells (pdc b y)]) (fun i => i ≤ a.l.length ∧ ∀ (j : Nat) (c d : Ct), j < i → a.l[j]? = some c → b.l[j]? = some d → c = d) (fun i ⟨hi, hA⟩ r => ?_) 0 ⟨Nat.zero_le _, fun j c d h => by omega⟩ ⟨rfl, rfl, rfl, rfl, trivial⟩ rfl
  refine boolK_dec (fun hc => ?_) (fun hc => ?_)
  · have hlt : i < a.l.length := by omega
    obtain ⟨c, hcg⟩ : ∃ c, a.l[i]? = some c := ⟨_, List.getElem?_eq_getElem hlt⟩
    obtain ⟨d, hdg⟩ : ∃ c, b.l[i]? = some c := ⟨_, List.getElem?_eq_getElem (show i < b.l.length by omega)⟩
    obtain ⟨g1, g2⟩ := flat_get ct_len hcg
    obtain ⟨f1, f2⟩ := flat_get ct_len hdg
    (repeat (first | refine hgetK_has _ rfl ?_ | refine getK_has rfl ?_))
    refine needK_has (by (first | rfl | (simp; done) | (simp; omega))) ?_
    refine secK_has g1 g2 ?_
    (repeat (first | refine hgetK_has _ rfl ?_ | refine getK_has rfl ?_))
    refine needK_has (by (first | rfl | (simp; done) | (simp; omega))) ?_
    refine secK_has f1 f2 ?_
    refine bindK_has (ct_eq c d) ?_
    by_cases e : c = d
    · refine boolK_has_eq (c := false) (by rw [decide_eq_true e]; rfl) ?_
      refine eqK_has_eq _ (i64_succ (by omega)) ?_
      refine Has.intro ⟨i + 1, ⟨hlt, fun j c' d' hj h1 h2 => ?_⟩, by omega, ⟨rfl, rfl, rfl, rfl, trivial⟩, rfl⟩
      by_cases ej : j = i
      · subst ej
        rw [hcg] at h1; rw [hdg] at h2
        injection h1 with h1; injection h2 with h2
        rw [← h1, ← h2]; exact e
      · exact hA j c' d' (by omega) h1 h2
    · refine boolK_has_eq (c := true) (by rw [decide_eq_false e]; rfl) ?_
      refine Has.intro (Has.intro (Has.intro (no (fun h => e ?_))))
      rw [h.2.2.2, hdg] at hcg
      injection hcg with hcg; exact hcg.symm
  · have : i = a.l.length := by omega
    subst this
    exact Has.intro (Has.intro (Has.intro (yes ⟨h1, h2, h3, lists_eq hab (fun j c d h1 h2 => hA j c d (List.getElem?_eq_some_iff.1 h1).1 h1 h2)⟩)))
end Go.Proofs.Ytnnhkkocdgegfaa
