/-
  Pods that are the same.
-/
import Derived.Test.YtnnhkkocdgegfaaSpM
set_option linter.all false
set_option linter.unusedVariables false
set_option linter.unusedSimpArgs false
set_option linter.unusedSectionVars false
namespace Go.Proofs.Ytnnhkkocdgegfaa
open Go Go.VM

noncomputable instance : DecidableEq Ct := fun a b => Classical.propDecidable (a = b)
theorem ct_eq (a b : Ct) : aggEq [.s, .i, .i, .i, .i, .i, .i, .b, .b, .b] (ct a) (ct b) = some (decide (a = b)) := by
  show some _ = some _
  congr 1
  rw [str_beq, Bool.eq_iff_iff, decide_eq_true_iff]
  obtain ⟨n, ⟨a1, a2, a3⟩, ⟨a4, a5, a6⟩, r0, r1, r2⟩ := a
  obtain ⟨m, ⟨b1, b2, b3⟩, ⟨b4, b5, b6⟩, s0, s1, s2⟩ := b
  simp only [Bool.and_eq_true, beq_iff_eq, decide_eq_true_iff, Ct.mk.injEq, Vc.mk.injEq]
  constructor
  · rintro ⟨h1, h2, h3, h4, h5, h6, h7, h8, h9, h10, _⟩
    exact ⟨h1, ⟨h2, h3, h4⟩, ⟨h5, h6, h7⟩, h8, h9, h10⟩
  · rintro ⟨h1, ⟨h2, h3, h4⟩, ⟨h5, h6, h7⟩, h8, h9, h10⟩
    exact ⟨h1, h2, h3, h4, h5, h6, h7, h8, h9, h10, trivial⟩
theorem lists_eq {a b : List Ct} (hl : a.length = b.length) (h : ∀ (j : Nat) (c d : Ct), a[j]? = some c → b[j]? = some d → c = d) : a = b := by
  refine List.ext_getElem? fun j => ?_
  cases ha : a[j]? with
  | none => rw [List.getElem?_eq_none_iff] at ha; symm; rw [List.getElem?_eq_none_iff]; omega
  | some c =>
    obtain ⟨hj, _⟩ := List.getElem?_eq_some_iff.1 ha
    have hb : b[j]? = some _ := List.getElem?_eq_getElem (show j < b.length by omega)
    rw [hb, h j c _ ha hb]
set_option maxHeartbeats 1000000 in
theorem equal_ok (x y : Ext) (a b : List Ct) (hl : a.length ≤ maxLen) : EP (EE env) 39 [.sl x a.length (flat ct a), .sl y b.length (flat ct b)] = some (.bool (decide (a = b))) := by
  rw [maxLen_eq] at hl
  refine Has.eq (EP_has ?_)
  refine boolK_bne (fun h => ?_) (fun h => ?_)
  · exact Has.intro (Has.intro (no (fun e => h (by rw [e]))))
  have hab : a.length = b.length := by omega
  refine loopK_has ?_
  refine iterE_loop (σ := Nat) (fun i => a.length - i) (fun i => [(0, .pv (.sl x a.length (flat ct a))), (1, .pv (.sl y b.length (flat ct b))), (12, .pv (.int .i64 a.length)), (13, .pv (.int .i64 i))]) (fun _ => []) (fun i => i ≤ a.length ∧ ∀ (j : Nat) (c d : Ct), j < i → a[j]? = some c → b[j]? = some d → c = d) (fun i ⟨hi, hA⟩ r => ?_) 0 ⟨Nat.zero_le _, fun j c d h => by omega⟩ ⟨rfl, rfl, rfl, rfl, trivial⟩ rfl
  refine boolK_dec (fun hc => ?_) (fun hc => ?_)
  · have hlt : i < a.length := by omega
    obtain ⟨c, hcg⟩ : ∃ c, a[i]? = some c := ⟨_, List.getElem?_eq_getElem hlt⟩
    obtain ⟨d, hdg⟩ : ∃ c, b[i]? = some c := ⟨_, List.getElem?_eq_getElem (show i < b.length by omega)⟩
    obtain ⟨g1, g2⟩ := flat_get ct_len hcg
    obtain ⟨f1, f2⟩ := flat_get ct_len hdg
    refine needK_has (by (first | rfl | (simp; done) | (simp; omega))) ?_
    refine secK_has g1 g2 ?_
    refine needK_has (by (first | rfl | (simp; done) | (simp; omega))) ?_
    refine secK_has f1 f2 ?_
    refine bindK_has (ct_eq c d) ?_
    by_cases e : c = d
    · refine boolK_has_eq (c := false) (by rw [decide_eq_true e]; rfl) ?_
      refine eqK_has_eq _ (i64_succ (by omega)) ?_
      refine Has.intro ⟨i + 1, ⟨hlt, fun j c' d' hj h1 h2 => ?_⟩, by omega, ⟨rfl, rfl, rfl, rfl, trivial⟩, rfl⟩
      by_cases ej : j = i
      · subst ej
        rw [hcg] at h1; rw [hdg] at h2
        injection h1 with h1; injection h2 with h2
        rw [← h1, ← h2]; exact e
      · exact hA j c' d' (by omega) h1 h2
    · refine boolK_has_eq (c := true) (by rw [decide_eq_false e]; rfl) ?_
      refine Has.intro (Has.intro (Has.intro (no (fun h => e ?_))))
      rw [h, hdg] at hcg
      injection hcg with hcg; exact hcg.symm
  · have : i = a.length := by omega
    subst this
    exact Has.intro (Has.intro (Has.intro (yes (lists_eq hab (fun j c d h1 h2 => hA j c d (List.getElem?_eq_some_iff.1 h1).1 h1 h2)))))
end Go.Proofs.Ytnnhkkocdgegfaa
