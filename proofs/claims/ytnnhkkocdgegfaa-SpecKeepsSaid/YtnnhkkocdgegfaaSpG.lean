/-
  Sums of pods.
-/
import Derived.Test.YtnnhkkocdgegfaaSpF
set_option linter.all false
set_option linter.unusedVariables false
set_option linter.unusedSimpArgs false
set_option linter.unusedSectionVars false
namespace Go.Proofs.Ytnnhkkocdgegfaa
open Go Go.VM

def rqs (l : List Ct) : List Vc := l.map Ct.rq
def lms (l : List Ct) : List Vc := l.map Ct.lm
theorem map_take {α β : Type} {f : α → β} {l : List α} {i : Nat} {c : α} (h : l[i]? = some c) : (l.map f).take (i + 1) = (l.map f).take i ++ [f c] := by
  rw [List.take_add_one]; congr 1; simp [h]
/-- Two lists that grow side by side. -/
def Two (G : Heap) (l : List Ct) (i : Nat) (v w : AV) : Prop :=
  AppV G v .nil 3 i (flat vc ((rqs l).take i)) ∧ AppV G w .nil 3 i (flat vc ((lms l).take i)) ∧ (tokOf w = none ∨ tokOf w ≠ tokOf v) ∧ (tokOf v = none ∨ tokOf v ≠ tokOf w)
def sum3 (l : List Ct) : PV := .tup [.agg (vc ((sumV (rqs l)).getD v0)), .agg (vc ((sumV (lms l)).getD v0)), .bool ((sumV (rqs l)).isSome && (sumV (lms l)).isSome)]
theorem AppV.tok {G : Heap} {v : AV} {e : Ext} {es n : Nat} {cs : List PV} (h : AppV G v e es n cs) (t : Nat) (ht : tokOf v = some t) : t < G.length := by
  rcases h with ⟨_, _, rfl, _⟩ | ⟨_, _, t', rfl, h⟩
  · cases ht
  · cases ht
    exact hget_lt h ((by intro h; cases h))
theorem Two.zero (G : Heap) (l : List Ct) : Two G l 0 (.pv (.sl .nil 0 [])) (.pv (.sl .nil 0 [])) := ⟨AppV.new rfl, AppV.new rfl, .inl rfl, .inl rfl⟩
theorem Two.box {G : Heap} {l : List Ct} {i : Nat} {v w : AV} (h : Two G l i v w) (z o' : HObj) (hz : ∀ n es, z ≠ .tok n es) : Two (hset (G ++ [z]) G.length o') l i v w :=
  ⟨AppV_put (AppV_grow h.1 [z]) o' (hget_append_same G z) hz, AppV_put (AppV_grow h.2.1 [z]) o' (hget_append_same G z) hz, h.2.2⟩
theorem two_first {G G' : Heap} {l : List Ct} {i : Nat} {v w v' : AV} (h : Two G l i v w) {c : Ct} (hc : l[i]? = some c) (hv : AppV G' v' .nil 3 (i + 1) (flat vc ((rqs l).take i) ++ vc c.rq)) (hf : Fr v G G') (ht : tokOf v' = tokOf v ∨ tokOf v' = some G.length) :
    AppV G' v' .nil 3 (i + 1) (flat vc ((rqs l).take (i + 1))) ∧ AppV G' w .nil 3 i (flat vc ((lms l).take i)) ∧ (tokOf w = none ∨ tokOf w ≠ tokOf v') := by
  obtain ⟨h1, h2, h3, h4⟩ := h
  refine ⟨?_, AppV.keep h2 hf h3, ?_⟩
  · unfold rqs at hv ⊢
    rw [map_take hc, ← flat_snoc]; exact hv
  · cases hw : tokOf w with
    | none => exact .inl rfl
    | some t =>
      refine .inr ?_
      rcases ht with ht | ht
      · rw [ht, ← hw]
        rcases h3 with h3 | h3
        · rw [h3] at hw; cases hw
        · exact h3
      · rw [ht]
        have := AppV.tok h2 t hw
        intro e; injection e with e; omega
theorem two_second {G G' : Heap} {l : List Ct} {i : Nat} {v w w' : AV} (h1 : AppV G v .nil 3 (i + 1) (flat vc ((rqs l).take (i + 1)))) (h2 : AppV G w .nil 3 i (flat vc ((lms l).take i))) (h3 : tokOf w = none ∨ tokOf w ≠ tokOf v) {c : Ct} (hc : l[i]? = some c)
    (hw : AppV G' w' .nil 3 (i + 1) (flat vc ((lms l).take i) ++ vc c.lm)) (hf : Fr w G G') (ht : tokOf w' = tokOf w ∨ tokOf w' = some G.length) : Two G' l (i + 1) v w' := by
  have hvw : tokOf v = none ∨ tokOf v ≠ tokOf w := by
    cases hv : tokOf v with
    | none => exact .inl rfl
    | some t =>
      refine .inr fun e => ?_
      rcases h3 with h3 | h3
      · rw [h3] at e; cases e
      · exact h3 (e.symm.trans hv.symm)
  have hne : tokOf v ≠ none → tokOf w' ≠ tokOf v := fun hn => by
    cases hv : tokOf v with
    | none => exact absurd hv hn
    | some t =>
      rcases ht with ht | ht
      · rw [ht]
        rcases hvw with h | h
        · exact absurd h hn
        · rw [← hv]; exact fun e => h e.symm
      · rw [ht]
        have := AppV.tok h1 t hv
        intro e; injection e with e; omega
  refine ⟨AppV.keep h1 hf hvw, ?_, ?_, ?_⟩
  · unfold lms at hw ⊢
    rw [map_take hc, ← flat_snoc]; exact hw
  · cases hw' : tokOf w' with
    | none => exact .inl rfl
    | some t =>
      refine .inr fun e => ?_
      exact hne (by rw [← e]; simp) (hw'.trans e)
  · cases hv : tokOf v with
    | none => exact .inl rfl
    | some t =>
      refine .inr fun e => ?_
      exact hne (by rw [hv]; simp) (e.symm.trans hv.symm)
/-- The two forms of a list that grows. -/
theorem AppV.forms {G : Heap} {v : AV} {n : Nat} {cs : List PV} (h : AppV G v .nil 3 n cs) : (n = 0 ∧ v = .pv (.sl .nil 0 [])) ∨ (∃ t, v = .tsl t n cs) := by
  rcases h with ⟨h1, _, h3, _⟩ | ⟨_, _, t, h, _⟩
  · exact .inl ⟨h1, h3⟩
  · exact .inr ⟨t, h⟩
end Go.Proofs.Ytnnhkkocdgegfaa
