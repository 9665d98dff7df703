/-
  States on the way: the prefixes of all steps; no file twice.
-/
import Derived.Test.YtaiomdfajdeacaaPlO
set_option linter.all false
set_option linter.unusedVariables false
set_option linter.unusedSimpArgs false
set_option linter.unusedSectionVars false
namespace Go.Proofs.Ytaiomdfajdeacaa
open Go Go.VM

/-- What some steps lead to. -/
def walk (pod : Kn) (now : List Kn) (l : List Stp) : Kn × List Kn := l.foldl (fun p s => ap p.1 p.2 s) (pod, now)
theorem walk_len (l : List Stp) : ∀ (pod : Kn) (now : List Kn), (walk pod now l).2.length = now.length := by
  induction l with
  | nil => intro pod now; rfl
  | cons s l ih => intro pod now; exact (ih _ _).trans (ap_len pod now s)
theorem walk_snoc (pod : Kn) (now : List Kn) (l : List Stp) (s : Stp) : walk pod now (l ++ [s]) = ap (walk pod now l).1 (walk pod now l).2 s := by
  unfold walk; rw [List.foldl_append]; rfl
theorem walk_take {pod : Kn} {now : List Kn} {l : List Stp} {i : Nat} {s : Stp} (h : l[i]? = some s) : walk pod now (l.take (i + 1)) = ap (walk pod now (l.take i)).1 (walk pod now (l.take i)).2 s := by
  rw [List.take_add_one, h]; exact walk_snoc ..
theorem allS_at {podTo : Kn} {to : List Kn} : ∀ (i : Nat) (pod : Kn) (now : List Kn) (s : Stp), (allS pod podTo now to)[i]? = some s →
    nxt (walk pod now ((allS pod podTo now to).take i)).1 podTo (walk pod now ((allS pod podTo now to).take i)).2 to = some s := by
  intro i
  induction i with
  | zero =>
    intro pod now s h
    cases hq : nxt pod podTo now to with
    | none => rw [allS_none hq] at h; simp at h
    | some t =>
      rw [allS_some hq] at h
      simp at h
      subst h
      exact hq
  | succ i ih =>
    intro pod now s h
    cases hq : nxt pod podTo now to with
    | none => rw [allS_none hq] at h; simp at h
    | some t =>
      rw [allS_some hq] at h ⊢
      rw [List.getElem?_cons_succ] at h
      exact ih _ _ _ h
theorem allS_end {podTo : Kn} {to : List Kn} : ∀ (m : Nat) (pod : Kn) (now : List Kn), D pod podTo now to ≤ m → now.length = to.length → walk pod now (allS pod podTo now to) = (podTo, to) ∧ (allS pod podTo now to).length = D pod podTo now to := by
  intro m
  induction m with
  | zero =>
    intro pod now hD hlen
    have h0 : D pod podTo now to = 0 := by omega
    unfold D at h0
    have h1 := df_zero (a := pod) (b := podTo) (by omega)
    have h2 := dl_zero hlen (by omega)
    unfold allS
    rw [show D pod podTo now to = 0 by unfold D; omega]
    subst h1; subst h2
    exact ⟨rfl, rfl⟩
  | succ m ih =>
    intro pod now hD hlen
    cases hq : nxt pod podTo now to with
    | none =>
      obtain ⟨h1, h2⟩ := nxt_none hlen hq
      rw [allS_none hq]
      subst h1; subst h2
      refine ⟨rfl, ?_⟩
      unfold D
      rw [dl_self]
      simp [df]
    | some t =>
      obtain ⟨_, hp⟩ := nxt_ph hq
      have hs := D_step (ph_is hlen hp)
      have := ih (ap pod now t).1 (ap pod now t).2 (by omega) (by rw [ap_len]; exact hlen)
      rw [allS_some hq]
      refine ⟨this.1, ?_⟩
      rw [List.length_cons, this.2, hs]

/-! ### no file twice -/
/-- What a step has set. -/
def settled (podTo : Kn) (to : List Kn) (pod : Kn) (now : List Kn) (who f : Int) : Prop :=
  (who = -1 ∧ at_ pod f = at_ podTo f) ∨ (∃ i : Nat, who = i ∧ ∃ k k2, now[i]? = some k ∧ to[i]? = some k2 ∧ at_ k f = at_ k2 f)
theorem at_with_same {k : Kn} {f n : Int} (hf : file f) : at_ (with_ k f n) f = n := by
  rcases hf with rfl | rfl | rfl | rfl | rfl <;> rfl
theorem at_with_ne {k : Kn} {f g n : Int} (h : f ≠ g) : at_ (with_ k f n) g = at_ k g := by
  unfold with_ at_
  repeat' split
  all_goals first
    | rfl
    | (exfalso; omega)
theorem settled_step {podTo : Kn} {to : List Kn} {pod : Kn} {now : List Kn} {s : Stp} (h : isStep pod podTo now to s) : settled podTo to (ap pod now s).1 (ap pod now s).2 s.who s.f := by
  rcases h with ⟨h1, h2, h3, h4⟩ | ⟨i, k, k2, h1, h2, h3, h4, h5, h6⟩
  · left
    refine ⟨h1, ?_⟩
    unfold ap; rw [if_pos h1]
    show at_ (with_ pod s.f s.n) s.f = _
    rw [at_with_same h2, h4]
  · right
    have hi : i < now.length := (List.getElem?_eq_some_iff.1 h2).1
    refine ⟨i, h1, with_ k s.f s.n, k2, ?_, h3, ?_⟩
    · unfold ap
      rw [if_neg (by omega), if_pos (by omega), show s.who.toNat = i by omega, gt_eq h2]
      show (now.set i _)[i]? = _
      rw [List.getElem?_set_self hi]
    · rw [at_with_same h4, h6]
theorem settled_keep {podTo : Kn} {to : List Kn} {pod : Kn} {now : List Kn} {s : Stp} {who f : Int} (h : isStep pod podTo now to s) (hs : settled podTo to pod now who f) : settled podTo to (ap pod now s).1 (ap pod now s).2 who f := by
  rcases h with ⟨h1, h2, h3, h4⟩ | ⟨i, k, k2, h1, h2, h3, h4, h5, h6⟩
  · have e : ap pod now s = (with_ pod s.f s.n, now) := by unfold ap; rw [if_pos h1]
    rw [e]
    rcases hs with ⟨g1, g2⟩ | g
    · left
      refine ⟨g1, ?_⟩
      by_cases hf : s.f = f
      · subst hf
        show at_ (with_ pod s.f s.n) s.f = _
        rw [at_with_same h2, h4]
      · show at_ (with_ pod s.f s.n) f = _
        rw [at_with_ne hf]; exact g2
    · exact .inr g
  · have hi : i < now.length := (List.getElem?_eq_some_iff.1 h2).1
    have e : ap pod now s = (pod, now.set i (with_ k s.f s.n)) := by
      unfold ap; rw [if_neg (by omega), if_pos (by omega), show s.who.toNat = i by omega, gt_eq h2]
    rw [e]
    rcases hs with g | ⟨j, g1, a, b, g2, g3, g4⟩
    · exact .inl g
    · right
      by_cases hj : j = i
      · subst hj
        rw [h2] at g2; injection g2 with g2; subst g2
        rw [h3] at g3; injection g3 with g3; subst g3
        refine ⟨j, g1, with_ k s.f s.n, k2, List.getElem?_set_self hi, h3, ?_⟩
        by_cases hf : s.f = f
        · subst hf; rw [at_with_same h4, h6]
        · rw [at_with_ne hf]; exact g4
      · exact ⟨j, g1, a, b, by rw [List.getElem?_set_ne (fun e => hj e.symm)]; exact g2, g3, g4⟩
theorem settled_not {podTo : Kn} {to : List Kn} {pod : Kn} {now : List Kn} {s : Stp} (h : isStep pod podTo now to s) : ¬ settled podTo to pod now s.who s.f := by
  intro hs
  rcases h with ⟨h1, h2, h3, h4⟩ | ⟨i, k, k2, h1, h2, h3, h4, h5, h6⟩
  · rcases hs with ⟨_, g⟩ | ⟨j, g, _⟩
    · exact h3 g
    · omega
  · rcases hs with ⟨g, _⟩ | ⟨j, g1, a, b, g2, g3, g4⟩
    · omega
    · have : j = i := by omega
      subst this
      rw [h2] at g2; injection g2 with g2; subst g2
      rw [h3] at g3; injection g3 with g3; subst g3
      exact h5 g4
theorem isStep_at {pod podTo : Kn} {now to : List Kn} {i : Nat} {s : Stp} (h : (allS pod podTo now to)[i]? = some s) : isStep (walk pod now ((allS pod podTo now to).take i)).1 podTo (walk pod now ((allS pod podTo now to).take i)).2 to s := by
  obtain ⟨h1, h2⟩ := nxt_ph (allS_at i pod now s h)
  exact ph_is h1 h2
theorem settled_all {pod podTo : Kn} {now to : List Kn} {i : Nat} {s : Stp} (h : (allS pod podTo now to)[i]? = some s) : ∀ j, i < j → j ≤ (allS pod podTo now to).length →
    settled podTo to (walk pod now ((allS pod podTo now to).take j)).1 (walk pod now ((allS pod podTo now to).take j)).2 s.who s.f := by
  intro j
  induction j with
  | zero => intro hj; omega
  | succ j ih =>
    intro hj hjl
    have hlt : j < (allS pod podTo now to).length := hjl
    obtain ⟨t, ht⟩ : ∃ t, (allS pod podTo now to)[j]? = some t := ⟨_, List.getElem?_eq_getElem hlt⟩
    rw [walk_take ht]
    by_cases e : i = j
    · subst e
      rw [h] at ht; injection ht with ht; subst ht
      exact settled_step (isStep_at h)
    · exact settled_keep (isStep_at ht) (ih (by omega) (by omega))
theorem once {pod podTo : Kn} {now to : List Kn} {i j : Nat} {s t : Stp} (hi : (allS pod podTo now to)[i]? = some s) (hj : (allS pod podTo now to)[j]? = some t) (h : j < i) : ¬ (s.who = t.who ∧ s.f = t.f) := by
  intro ⟨h1, h2⟩
  have := settled_all hj i h (Nat.le_of_lt (List.getElem?_eq_some_iff.1 hi).1)
  rw [← h1, ← h2] at this
  exact settled_not (isStep_at hi) this
end Go.Proofs.Ytaiomdfajdeacaa
