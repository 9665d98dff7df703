/-
  All steps, one behind the other.
-/
import Derived.Test.YtaiomdfajdeacaaPlI
set_option linter.all false
set_option linter.unusedVariables false
set_option linter.unusedSimpArgs false
set_option linter.unusedSectionVars false
namespace Go.Proofs.Ytaiomdfajdeacaa
open Go Go.VM

/-- In how many files two groups differ. -/
def df (a b : Kn) : Nat := (if a.c = b.c then 0 else 1) + (if a.w = b.w then 0 else 1) + (if a.mn = b.mn then 0 else 1) + (if a.mx = b.mx then 0 else 1) + (if a.hg = b.hg then 0 else 1)
theorem df_le (a b : Kn) : df a b ≤ 5 := by unfold df; repeat' split
                                            all_goals omega
theorem df_zero {a b : Kn} (h : df a b = 0) : a = b := by
  obtain ⟨c, w, mn, mx, hg⟩ := a
  obtain ⟨c', w', mn', mx', hg'⟩ := b
  unfold df at h
  simp only at h
  repeat' split at h
  all_goals first | omega | (congr)
def file (f : Int) : Prop := f = 0 ∨ f = 1 ∨ f = 2 ∨ f = 3 ∨ f = 4
theorem df_with {a b : Kn} {f : Int} (hf : file f) (h : at_ a f ≠ at_ b f) : df (with_ a f (at_ b f)) b + 1 = df a b := by
  rcases hf with rfl | rfl | rfl | rfl | rfl
  all_goals
    simp only [at_, with_] at h ⊢
    simp at h ⊢
    unfold df
    simp [h]
    try omega
def dl : List Kn → List Kn → Nat
  | a :: l, b :: m => df a b + dl l m
  | _, _ => 0
theorem dl_le (l m : List Kn) : dl l m ≤ 5 * l.length := by
  induction l generalizing m with
  | nil => simp [dl]
  | cons a l ih =>
    cases m with
    | nil => simp [dl]
    | cons b m =>
      have := ih m
      have := df_le a b
      simp only [dl, List.length_cons]; omega
theorem dl_zero : ∀ {l m : List Kn}, l.length = m.length → dl l m = 0 → l = m := by
  intro l
  induction l with
  | nil => intro m h _; exact (List.eq_nil_of_length_eq_zero (by simpa using h.symm)).symm
  | cons a l ih =>
    intro m h h0
    cases m with
    | nil => simp at h
    | cons b m =>
      simp only [dl] at h0
      rw [df_zero (a := a) (b := b) (by omega), ih (by simpa using h) (by omega)]
theorem dl_self (l : List Kn) : dl l l = 0 := by
  induction l with
  | nil => rfl
  | cons a l ih => simp [dl, df, ih]
theorem dl_set : ∀ {l m : List Kn} {i : Nat} {a b k : Kn}, l[i]? = some a → m[i]? = some b → dl (l.set i k) m + df a b = dl l m + df k b := by
  intro l
  induction l with
  | nil => intro m i a b k h; simp at h
  | cons x l ih =>
    intro m i a b k h1 h2
    cases m with
    | nil => simp at h2
    | cons y m =>
      cases i with
      | zero =>
        simp at h1 h2; subst h1; subst h2
        simp only [List.set_cons_zero, dl]; omega
      | succ i =>
        simp at h1 h2
        have := ih h1 h2 (k := k)
        simp only [List.set_cons_succ, dl]; omega

/-! ### what a step is -/
def isStep (pod podTo : Kn) (now to : List Kn) (s : Stp) : Prop :=
  (s.who = -1 ∧ file s.f ∧ at_ pod s.f ≠ at_ podTo s.f ∧ s.n = at_ podTo s.f) ∨
  (∃ i k k2, s.who = ((i : Nat) : Int) ∧ now[i]? = some k ∧ to[i]? = some k2 ∧ file s.f ∧ at_ k s.f ≠ at_ k2 s.f ∧ s.n = at_ k2 s.f)
theorem fst_is {who : Int} {a b : Kn} {o : List Int} {way : Int} {s : Stp} (ho : ∀ f ∈ o, file f) (h : fst who a b o way = some s) : s.who = who ∧ file s.f ∧ at_ a s.f ≠ at_ b s.f ∧ s.n = at_ b s.f ∧ s.f ∈ o ∧ goes way (at_ a s.f) (at_ b s.f) := by
  obtain ⟨f, hf, h⟩ := List.exists_of_findSome?_eq_some h
  split at h
  · rename_i hg
    injection h with h; subst h
    exact ⟨rfl, ho f hf, by unfold goes at hg; simp only; omega, rfl, hf, hg⟩
  · cases h
theorem fst_no {who : Int} {a b : Kn} {o : List Int} {way : Int} (h : fst who a b o way = none) : ∀ f ∈ o, ¬ goes way (at_ a f) (at_ b f) := by
  intro f hf hg
  have := List.findSome?_eq_none_iff.1 h f hf
  rw [if_pos hg] at this
  cases this
theorem dn_file : ∀ f ∈ dn, file f := by unfold dn file; simp
theorem up_file : ∀ f ∈ upw, file f := by unfold upw file; simp
theorem smf_is {now to : List Kn} {o : List Int} {way : Int} {s : Stp} (hlen : now.length = to.length) (ho : ∀ f ∈ o, file f) (h : smf now to o way = some s) :
    ∃ i k k2, s.who = ((i : Nat) : Int) ∧ now[i]? = some k ∧ to[i]? = some k2 ∧ file s.f ∧ at_ k s.f ≠ at_ k2 s.f ∧ s.n = at_ k2 s.f ∧ s.f ∈ o ∧ goes way (at_ k s.f) (at_ k2 s.f) ∧ fst i k k2 o way = some s := by
  obtain ⟨i, hi, h⟩ := List.exists_of_findSome?_eq_some h
  have hi := List.mem_range.1 hi
  have h1 : now[i]? = some now[i] := List.getElem?_eq_getElem hi
  have h2 : to[i]? = some (to[i]'(by omega)) := List.getElem?_eq_getElem (by omega)
  rw [gt_eq h1, gt_eq h2] at h
  obtain ⟨g1, g2, g3, g4, g5, g6⟩ := fst_is ho h
  exact ⟨i, _, _, g1, h1, h2, g2, g3, g4, g5, g6, h⟩
theorem smf_no {now to : List Kn} {o : List Int} {way : Int} (h : smf now to o way = none) {i : Nat} {k k2 : Kn} (h1 : now[i]? = some k) (h2 : to[i]? = some k2) : ∀ f ∈ o, ¬ goes way (at_ k f) (at_ k2 f) := by
  have hi : i < now.length := (List.getElem?_eq_some_iff.1 h1).1
  have := List.findSome?_eq_none_iff.1 h i (List.mem_range.2 hi)
  rw [gt_eq h1, gt_eq h2] at this
  exact fst_no this
theorem wgc_is {now to : List Kn} {s : Stp} (hlen : now.length = to.length) (h : wgc now to = some s) : ∃ i k k2, s.who = ((i : Nat) : Int) ∧ now[i]? = some k ∧ to[i]? = some k2 ∧ s.f = 1 ∧ k.w ≠ k2.w ∧ s.n = k2.w := by
  obtain ⟨i, hi, h⟩ := List.exists_of_findSome?_eq_some h
  have hi := List.mem_range.1 hi
  have h1 : now[i]? = some now[i] := List.getElem?_eq_getElem hi
  have h2 : to[i]? = some (to[i]'(by omega)) := List.getElem?_eq_getElem (by omega)
  rw [gt_eq h1, gt_eq h2] at h
  split at h
  · rename_i hg
    injection h with h; subst h
    exact ⟨i, _, _, rfl, h1, h2, rfl, hg, rfl⟩
  · cases h
theorem wgc_no {now to : List Kn} (h : wgc now to = none) {i : Nat} {k k2 : Kn} (h1 : now[i]? = some k) (h2 : to[i]? = some k2) : k.w = k2.w := by
  have hi : i < now.length := (List.getElem?_eq_some_iff.1 h1).1
  have := List.findSome?_eq_none_iff.1 h i (List.mem_range.2 hi)
  rw [gt_eq h1, gt_eq h2] at this
  split at this
  · cases this
  · rename_i hh; exact Classical.not_not.1 hh
/-- The step by its phase. -/
inductive Ph (pod podTo : Kn) (now to : List Kn) (s : Stp) : Prop
  | p1 : smf now to dn 0 = some s → Ph pod podTo now to s
  | p2 : smf now to dn 0 = none → wgc now to = some s → Ph pod podTo now to s
  | p2p : smf now to dn 0 = none → wgc now to = none → pod.w ≠ podTo.w → s = ⟨-1, 1, podTo.w⟩ → Ph pod podTo now to s
  | p3 : smf now to dn 0 = none → wgc now to = none → pod.w = podTo.w → fst (-1) pod podTo upw 1 = some s → Ph pod podTo now to s
  | p4 : smf now to dn 0 = none → wgc now to = none → pod.w = podTo.w → fst (-1) pod podTo upw 1 = none → smf now to upw 1 = some s → Ph pod podTo now to s
  | p5 : smf now to dn 0 = none → wgc now to = none → pod.w = podTo.w → fst (-1) pod podTo upw 1 = none → smf now to upw 1 = none → fst (-1) pod podTo dn 0 = some s → Ph pod podTo now to s
theorem nxt_ph {pod podTo : Kn} {now to : List Kn} {s : Stp} (h : nxt pod podTo now to = some s) : now.length = to.length ∧ Ph pod podTo now to s := by
  unfold nxt at h
  split at h
  · cases h
  · rename_i hlen
    refine ⟨Classical.not_not.1 hlen, ?_⟩
    cases h1 : smf now to dn 0 with
    | some x => rw [h1] at h; injection h with h; subst h; exact .p1 h1
    | none =>
      rw [h1] at h
      unfold wgt at h
      cases h2 : wgc now to with
      | some x => rw [h2] at h; injection h with h; subst h; exact .p2 h1 h2
      | none =>
        rw [h2] at h
        by_cases h3 : pod.w = podTo.w
        · rw [if_neg (fun hh => hh h3)] at h
          cases h4 : fst (-1) pod podTo upw 1 with
          | some x => rw [h4] at h; injection h with h; subst h; exact .p3 h1 h2 h3 h4
          | none =>
            rw [h4] at h
            cases h5 : smf now to upw 1 with
            | some x => rw [h5] at h; injection h with h; subst h; exact .p4 h1 h2 h3 h4 h5
            | none => rw [h5] at h; exact .p5 h1 h2 h3 h4 h5 h
        · rw [if_pos h3] at h
          injection h with h
          exact .p2p h1 h2 h3 h.symm
theorem ph_is {pod podTo : Kn} {now to : List Kn} {s : Stp} (hlen : now.length = to.length) (h : Ph pod podTo now to s) : isStep pod podTo now to s := by
  cases h with
  | p1 h => obtain ⟨i, k, k2, h1, h2, h3, h4, h5, h6, _⟩ := smf_is hlen dn_file h; exact .inr ⟨i, k, k2, h1, h2, h3, h4, h5, h6⟩
  | p2 _ h => obtain ⟨i, k, k2, h1, h2, h3, h4, h5, h6⟩ := wgc_is hlen h; exact .inr ⟨i, k, k2, h1, h2, h3, by rw [h4]; exact .inr (.inl rfl), by rw [h4]; exact h5, by rw [h4]; exact h6⟩
  | p2p _ _ h e => subst e; exact .inl ⟨rfl, .inr (.inl rfl), h, rfl⟩
  | p3 _ _ _ h => obtain ⟨h1, h2, h3, h4, _⟩ := fst_is up_file h; exact .inl ⟨h1, h2, h3, h4⟩
  | p4 _ _ _ _ h => obtain ⟨i, k, k2, h1, h2, h3, h4, h5, h6, _⟩ := smf_is hlen up_file h; exact .inr ⟨i, k, k2, h1, h2, h3, h4, h5, h6⟩
  | p5 _ _ _ _ _ h => obtain ⟨h1, h2, h3, h4, _⟩ := fst_is dn_file h; exact .inl ⟨h1, h2, h3, h4⟩
def D (pod podTo : Kn) (now to : List Kn) : Nat := df pod podTo + dl now to
theorem D_step {pod podTo : Kn} {now to : List Kn} {s : Stp} (h : isStep pod podTo now to s) : D (ap pod now s).1 podTo (ap pod now s).2 to + 1 = D pod podTo now to := by
  rcases h with ⟨h1, h2, h3, h4⟩ | ⟨i, k, k2, h1, h2, h3, h4, h5, h6⟩
  · unfold ap D
    rw [if_pos h1, h4]
    have := df_with h2 h3
    simp only; omega
  · have hi : i < now.length := (List.getElem?_eq_some_iff.1 h2).1
    unfold ap D
    rw [if_neg (by omega), if_pos (by omega), show s.who.toNat = i by omega, gt_eq h2, h6]
    have := df_with h4 h5
    have := dl_set (k := with_ k s.f (at_ k2 s.f)) h2 h3
    simp only; omega
theorem nxt_none {pod podTo : Kn} {now to : List Kn} (hlen : now.length = to.length) (h : nxt pod podTo now to = none) : pod = podTo ∧ now = to := by
  unfold nxt at h
  rw [if_neg (fun hh => hh hlen)] at h
  cases h1 : smf now to dn 0 with
  | some x => rw [h1] at h; cases h
  | none =>
  rw [h1] at h
  unfold wgt at h
  cases h2 : wgc now to with
  | some x => rw [h2] at h; cases h
  | none =>
  rw [h2] at h
  by_cases h3 : pod.w = podTo.w
  · rw [if_neg (fun hh => hh h3)] at h
    cases h4 : fst (-1) pod podTo upw 1 with
    | some x => rw [h4] at h; cases h
    | none =>
    rw [h4] at h
    cases h5 : smf now to upw 1 with
    | some x => rw [h5] at h; cases h
    | none =>
    rw [h5] at h
    have h6 : fst (-1) pod podTo dn 0 = none := h
    have eq : ∀ {a b : Kn}, a.w = b.w → (∀ f ∈ dn, ¬ goes 0 (at_ a f) (at_ b f)) → (∀ f ∈ upw, ¬ goes 1 (at_ a f) (at_ b f)) → a = b := fun {a b} hw hd hu => by
      have e : ∀ f, f = 0 ∨ f = 2 ∨ f = 3 ∨ f = 4 → at_ a f = at_ b f := fun f hf => by
        have h1 := hd f (by unfold dn; simp; omega)
        have h2 := hu f (by unfold upw; simp; omega)
        unfold goes at h1 h2
        omega
      obtain ⟨c, w, mn, mx, hg⟩ := a
      obtain ⟨c', w', mn', mx', hg'⟩ := b
      have e0 := e 0 (by omega)
      have e2 := e 2 (by omega)
      have e3 := e 3 (by omega)
      have e4 := e 4 (by omega)
      simp only [at_] at e0 e2 e3 e4
      simp at e0 e2 e3 e4 hw
      simp [e0, e2, e3, e4, hw]
    refine ⟨eq h3 (fst_no h6) (fst_no h4), ?_⟩
    apply List.ext_getElem?
    intro i
    rcases Nat.lt_or_ge i now.length with hi | hi
    · have g1 : now[i]? = some now[i] := List.getElem?_eq_getElem hi
      have g2 : to[i]? = some (to[i]'(by omega)) := List.getElem?_eq_getElem (by omega)
      rw [g1, g2, eq (wgc_no h2 g1 g2) (smf_no h1 g1 g2) (smf_no h5 g1 g2)]
    · rw [List.getElem?_eq_none hi, List.getElem?_eq_none (by omega)]
  · rw [if_pos h3] at h; cases h
/-- All steps. -/
def run (podTo : Kn) (to : List Kn) : Nat → Kn → List Kn → List Stp
  | 0, _, _ => []
  | m + 1, p, l => match nxt p podTo l to with
    | none => []
    | some s => s :: run podTo to m (ap p l s).1 (ap p l s).2
def allS (pod podTo : Kn) (now to : List Kn) : List Stp := run podTo to (D pod podTo now to) pod now
theorem allS_none {pod podTo : Kn} {now to : List Kn} (h : nxt pod podTo now to = none) : allS pod podTo now to = [] := by
  unfold allS
  cases D pod podTo now to with
  | zero => rfl
  | succ m => show (match nxt pod podTo now to with | none => [] | some s => _) = _; rw [h]
theorem allS_some {pod podTo : Kn} {now to : List Kn} {s : Stp} (h : nxt pod podTo now to = some s) : allS pod podTo now to = s :: allS (ap pod now s).1 podTo (ap pod now s).2 to := by
  obtain ⟨hlen, hp⟩ := nxt_ph h
  have := D_step (ph_is hlen hp)
  unfold allS
  rw [← this]
  show (match nxt pod podTo now to with | none => [] | some s => s :: run podTo to _ (ap pod now s).1 (ap pod now s).2) = _
  rw [h]
end Go.Proofs.Ytaiomdfajdeacaa
