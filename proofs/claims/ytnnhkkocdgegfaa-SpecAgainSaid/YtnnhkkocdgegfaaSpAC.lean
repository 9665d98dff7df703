/-
  What a resize leaves, and that it is as once: plain laws.
-/
import Derived.Test.YtnnhkkocdgegfaaSpAB
set_option linter.all false
set_option linter.unusedVariables false
set_option linter.unusedSimpArgs false
set_option linter.unusedSectionVars false
namespace Go.Proofs.Ytnnhkkocdgegfaa
open Go Go.VM

theorem rzF_names {l0 : List Ct} : ∀ {xs : List Ch} {done : List Ch} {L M : List Ct}, rzF l0 done xs L = (0, M) → M.map Ct.name = L.map Ct.name := by
  intro xs
  induction xs with
  | nil => intro done L M h; rw [rzF] at h; injection h with _ h; rw [h]
  | cons x xs ih =>
    intro done L M h
    rw [rzF] at h
    split at h
    · cases h
    split at h
    · cases h
    split at h
    · cases h
    rw [ih h, putc_names]
/-- What comes of a resize without an error. -/
theorem rzP_ok {p q : Pd} {l : List Ch} (h : rzP p l = (0, q)) : podP p ∧ l ≠ [] ∧ podP q ∧ classI q.l = classI p.l ∧ ∃ M, rzF p.l [] l p.l = (0, M) ∧ q = wl p M := by
  unfold rzP at h
  split at h
  · rename_i hp
    unfold rzQ at h
    split at h
    · rename_i h1
      injection h with h _
      exact absurd h h1
    split at h
    · cases h
    split at h
    · cases h
    rename_i h1 h2 h3
    injection h with _ h
    have h1 : (rzF p.l [] l p.l).1 = 0 := Classical.not_not.1 h1
    refine ⟨hp.1, hp.2, by rw [← h]; exact Classical.not_not.1 h2, by rw [← h]; exact Classical.not_not.1 h3, (rzF p.l [] l p.l).2, ?_, h.symm⟩
    rw [← h1]
  · cases h
theorem rzP_err {p : Pd} {l : List Ch} (h : (rzP p l).1 ≠ 0) : (rzP p l).2 = pz := by
  unfold rzP at h ⊢
  split at h
  · rename_i hp
    rw [if_pos hp]
    unfold rzQ at h ⊢
    split at h
    · rename_i h1; rw [if_pos h1]
    · rename_i h1
      rw [if_neg h1]
      split at h
      · rename_i h2; rw [if_pos h2]
      · rename_i h2
        rw [if_neg h2]
        split at h
        · rename_i h3; rw [if_pos h3]
        · exact absurd rfl h
  · rename_i hp; rw [if_neg hp]
theorem rz_small {p : Pd} {l : List Ch} (hs : small p) : small (rzP p l).2 := by
  by_cases h : (rzP p l).1 = 0
  · obtain ⟨_, _, _, _, M, h1, h2⟩ := rzP_ok (p := p) (l := l) (q := (rzP p l).2) (by rw [← h])
    rw [h2]
    exact names_small hs (rzF_names h1)
  · rw [rzP_err h]
    exact ⟨by decide, by decide, fun c hc => by cases hc⟩
/-- A change, of the container that it names. -/
def stepC (d : Ct) (x : Ch) : Ct := if x.name = d.name then giveC d x else d
theorem stepC_name (d : Ct) (x : Ch) : (stepC d x).name = d.name := by unfold stepC; split <;> rfl
theorem names_get {L l0 : List Ct} (h : L.map Ct.name = l0.map Ct.name) {i : Nat} {d : Ct} (hd : L[i]? = some d) : ∃ e, l0[i]? = some e ∧ e.name = d.name := by
  have h1 : (L.map Ct.name)[i]? = some d.name := by rw [List.getElem?_map, hd]; rfl
  rw [h, List.getElem?_map] at h1
  cases he : l0[i]? with
  | none => rw [he] at h1; cases h1
  | some e => rw [he] at h1; injection h1 with h1; exact ⟨e, rfl, h1⟩
theorem rzF_all {l0 : List Ct} (hu : ∀ (i : Nat) (c : Ct), l0[i]? = some c → findI c.name l0 = (i : Int)) : ∀ {xs : List Ch} {done : List Ch} {L M : List Ct}, L.map Ct.name = l0.map Ct.name → rzF l0 done xs L = (0, M) →
    ∀ (i : Nat) (d : Ct), L[i]? = some d → M[i]? = some (xs.foldl stepC d) := by
  intro xs
  induction xs with
  | nil => intro done L M _ h i d hd; rw [rzF] at h; injection h with _ h; rw [← h]; exact hd
  | cons x xs ih =>
    intro done L M hN h i d hd
    rw [rzF] at h
    split at h
    · cases h
    rename_i hf
    split at h
    · cases h
    split at h
    · cases h
    obtain ⟨k, e, h1, h2, h3⟩ := findI_ge (Int.not_lt.1 hf)
    rw [h1, Int.toNat_natCast] at h
    obtain ⟨f, hf1, hf2⟩ := names_get hN hd
    have hui := hu i f hf1
    refine ih ((putc_names L k x).trans hN) h i (stepC d x) ?_
    by_cases hk : i = k
    · subst hk
      rw [hf1] at h2; injection h2 with h2; subst h2
      rw [putc_some hd, List.getElem?_set_self (List.getElem?_eq_some_iff.1 hd).1]
      unfold stepC
      rw [if_pos (by rw [← h3, hf2])]
    · have hne : ¬ x.name = d.name := fun hx => hk (by
        rw [hf2, ← hx, h1] at hui
        omega)
      unfold stepC
      rw [if_neg hne]
      have hkl : k < L.length := by rw [names_len hN]; exact (List.getElem?_eq_some_iff.1 h2).1
      rw [putc_some (List.getElem?_eq_getElem hkl), List.getElem?_set_ne (fun e => hk e.symm)]
      exact hd
theorem rzF_apart {l0 : List Ct} : ∀ {xs : List Ch} {done : List Ch} {L M : List Ct}, rzF l0 done xs L = (0, M) → (xs.map Ch.name).Nodup ∧ (∀ x ∈ xs, ∀ y ∈ done, y.name ≠ x.name) ∧ ∀ x ∈ xs, 0 ≤ findI x.name l0 := by
  intro xs
  induction xs with
  | nil => intro done L M _; exact ⟨List.nodup_nil, (fun x hx => by cases hx), (fun x hx => by cases hx)⟩
  | cons x xs ih =>
    intro done L M h
    rw [rzF] at h
    split at h
    · cases h
    rename_i hf
    split at h
    · cases h
    rename_i hd
    split at h
    · cases h
    obtain ⟨h1, h2, h3⟩ := ih h
    have hd' : ∀ y ∈ done, y.name ≠ x.name := fun y hy e => hd (List.any_eq_true.2 ⟨y, hy, decide_eq_true e⟩)
    refine ⟨?_, ?_, ?_⟩
    · rw [List.map_cons, List.nodup_cons]
      refine ⟨fun hm => ?_, h1⟩
      obtain ⟨y, hy, e⟩ := List.mem_map.1 hm
      exact h2 y hy x (by simp) e.symm
    · intro z hz y hy
      rcases List.mem_cons.1 hz with rfl | hz
      · exact hd' y hy
      · exact h2 z hz y (by simp [hy])
    · intro z hz
      rcases List.mem_cons.1 hz with rfl | hz
      · omega
      · exact h3 z hz
theorem givenB_self (v : Vc) : givenB v v = false := by unfold givenB; simp
/-- A resize that gives what is there already. -/
theorem rzF_fix {L : List Ct} : ∀ {xs : List Ch} {done : List Ch}, (xs.map Ch.name).Nodup → (∀ x ∈ xs, ∀ y ∈ done, y.name ≠ x.name) → (∀ x ∈ xs, ∃ (k : Nat) (c : Ct), findI x.name L = (k : Int) ∧ L[k]? = some c ∧ c.rq = x.rq ∧ c.lm = x.lm) → rzF L done xs L = (0, L) := by
  intro xs
  induction xs with
  | nil => intro done _ _ _; rfl
  | cons x xs ih =>
    intro done h1 h2 h3
    obtain ⟨k, c, g1, g2, g3, g4⟩ := h3 x (by simp)
    rw [List.map_cons, List.nodup_cons] at h1
    have hg : gv L x = false := by unfold gv; rw [g1, Int.toNat_natCast, g2]; rw [← g4]; exact givenB_self _
    have hp : putc L (findI x.name L).toNat x = L := by
      rw [g1, Int.toNat_natCast, putc_some g2]
      refine set_same ?_
      rw [g2]
      unfold giveC
      rw [← g3, ← g4]
    have ha : ¬ (done.any fun y => decide (y.name = x.name)) = true := fun h => by
      obtain ⟨y, hy, e⟩ := List.any_eq_true.1 h
      exact h2 x (by simp) y hy (of_decide_eq_true e)
    rw [rzF, if_neg (by omega), if_neg ha, hg, if_neg (by decide), hp]
    refine ih h1.2 (fun z hz y hy => ?_) (fun z hz => h3 z (by simp [hz]))
    rcases List.mem_append.1 hy with hy | hy
    · exact h2 z (by simp [hz]) y hy
    · rw [List.mem_singleton.1 hy]
      exact fun e => h1.1 (List.mem_map.2 ⟨z, hz, e.symm⟩)
theorem rzP_of {q : Pd} {l : List Ch} (hq : podP q) (hl : l ≠ []) (h : rzF q.l [] l q.l = (0, q.l)) : rzP q l = (0, q) := by
  unfold rzP
  rw [if_pos ⟨hq, hl⟩, h]
  unfold rzQ
  have hw : wl q q.l = q := rfl
  rw [if_neg (show ¬ (0 : Int) ≠ 0 by decide), hw, if_neg (fun h => h hq), if_neg (fun h => h rfl)]
theorem foldl_other {x : List Ch} : ∀ {d : Ct}, (∀ y ∈ x, y.name ≠ d.name) → x.foldl stepC d = d := by
  induction x with
  | nil => intro d _; rfl
  | cons y ys ih =>
    intro d h
    have e : stepC d y = d := by unfold stepC; rw [if_neg (h y (by simp))]
    rw [List.foldl_cons, e]
    exact ih fun z hz => h z (by simp [hz])
theorem foldl_name (xs : List Ch) : ∀ (d : Ct), (xs.foldl stepC d).name = d.name := by
  induction xs with
  | nil => intro d; rfl
  | cons y ys ih => intro d; rw [List.foldl_cons, ih, stepC_name]
theorem foldl_this : ∀ {xs : List Ch} {x : Ch} {d : Ct}, (xs.map Ch.name).Nodup → x ∈ xs → x.name = d.name → (xs.foldl stepC d).rq = x.rq ∧ (xs.foldl stepC d).lm = x.lm := by
  intro xs
  induction xs with
  | nil => intro x d _ h; cases h
  | cons y ys ih =>
    intro x d hn hx e
    rw [List.map_cons, List.nodup_cons] at hn
    rw [List.foldl_cons]
    rcases List.mem_cons.1 hx with rfl | hx
    · have e1 : stepC d x = giveC d x := by unfold stepC; rw [if_pos e]
      rw [e1, foldl_other]
      · exact ⟨rfl, rfl⟩
      · intro z hz hzn
        exact hn.1 (List.mem_map.2 ⟨z, hz, by rw [hzn, e]; rfl⟩)
    · exact ih hn.2 hx (by rw [stepC_name]; exact e)
/-- The same resize twice is as once. -/
theorem rzP_again {p q : Pd} {l : List Ch} (h : rzP p l = (0, q)) : rzP q l = (0, q) := by
  obtain ⟨hp, hl, hq, _, M, hM, rfl⟩ := rzP_ok h
  obtain ⟨hd, _, hge⟩ := rzF_apart hM
  have hN := rzF_names hM
  have hpu : ∀ (i : Nat) (c : Ct), p.l[i]? = some c → findI c.name p.l = (i : Int) := fun i c hc => (hp.2.2.2.2.1 i c hc).1
  refine rzP_of hq hl (rzF_fix hd (fun x _ y hy => by cases hy) fun x hx => ?_)
  obtain ⟨k, d, h1, h2, h3⟩ := findI_ge (hge x hx)
  have hm := rzF_all hpu rfl hM k d h2
  have hmn : (l.foldl stepC d).name = x.name := by rw [foldl_name, h3]
  obtain ⟨g1, g2⟩ := foldl_this (d := d) hd hx h3.symm
  refine ⟨k, _, ?_, hm, g1, g2⟩
  have := (hq.2.2.2.2.1 k _ hm).1
  rw [hmn] at this; exact this
theorem chq_self (c : Ct) : chq c c = fff := by unfold chq fff; simp
theorem sel_self {q : Pd} (hq : podP q) : sel q.l q.l = [] := by
  unfold sel
  rw [List.map_eq_nil_iff, List.filter_eq_nil_iff]
  intro c hc
  obtain ⟨i, hi⟩ := List.mem_iff_getElem?.1 hc
  have := chg_some (hq.2.2.2.2.1 i c hi).1 hi
  unfold rst
  rw [this, chq_self]; simp [fff]
def ownC (c : Ct) : Ch := ⟨c.name, c.rq, c.lm⟩
theorem own_again {p : Pd} (hp : podP p) : rzP p (p.l.map ownC) = (0, p) := by
  have hpu : ∀ (i : Nat) (c : Ct), p.l[i]? = some c → findI c.name p.l = (i : Int) := fun i c hc => (hp.2.2.2.2.1 i c hc).1
  have h1 : 1 ≤ p.l.length := hp.2.2.2.1.1
  refine rzP_of hp (fun e => ?_) (rzF_fix ?_ (fun x _ y hy => by cases hy) fun x hx => ?_)
  · have := congrArg List.length e
    simp at this
    rw [this] at h1; simp at h1
  · rw [List.map_map, List.nodup_iff_pairwise_ne, List.pairwise_iff_getElem]
    intro i j hi hj hij e
    simp only [List.length_map] at hi hj
    simp only [List.getElem_map, Function.comp, ownC] at e
    have a1 := hpu i _ (List.getElem?_eq_getElem hi)
    have a2 := hpu j _ (List.getElem?_eq_getElem hj)
    rw [e, a2] at a1
    omega
  · obtain ⟨c, hc, rfl⟩ := List.mem_map.1 hx
    obtain ⟨i, hi⟩ := List.mem_iff_getElem?.1 hc
    exact ⟨i, c, hpu i c hi, hi, rfl, rfl⟩
end Go.Proofs.Ytnnhkkocdgegfaa
