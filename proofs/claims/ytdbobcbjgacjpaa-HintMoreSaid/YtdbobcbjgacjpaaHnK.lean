/-
  What must be answered ahead of everything else; what is given.
-/
import Derived.Test.YtdbobcbjgacjpaaHnJ
set_option linter.all false
set_option linter.unusedVariables false
set_option linter.unusedSimpArgs false
set_option linter.unusedSectionVars false
namespace Go.Proofs.Ytdbobcbjgacjpaa
open Go Go.VM

def fnOf (l : List Int) : Nat → Int := fun j => (l[j]?).getD 0
def F0 : Nat → Int := fnOf [4, 2, 9, 0, 0, 0, 0, 0, 1, 1]
theorem first_ok : EP (EE env) 6 [] = some (.bool true) := by
  have h1 : EP (EE env) 7 [.agg (tab 16 (iv F0)), .int .i64 3, .agg (tab 2 (iv (fnOf [6, 0])))] = some (.tup [.int .i64 4, .bool true]) := (hint_ok _ _ _).trans (congrArg (fun z => some (wvP z)) (show wv _ _ _ _ = some 4 by decide +kernel))
  have h2 : EP (EE env) 7 [.agg (tab 16 (iv F0)), .int .i64 3, .agg (tab 2 (iv (fnOf [6, 2])))] = some (.tup [.int .i64 3, .bool true]) := (hint_ok _ _ _).trans (congrArg (fun z => some (wvP z)) (show wv _ _ _ _ = some 3 by decide +kernel))
  have h3 : EP (EE env) 8 [.agg (tab 16 (iv F0)), .int .i64 3, .int .i64 1, .agg (tab 2 (iv (fnOf [6, 0])))] = some (.tup [.int .i64 3, .bool true]) := (with_ok _ _ _ _).trans (congrArg (fun z => some (wvP z)) (show wv _ _ _ _ = some 3 by decide +kernel))
  have h4 : EP (EE env) 9 [.agg (tab 8 (iv (fnOf [4, 2, 9]))), .int .i64 5, .int .i64 6] = some (.tup [.agg (tab 8 (iv (fnOf [4, 0, 2]))), .bool true]) := by
    refine (over_ok _ _ _).trans ?_
    unfold ovP
    rw [if_pos (by decide +kernel)]
    have : tab 8 (iv (ovn (fnOf [4, 2, 9]) (m8 5) 6 8).2) = tab 8 (iv (fnOf [4, 0, 2])) := tab_congr fun j hj => by
      have : ∀ j, j < 8 → (ovn (fnOf [4, 2, 9]) (m8 5) 6 8).2 j = fnOf [4, 0, 2] j := by decide +kernel
      show PV.int .i64 _ = .int .i64 _
      rw [this j hj]
    rw [this]
  have h5 : EP (EE env) 7 [.agg (tab 16 (iv F0)), .int .i64 3, .agg (tab 2 (iv (fnOf [16, 0])))] = some (.tup [.int .i64 0, .bool false]) := (hint_ok _ _ _).trans (congrArg (fun z => some (wvP z)) (show wv _ _ _ _ = none by decide +kernel))
  have h6 : EP (EE env) 10 [.agg (tab 16 (iv F0)), .int .i64 3, .agg (tab 2 (iv (fnOf [6, 0]))), .int .i64 99] = some (.sl .unk 5 (ints [4, 3, 5, 6, 7])) := (hints_ok _ _ _ 99).trans (congrArg (fun z => some (slv (nl z))) (show hs _ _ _ _ = [4, 3, 5, 6, 7] by decide +kernel))
  have h7 : EP (EE env) 15 [.agg (tab 16 (iv F0)), .int .i64 7, .agg (tab 2 (iv (fnOf [15, 2])))] = some (.bool true) := (Enough_ok _ _ _).trans (by rw [decide_eq_true (by decide +kernel)])
  refine Has.eq (EP_has ?_)
  refine hgetK_has _ rfl ?_
  refine needK_has rfl ?_
  refine eqK_has_eq (tab 16 (iv F0)) rfl ?_
  refine hgetK_has _ rfl ?_
  refine secK_has (v := tab 16 (iv F0)) (tab_sec _).1 (tab_sec _).2 ?_
  refine callPK_has h1 ?_
  refine hgetK_has _ rfl ?_
  refine secK_has (v := tab 16 (iv F0)) (tab_sec _).1 (tab_sec _).2 ?_
  refine callPK_has h2 ?_
  refine hgetK_has _ rfl ?_
  refine secK_has (v := tab 16 (iv F0)) (tab_sec _).1 (tab_sec _).2 ?_
  refine callPK_has h3 ?_
  refine needK_has rfl ?_
  refine hgetK_has _ rfl ?_
  refine secK_has (v := tab 8 (iv (fnOf [4, 2, 9]))) rfl (by decide) ?_
  refine callPK_has h4 ?_
  refine hgetK_has _ rfl ?_
  refine needK_has rfl ?_
  refine eqK_has_eq (tab 8 (iv (fnOf [4, 0, 2]))) rfl ?_
  refine hgetK_has _ rfl ?_
  refine secK_has (v := tab 16 (iv F0)) (tab_sec _).1 (tab_sec _).2 ?_
  refine callPK_has h5 ?_
  refine boolK_has_true rfl ?_
  refine boolK_has_true rfl ?_
  refine boolK_has_true rfl ?_
  refine hgetK_has _ rfl ?_
  refine secK_has (v := tab 8 (iv (fnOf [4, 0, 2]))) (tab_sec _).1 (tab_sec _).2 ?_
  refine bindK_has (v := true) rfl ?_
  refine boolK_has_true rfl ?_
  refine hgetK_has _ rfl ?_
  refine secK_has (v := tab 16 (iv F0)) (tab_sec _).1 (tab_sec _).2 ?_
  refine callPK_has h6 ?_
  refine boolK_has_true rfl ?_
  refine hgetK_has _ rfl ?_
  refine secK_has (v := tab 16 (iv F0)) (tab_sec _).1 (tab_sec _).2 ?_
  refine callPK_has h7 ?_
  exact Has.intro (Has.intro rfl)

/-! ### what is given -/
abbrev TC : Ty := .st [(16, .arr 2 8 (.arr 8 1 (.int .i64))), (1, .int .i64), (1, .int .i64), (1, .int .i64), (2, .arr 2 1 (.int .i64)), (1, .int .i64)]
theorem els_i64 : ∀ (n : Nat) (cs : List PV), Els (HasTy (.int .i64)) 1 n cs → ∃ l : List Int, l.length = n ∧ cs = ints l ∧ ∀ x ∈ l, -9223372036854775808 ≤ x ∧ x ≤ 9223372036854775807 := by
  intro n
  induction n with
  | zero => intro cs h; exact ⟨[], rfl, h, fun x h => by cases h⟩
  | succ n ih =>
    intro cs ⟨a, b, h1, h2, h3, h4⟩
    obtain ⟨l, g1, g2, g3⟩ := ih b h4
    obtain ⟨q, rfl⟩ := list1 h2
    obtain ⟨x, e, hx⟩ := arg_i64 h3
    refine ⟨x :: l, by simp [g1], by rw [h1, g2, e]; rfl, fun y hy => ?_⟩
    rcases List.mem_cons.1 hy with rfl | hy
    · exact hx
    · exact g3 y hy
theorem ints_tab {l : List Int} {n : Nat} (h : l.length = n) : ints l = tab n (iv (fnOf l)) := by
  apply List.ext_getElem?
  intro j
  rcases Nat.lt_or_ge j n with hj | hj
  · rw [tab_get _ hj]
    have hj' : j < l.length := by omega
    unfold ints iv fnOf
    rw [List.getElem?_map, List.getElem?_eq_getElem hj']; rfl
  · rw [List.getElem?_eq_none (by unfold ints; rw [List.length_map]; omega), List.getElem?_eq_none (by rw [tab_len]; omega)]
theorem els_rows : ∀ (n : Nat) (cs : List PV), Els (HasTy (.arr 8 1 (.int .i64))) 8 n cs → ∃ l : List Int, l.length = 8 * n ∧ cs = ints l ∧ ∀ x ∈ l, -9223372036854775808 ≤ x ∧ x ≤ 9223372036854775807 := by
  intro n
  induction n with
  | zero => intro cs h; exact ⟨[], rfl, h, fun x h => by cases h⟩
  | succ n ih =>
    intro cs ⟨a, b, h1, h2, h3, h4⟩
    obtain ⟨l, g1, g2, g3⟩ := ih b h4
    obtain ⟨l', e1, e2, e3⟩ := els_i64 8 a h3
    refine ⟨l' ++ l, by rw [List.length_append]; omega, by rw [h1, g2, e2]; simp [ints], fun y hy => ?_⟩
    rcases List.mem_append.1 hy with hy | hy
    · exact e3 y hy
    · exact g3 y hy
def caseC (F N : Nat → Int) (nodes held mask most : Int) : List PV := tab 16 (iv F) ++ ([.int .i64 nodes, .int .i64 held, .int .i64 mask] ++ (tab 2 (iv N) ++ [.int .i64 most]))
theorem fnOf_bd {l : List Int} (h : ∀ x ∈ l, -9223372036854775808 ≤ x ∧ x ≤ 9223372036854775807) (j : Nat) : -9223372036854775808 ≤ fnOf l j ∧ fnOf l j ≤ 9223372036854775807 := by
  unfold fnOf
  cases hj : l[j]? with
  | none => simp
  | some x => exact h x (List.mem_of_getElem? hj)
theorem arg_case {ps : List PV} (h : HasArgs [TC] ps) : ∃ F N nodes held mask most, ps = [.agg (caseC F N nodes held mask most)] ∧ ∀ j, -9223372036854775808 ≤ F j ∧ F j ≤ 9223372036854775807 := by
  obtain ⟨p, _, rfl, ⟨cs, rfl, h⟩, rfl⟩ := h
  obtain ⟨a1, b1, rfl, l1, h1, a2, b2, rfl, l2, h2, a3, b3, rfl, l3, h3, a4, b4, rfl, l4, h4, a5, b5, rfl, l5, h5, a6, b6, rfl, l6, h6, rfl⟩ := h
  obtain ⟨f, e1, rfl, e3⟩ := els_rows 2 a1 h1
  obtain ⟨q2, rfl⟩ := list1 l2
  obtain ⟨q3, rfl⟩ := list1 l3
  obtain ⟨q4, rfl⟩ := list1 l4
  obtain ⟨n, e4, rfl, _⟩ := els_i64 2 a5 h5
  obtain ⟨q6, rfl⟩ := list1 l6
  obtain ⟨nodes, rfl, _⟩ := arg_i64 h2
  obtain ⟨held, rfl, _⟩ := arg_i64 h3
  obtain ⟨mask, rfl, _⟩ := arg_i64 h4
  obtain ⟨most, rfl, _⟩ := arg_i64 h6
  rw [ints_tab e1, ints_tab e4]
  exact ⟨fnOf f, fnOf n, nodes, held, mask, most, rfl, fnOf_bd e3⟩

theorem aggEq_ints : ∀ (xs ys : List Int), xs.length = ys.length → aggEq (List.replicate xs.length .i) (ints xs) (ints ys) = some (decide (xs = ys)) := by
  intro xs
  induction xs with
  | nil => intro ys h; cases ys with
    | nil => rfl
    | cons _ _ => cases h
  | cons x xs ih => intro ys h; cases ys with
    | nil => cases h
    | cons y ys =>
      show (match scalarEq .i (.int .i64 x) (.int .i64 y), aggEq (List.replicate xs.length .i) (ints xs) (ints ys) with | some x, some y => some (x && y) | _, _ => none) = _
      have h1 : scalarEq .i (.int .i64 x) (.int .i64 y) = some (x == y) := rfl
      rw [h1, ih ys (by simpa using h)]
      simp only
      congr 1
      rw [Bool.eq_iff_iff]
      simp
def eq8 (F G : Nat → Int) : Prop := (List.range 8).map F = (List.range 8).map G
instance (F G : Nat → Int) : Decidable (eq8 F G) := by unfold eq8; infer_instance
theorem eq8_iff (F G : Nat → Int) : eq8 F G ↔ ∀ j, j < 8 → F j = G j := by
  unfold eq8
  constructor
  · intro he j hj
    have := congrArg (fun l => l[j]?) he
    simpa [hj] using this
  · intro he
    exact List.map_congr_left fun j hj => he j (List.mem_range.1 hj)
theorem aggEq8 (F G : Nat → Int) : aggEq [.i, .i, .i, .i, .i, .i, .i, .i] (tab 8 (iv F)) (tab 8 (iv G)) = some (decide (eq8 F G)) := by
  have h := aggEq_ints ((List.range 8).map F) ((List.range 8).map G) (by simp)
  have e : ∀ F : Nat → Int, ints ((List.range 8).map F) = tab 8 (iv F) := fun F => by unfold ints tab; rw [List.map_map]; rfl
  rw [e, e] at h
  exact h
end Go.Proofs.Ytdbobcbjgacjpaa
