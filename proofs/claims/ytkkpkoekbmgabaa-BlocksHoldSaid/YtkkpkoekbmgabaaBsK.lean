/-
  Blocks: a map's keys gathered.
-/
import Derived.Test.YtkkpkoekbmgabaaBsJ
set_option linter.all false
set_option linter.unusedVariables false
set_option linter.unusedSimpArgs false
set_option linter.unusedSectionVars false
namespace Go.Proofs.Ytkkpkoekbmgabaa
open Go Go.VM
variable {H : Heap} {p m : Nat} {zs : List Zn} {L : List Rw}

/-- The loop that appends what it is given. -/
def gob (R0 : Regs) : HObj := .loop ⟨.ready, R0, [7], c51.at [1, 0, 1, 0, 0], c51.at [1, 0, 1, 0, 1]⟩
theorem canon_one (c : List PV) : canon [c] = [c] := List.perm_singleton.1 (canon_perm [c])
theorem canon_app (l : List (List PV)) (c : List PV) : canon (canon l ++ [c]) = canon (l ++ [c]) := canon_eq ((canon_perm l).append_right _)
theorem yield_new {h : Heap} {lid q2 : Nat} {R0 : Regs} (hR : R0 2 = .ptr q2 0) (hl : hget h lid = gob R0) (hq : hget h q2 = .pcells [.sl .nil 0 []]) (o : Ow) :
    Has (EE env (.yield lid) [.pv (.agg (oc o))] h) fun y => y.1 = .pv (.bool true) ∧ Kp [q2] h y.2 ∧ hget y.2 q2 = .cells [.gs (h.length + 1) 1] ∧ hget y.2 (h.length + 1) = .bag 3 (canon [oc o]) := by
  obtain ⟨r0, hr0⟩ : ∃ r0, R0 = setL r0 [(2, .ptr q2 0)] := by
    refine ⟨R0, ?_⟩
    have : Agr R0 [(2, .ptr q2 0)] := ⟨hR, trivial⟩
    exact this.eq.symm
  have hll := hget_lt hl (by intro h; cases h)
  have hql := hget_lt hq (by intro h; cases h)
  have hne : lid ≠ q2 := fun e => by rw [e, hq] at hl; cases hl
  refine EE_has ?_
  refine hgetK_has _ hl ?_
  subst hr0
  obtain ⟨J1, hJ1⟩ : ∃ J1, J1 = hset (h ++ [HObj.pcells (oc ⟨[], [], 0⟩)]) h.length (.pcells (oc o)) := ⟨_, rfl⟩
  have k1 : Kp [] h J1 := by rw [hJ1]; exact ((Kp.refl _ _).app _).set _ _ (.inr (Nat.le_refl _))
  have n1 : J1.length = h.length + 1 := by rw [hJ1, hset_len]; simp
  have l1 : hget J1 lid = gob (setL r0 [(2, .ptr q2 0)]) := k1.get hl (by intro h; cases h) (by simp)
  have q1 : hget J1 q2 = .pcells [.sl .nil 0 []] := k1.get hq (by intro h; cases h) (by simp)
  have b1 : hget J1 h.length = .pcells (oc o) := by rw [hJ1]; exact hget_hset_same _ (by simp)
  refine hgetK_last ?_
  refine needK_has rfl ?_
  refine eqK_has ?_
  rw [hJ1] at l1 q1 b1 n1 k1
  refine hgetK_has _ l1 ?_
  refine hgetK_has _ ((hget_hset_ne _ _ (Ne.symm hne)).trans q1) ?_
  refine getK_has rfl ?_
  refine hgetK_has _ ((hget_hset_ne _ _ (by omega)).trans b1) ?_
  refine secK_has (v := oc o) rfl (Nat.le_refl _) ?_
  refine needK_has rfl ?_
  have q3 : ∀ x y, hget (hset (hset (h ++ [HObj.pcells (oc ⟨[], [], 0⟩)]) h.length (.pcells (oc o))) lid x ++ [y]) q2 = .pcells [.sl .nil 0 []] := fun x y => (hget_app _ (by rw [hset_len, n1]; omega)).trans ((hget_hset_ne _ _ (Ne.symm hne)).trans q1)
  refine hgetK_has _ (q3 _ _) ?_
  have l3 : ∀ x y z, hget (hset (hset (hset (h ++ [HObj.pcells (oc ⟨[], [], 0⟩)]) h.length (.pcells (oc o))) lid x ++ [y]) q2 z) lid = x := fun x y z => (hget_hset_ne _ _ hne).trans ((hget_app _ (by rw [hset_len, n1]; omega)).trans (hget_hset_same _ (by rw [n1]; omega)))
  refine hgetK_has _ (l3 _ _ _) ?_
  obtain ⟨J, hJ⟩ : ∃ J, J = hset (h ++ [HObj.pcells (oc ⟨[], [], 0⟩)]) h.length (.pcells (oc o)) := ⟨_, rfl⟩
  rw [canon_one]
  have fin : ∀ x z, Kp [q2] h (hset (hset (hset J lid x ++ [.bag 3 [oc o]]) q2 z) lid (gob (setL r0 [(2, .ptr q2 0)]))) ∧ hget (hset (hset (hset J lid x ++ [.bag 3 [oc o]]) q2 z) lid (gob (setL r0 [(2, .ptr q2 0)]))) q2 = z ∧ hget (hset (hset (hset J lid x ++ [.bag 3 [oc o]]) q2 z) lid (gob (setL r0 [(2, .ptr q2 0)]))) (h.length + 1) = .bag 3 [oc o] := fun x z => by
    rw [← hJ] at k1 n1 l1
    refine ⟨⟨?_, fun i hi hn => ?_⟩, ?_, ?_⟩
    · rw [hset_len, hset_len, List.length_append, hset_len, n1]; simp; omega
    · have hiq : i ≠ q2 := by simpa using hn
      by_cases hil : i = lid
      · subst hil
        rw [hget_hset_same _ (by rw [hset_len, List.length_append, hset_len, n1]; omega)]
        exact hl.symm
      · rw [hget_hset_ne _ _ hil, hget_hset_ne _ _ hiq, hget_app _ (by rw [hset_len, n1]; omega), hget_hset_ne _ _ hil]
        exact k1.2 i hi (by simp)
    · rw [hget_hset_ne _ _ (Ne.symm hne), hget_hset_same _ (by rw [List.length_append, hset_len, n1]; omega)]
    · rw [hget_hset_ne _ _ (by omega), hget_hset_ne _ _ (by omega)]
      have : h.length + 1 = (hset J lid x).length := by rw [hset_len, n1]
      rw [this, hget_append_same]
  refine Has.intro ⟨rfl, ?_⟩
  rw [hJ] at fin
  have e1 : (hset (hset (h ++ [HObj.pcells (oc ⟨[], [], 0⟩)]) h.length (.pcells (oc o))) lid (.loop ⟨.busy, setL r0 [(2, .ptr q2 0)], [7], c51.at [1, 0, 1, 0, 0], c51.at [1, 0, 1, 0, 1]⟩)).length = h.length + 1 := by rw [hset_len, n1]
  have := fin (.loop ⟨.busy, setL r0 [(2, .ptr q2 0)], [7], c51.at [1, 0, 1, 0, 0], c51.at [1, 0, 1, 0, 1]⟩) (.cells [.gs (h.length + 1) 1])
  rw [← e1] at this ⊢
  exact this
theorem yield_more {h : Heap} {lid q2 bid n : Nat} {R0 : Regs} {l : List (List PV)} (hR : R0 2 = .ptr q2 0) (hl : hget h lid = gob R0) (hq : hget h q2 = .cells [.gs bid n]) (hb : hget h bid = .bag 3 (canon l)) (hn : l.length = n) (hn2 : n ≤ 1000000) (o : Ow) :
    Has (EE env (.yield lid) [.pv (.agg (oc o))] h) fun y => y.1 = .pv (.bool true) ∧ Kp [q2, bid] h y.2 ∧ hget y.2 q2 = .cells [.gs bid (n + 1)] ∧ hget y.2 bid = .bag 3 (canon (l ++ [oc o])) := by
  obtain ⟨r0, hr0⟩ : ∃ r0, R0 = setL r0 [(2, .ptr q2 0)] := by
    refine ⟨R0, ?_⟩
    have : Agr R0 [(2, .ptr q2 0)] := ⟨hR, trivial⟩
    exact this.eq.symm
  have hll := hget_lt hl (by intro h; cases h)
  have hql := hget_lt hq (by intro h; cases h)
  have hbl := hget_lt hb (by intro h; cases h)
  have hne : lid ≠ q2 := fun e => by rw [e, hq] at hl; cases hl
  have hne2 : lid ≠ bid := fun e => by rw [e, hb] at hl; cases hl
  have hne3 : q2 ≠ bid := fun e => by rw [e, hb] at hq; cases hq
  refine EE_has ?_
  refine hgetK_has _ hl ?_
  subst hr0
  obtain ⟨J1, hJ1⟩ : ∃ J1, J1 = hset (h ++ [HObj.pcells (oc ⟨[], [], 0⟩)]) h.length (.pcells (oc o)) := ⟨_, rfl⟩
  have k1 : Kp [] h J1 := by rw [hJ1]; exact ((Kp.refl _ _).app _).set _ _ (.inr (Nat.le_refl _))
  have n1 : J1.length = h.length + 1 := by rw [hJ1, hset_len]; simp
  have l1 : hget J1 lid = gob (setL r0 [(2, .ptr q2 0)]) := k1.get hl (by intro h; cases h) (by simp)
  have q1 : hget J1 q2 = .cells [.gs bid n] := k1.get hq (by intro h; cases h) (by simp)
  have c1 : hget J1 bid = .bag 3 (canon l) := k1.get hb (by intro h; cases h) (by simp)
  have b1 : hget J1 h.length = .pcells (oc o) := by rw [hJ1]; exact hget_hset_same _ (by simp)
  refine hgetK_last ?_
  refine needK_has rfl ?_
  refine eqK_has ?_
  rw [hJ1] at l1 q1 b1 n1 k1 c1
  refine hgetK_has _ l1 ?_
  refine hgetK_has _ ((hget_hset_ne _ _ (Ne.symm hne)).trans q1) ?_
  refine hgetK_has _ ((hget_hset_ne _ _ (by omega)).trans b1) ?_
  refine secK_has (v := oc o) rfl (Nat.le_refl _) ?_
  refine hgetK_has _ ((hget_hset_ne _ _ (Ne.symm hne2)).trans c1) ?_
  have hcl : (canon l).length = n := (canon_perm l).length_eq.trans hn
  refine needK_has (by rw [hcl]; simp only [Bool.and_eq_true]; exact ⟨⟨rfl, Nat.beq_refl _⟩, Nat.ble_eq_true_of_le (by show (n + 1) * 40 ≤ 140737488355328; omega)⟩) ?_
  refine eqK_has_eq (n + 1) rfl ?_
  refine eqK_has_eq (canon (l ++ [oc o])) (canon_app l _) ?_
  have q3 : ∀ x y, hget (hset (hset (hset (h ++ [HObj.pcells (oc ⟨[], [], 0⟩)]) h.length (.pcells (oc o))) lid x) bid y) q2 = .cells [.gs bid n] := fun x y => (hget_hset_ne _ _ hne3).trans ((hget_hset_ne _ _ (Ne.symm hne)).trans q1)
  refine hgetK_has _ (q3 _ _) ?_
  have l3 : ∀ x y z, hget (hset (hset (hset (hset (h ++ [HObj.pcells (oc ⟨[], [], 0⟩)]) h.length (.pcells (oc o))) lid x) bid y) q2 z) lid = x := fun x y z => (hget_hset_ne _ _ hne).trans ((hget_hset_ne _ _ hne2).trans (hget_hset_same _ (by rw [n1]; omega)))
  refine hgetK_has _ (l3 _ _ _) ?_
  obtain ⟨J, hJ⟩ : ∃ J, J = hset (h ++ [HObj.pcells (oc ⟨[], [], 0⟩)]) h.length (.pcells (oc o)) := ⟨_, rfl⟩
  have fin : ∀ x y z, Kp [q2, bid] h (hset (hset (hset (hset J lid x) bid y) q2 z) lid (gob (setL r0 [(2, .ptr q2 0)]))) ∧ hget (hset (hset (hset (hset J lid x) bid y) q2 z) lid (gob (setL r0 [(2, .ptr q2 0)]))) q2 = z ∧ hget (hset (hset (hset (hset J lid x) bid y) q2 z) lid (gob (setL r0 [(2, .ptr q2 0)]))) bid = y := fun x y z => by
    rw [← hJ] at k1 n1 l1
    refine ⟨⟨?_, fun i hi hn => ?_⟩, ?_, ?_⟩
    · rw [hset_len, hset_len, hset_len, hset_len, n1]; omega
    · have hiq : i ≠ q2 ∧ i ≠ bid := by simpa using hn
      by_cases hil : i = lid
      · subst hil
        rw [hget_hset_same _ (by rw [hset_len, hset_len, hset_len, n1]; omega)]
        exact hl.symm
      · rw [hget_hset_ne _ _ hil, hget_hset_ne _ _ hiq.1, hget_hset_ne _ _ hiq.2, hget_hset_ne _ _ hil]
        exact k1.2 i hi (by simp)
    · rw [hget_hset_ne _ _ (Ne.symm hne), hget_hset_same _ (by rw [hset_len, hset_len, n1]; omega)]
    · rw [hget_hset_ne _ _ (Ne.symm hne2), hget_hset_ne _ _ (Ne.symm hne3), hget_hset_same _ (by rw [hset_len, n1]; omega)]
  refine Has.intro ⟨rfl, ?_⟩
  rw [hJ] at fin
  exact fin (.loop ⟨.busy, setL r0 [(2, .ptr q2 0)], [7], c51.at [1, 0, 1, 0, 0], c51.at [1, 0, 1, 0, 1]⟩) (.bag 3 (canon (l ++ [oc o]))) (.cells [.gs bid (n + 1)])
end Go.Proofs.Ytkkpkoekbmgabaa
