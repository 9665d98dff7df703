/-
  With, and Hint.
-/
import Derived.Test.YtdbobcbjgacjpaaHnD
set_option linter.all false
set_option linter.unusedVariables false
set_option linter.unusedSimpArgs false
set_option linter.unusedSectionVars false
namespace Go.Proofs.Ytdbobcbjgacjpaa
open Go Go.VM

def wv (F N : Nat → Int) (n held : Int) : Option Nat := if fit F N n ∧ 0 ≤ held ∧ held < 2 ^ n.toNat then (0 :: msq n.toNat).find? (hit F N held) else none
def HintsH (F N : Nat → Int) (n : Int) : Heap := [.pcells (tab 16 (iv F)), .pcells [.int .i64 n], .pcells (tab 2 (iv N)), .pcells [.bool (decide (fit F N n))]]
theorem hints_fn (F N : Nat → Int) (n : Int) (a b c d e : HObj) (H : Heap) (hH : H = [a, b, c, d] ∨ H = [a, b, c, d, e]) :
    EE env (.fn 18) [.pv (.agg (tab 16 (iv F))), .pv (.int .i64 n), .pv (.agg (tab 2 (iv N)))] H = some (.fn 24 [] [.ptr (H.length + 3) 0, .ptr H.length 0, .ptr (H.length + 2) 0, .ptr (H.length + 1) 0], H ++ HintsH F N n) := by
  rcases hH with rfl | rfl
  all_goals
    refine Has.eq (EE_has ?_)
    refine hgetK_has _ rfl ?_
    refine secK_has (v := tab 16 (iv F)) (tab_sec _).1 (tab_sec _).2 ?_
    refine hgetK_has _ rfl ?_
    refine secK_has (v := tab 2 (iv N)) (tab_sec _).1 (tab_sec _).2 ?_
    have fin : ∀ b : Bool, b = decide (fit F N n) → b = decide (fit F N n) := fun _ h => h
    refine callPK_dec (right_ok F N) (fun h => ?_) (fun h => ?_)
    · refine hgetK_has _ rfl ?_
      refine getK_has rfl ?_
      refine boolK_dec (fun h1 => ?_) (fun h1 => ?_)
      · refine hgetK_has _ rfl ?_
        refine getK_has rfl ?_
        refine boolK_dec (fun h2 => ?_) (fun h2 => ?_)
        · refine hgetK_has _ rfl ?_
          refine needK_has rfl ?_
          refine eqK_has_eq [.bool (decide (fit F N n))] (by rw [decide_eq_true (show fit F N n from ⟨h, h1, h2⟩)]; rfl) ?_
          exact Has.intro rfl
        · refine hgetK_has _ rfl ?_
          refine needK_has rfl ?_
          refine eqK_has_eq [.bool (decide (fit F N n))] (by rw [decide_eq_false (show ¬ fit F N n from fun hh => h2 hh.2.2)]; rfl) ?_
          exact Has.intro rfl
      · refine hgetK_has _ rfl ?_
        refine needK_has rfl ?_
        refine eqK_has_eq [.bool (decide (fit F N n))] (by rw [decide_eq_false (show ¬ fit F N n from fun hh => h1 hh.2.1)]; rfl) ?_
        exact Has.intro rfl
    · refine hgetK_has _ rfl ?_
      refine needK_has rfl ?_
      refine eqK_has_eq [.bool (decide (fit F N n))] (by rw [decide_eq_false (show ¬ fit F N n from fun hh => h hh.1)]; rfl) ?_
      exact Has.intro rfl

def wvP (o : Option Nat) : PV := .tup [.int .i64 ((o.getD 0 : Nat) : Int), .bool o.isSome]
theorem with_ok (F N : Nat → Int) (n held : Int) : EP (EE env) 8 [.agg (tab 16 (iv F)), .int .i64 n, .int .i64 held, .agg (tab 2 (iv N))] = some (wvP (wv F N n held)) := by
  refine Has.eq (EP_has ?_)
  have out : ¬ (fit F N n ∧ 0 ≤ held ∧ held < 2 ^ n.toNat) → PV.tup [.int .i64 0, .bool false] = wvP (wv F N n held) := fun h => by unfold wv; rw [if_neg h]; rfl
  have none_ : ∀ Q : Prop, (Q → PV.tup [.int .i64 0, .bool false] = wvP (wv F N n held)) → Q → PV.tup [.int .i64 0, .bool false] = wvP (wv F N n held) := fun _ h q => h q
  refine boolK_dec (fun h1 => ?_) (fun h1 => ?_)
  · have ho := out (fun hh => by have := hh.1.2.1; omega)
    iterate 2
      refine hgetK_has _ rfl ?_
      refine needK_has rfl ?_
      refine eqK_has ?_
    iterate 2
      refine hgetK_has _ rfl ?_
      refine getK_has rfl ?_
    exact Has.intro (Has.intro ho)
  refine boolK_dec (fun h2 => ?_) (fun h2 => ?_)
  · have ho := out (fun hh => by have := hh.1.2.2; omega)
    iterate 2
      refine hgetK_has _ rfl ?_
      refine needK_has rfl ?_
      refine eqK_has ?_
    iterate 2
      refine hgetK_has _ rfl ?_
      refine getK_has rfl ?_
    exact Has.intro (Has.intro ho)
  obtain ⟨k, rfl⟩ : ∃ k : Nat, n = k := ⟨n.toNat, by omega⟩
  have hk : k ≤ 8 := by omega
  have hkn : (k : Int).toNat = k := by omega
  refine hgetK_has _ rfl ?_
  refine getK_has rfl ?_
  refine boolK_dec (fun h3 => ?_) (fun h3 => ?_)
  · have ho := out (fun hh => by have := hh.2.1; omega)
    iterate 2
      refine hgetK_has _ rfl ?_
      refine needK_has rfl ?_
      refine eqK_has ?_
    iterate 2
      refine hgetK_has _ rfl ?_
      refine getK_has rfl ?_
    exact Has.intro (Has.intro ho)
  refine hgetK_has _ rfl ?_
  refine getK_has rfl ?_
  refine needK_has (by simp) ?_
  refine eqK_has_eq _ (shl1_64 hk) ?_
  refine boolK_dec (fun h4 => ?_) (fun h4 => ?_)
  · have ho := out (fun hh => by
      have := hh.2.2
      rw [hkn] at this
      have e : ((2 ^ k : Nat) : Int) = (2 : Int) ^ k := by simp
      omega)
    iterate 2
      refine hgetK_has _ rfl ?_
      refine needK_has rfl ?_
      refine eqK_has ?_
    iterate 2
      refine hgetK_has _ rfl ?_
      refine getK_has rfl ?_
    exact Has.intro (Has.intro ho)
  refine hgetK_has _ rfl ?_
  refine secK_has (v := tab 16 (iv F)) (tab_sec _).1 (tab_sec _).2 ?_
  refine hgetK_has _ rfl ?_
  refine secK_has (v := tab 2 (iv N)) (tab_sec _).1 (tab_sec _).2 ?_
  refine callSK_has (hints_fn F N k _ _ _ _ _ _ (.inr rfl)) ?_
  by_cases hfit : fit F N (k : Int)
  · have hw : ∀ R0 : Regs, Agr R0 [(6, .ptr 1 0), (8, .ptr 3 0), (9, .ptr 4 0)] →
        Has (EE env (.fn 24) [.yield 9, .ptr 8 0, .ptr 5 0, .ptr 7 0, .ptr 6 0] ([.pcells (tab 16 (iv F)), .pcells [.int .i64 held], .pcells (tab 2 (iv N)), .pcells [.int .i64 0], .pcells [.bool false]] ++ HintsH F N k ++ [wLo R0 .ready]))
          (fun y => ∃ r, (((0 :: msq k).find? (hit F N held) = none ∧ ∃ rest, y.2 = WH F N held k 0 false (wLo (wR r) .ready) rest) ∨
        (∃ x rest, (0 :: msq k).find? (hit F N held) = some x ∧ y.2 = WH F N held k x true (wLo (wR r) (.done .ret)) rest))) := by
      intro R0 hA
      obtain ⟨r, hr⟩ : ∃ r, R0 = wR r := ⟨R0, hA.eq.symm⟩
      clear hA
      subst hr
      unfold HintsH
      rw [decide_eq_true hfit]
      exact (w_iter F N held k hk hfit r).mono fun y hy => ⟨r, hy⟩
    have hwv : wv F N k held = (0 :: msq k).find? (hit F N held) := by
      unfold wv
      rw [hkn, if_pos ⟨hfit, by omega, by
        have e : ((2 ^ k : Nat) : Int) = (2 : Int) ^ k := by simp
        omega⟩]
    refine callSK_has' ((hw _ ⟨rfl, rfl, rfl, trivial⟩).mono fun y hy => ?_)
    obtain ⟨v, J⟩ := y
    dsimp only at hy ⊢
    obtain ⟨r', hy⟩ := hy
    rcases hy with ⟨h1, rest, h2⟩ | ⟨x, rest, h1, h2⟩
    · subst h2
      refine hgetK_has _ rfl ?_
      iterate 2
        refine hgetK_has _ rfl ?_
        refine needK_has rfl ?_
        refine eqK_has ?_
      iterate 2
        refine hgetK_has _ rfl ?_
        refine getK_has rfl ?_
      refine Has.intro (Has.intro ?_)
      rw [hwv, h1]; rfl
    · subst h2
      refine hgetK_has _ rfl ?_
      iterate 2
        refine hgetK_has _ rfl ?_
        refine getK_has rfl ?_
      refine Has.intro (Has.intro ?_)
      rw [hwv, h1]; rfl
  · have hw : ∀ R0 : Regs,
        Has (EE env (.fn 24) [.yield 9, .ptr 8 0, .ptr 5 0, .ptr 7 0, .ptr 6 0] ([.pcells (tab 16 (iv F)), .pcells [.int .i64 held], .pcells (tab 2 (iv N)), .pcells [.int .i64 0], .pcells [.bool false]] ++ HintsH F N k ++ [wLo R0 .ready]))
          (fun y => y.2 = [.pcells (tab 16 (iv F)), .pcells [.int .i64 held], .pcells (tab 2 (iv N)), .pcells [.int .i64 0], .pcells [.bool false]] ++ HintsH F N k ++ [wLo R0 .ready, .cells [.yield 9]]) := by
      intro R0
      refine EE_has ?_
      refine hgetK_has _ rfl ?_
      refine getK_has (v := .bool false) (show some (PV.bool (decide (fit F N k))) = _ by rw [decide_eq_false hfit]) ?_
      exact Has.intro rfl
    refine callSK_has' ((hw _).mono fun y hy => ?_)
    obtain ⟨v, J⟩ := y
    dsimp only at hy ⊢
    subst hy
    refine hgetK_has _ rfl ?_
    iterate 2
      refine hgetK_has _ rfl ?_
      refine needK_has rfl ?_
      refine eqK_has ?_
    iterate 2
      refine hgetK_has _ rfl ?_
      refine getK_has rfl ?_
    exact Has.intro (Has.intro (out fun hh => hfit hh.1))

theorem hint_ok (F N : Nat → Int) (n : Int) : EP (EE env) 7 [.agg (tab 16 (iv F)), .int .i64 n, .agg (tab 2 (iv N))] = some (wvP (wv F N n 0)) := by
  refine Has.eq (EP_has ?_)
  refine hgetK_has _ rfl ?_
  refine secK_has (v := tab 16 (iv F)) (tab_sec _).1 (tab_sec _).2 ?_
  refine hgetK_has _ rfl ?_
  refine secK_has (v := tab 2 (iv N)) (tab_sec _).1 (tab_sec _).2 ?_
  refine callPK_has (with_ok F N n 0) ?_
  exact Has.intro (Has.intro rfl)
end Go.Proofs.Ytdbobcbjgacjpaa
