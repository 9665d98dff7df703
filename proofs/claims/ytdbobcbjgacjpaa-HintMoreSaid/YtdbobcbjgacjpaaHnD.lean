/-
  The hints, and the first of them that holds some nodes.
-/
import Derived.Test.YtdbobcbjgacjpaaHnC
set_option linter.all false
set_option linter.unusedVariables false
set_option linter.unusedSimpArgs false
set_option linter.unusedSectionVars false
namespace Go.Proofs.Ytdbobcbjgacjpaa
open Go Go.VM

def fit (F N : Nat → Int) (n : Int) : Prop := rt F N ∧ 0 ≤ n ∧ n ≤ 8
instance (F N : Nat → Int) (n : Int) : Decidable (fit F N n) := by unfold fit; infer_instance
def hit (F N : Nat → Int) (held : Int) (x : Nat) : Bool := decide (en F N x) && decide (m8 held &&& (255 - x) = 0)
theorem find_at {l : List Nat} {p : Nat → Bool} {i x : Nat} (h : l[i]? = some x) (h0 : (l.take i).find? p = none) : (p x = true → l.find? p = some x) ∧ (p x = false → (l.take (i + 1)).find? p = none) := by
  have hs : (l.take (i + 1)).find? p = (if p x then some x else none) := by
    rw [List.take_add_one, h, List.find?_append, h0]
    cases hp : p x <;> simp [hp]
  refine ⟨fun hp => ?_, fun hp => by rw [hs, hp]; rfl⟩
  rw [← List.take_append_drop (i + 1) l, List.find?_append, hs, hp]; rfl

/-! ### With -/
def wBody : VCode := .block 1 (.seq (.ops [⟨some 32, none, .load1 (.t 6)⟩, ⟨some 33, none, .mov (.t 10)⟩, ⟨some 34, none, .call 19 [.t 32, .t 33]⟩])
  (.cond (.t 34) (.seq (.ops [⟨some 35, none, .mov (.t 10)⟩, ⟨none, none, .store1 (.t 8) (.t 35)⟩, ⟨none, none, .store1 (.t 9) (.c (.bool true))⟩]) .ret) .skip))
def wLo (r : Regs) (st : LState) : HObj := .loop ⟨st, r, [31], .ops [⟨some 10, none, .mov (.t 31)⟩], wBody⟩
def wR (r : Regs) : Regs := setL r [(6, .ptr 1 0), (8, .ptr 3 0), (9, .ptr 4 0)]
def WH (F N : Nat → Int) (held n : Int) (a : Int) (b : Bool) (o : HObj) (rest : Heap) : Heap :=
  .pcells (tab 16 (iv F)) :: .pcells [.int .i64 held] :: .pcells (tab 2 (iv N)) :: .pcells [.int .i64 a] :: .pcells [.bool b] :: .pcells (tab 16 (iv F)) :: .pcells [.int .i64 n] :: .pcells (tab 2 (iv N)) :: .pcells [.bool true] :: o :: rest
theorem w_yd (F N : Nat → Int) (held n : Int) (r : Regs) (rest : Heap) (x : Nat) (hx : x < 256) :
    EE env (.yield 9) [.pv (.int .i64 (x : Int))] (WH F N held n 0 false (wLo (wR r) .ready) rest) =
      some (if m8 held &&& (255 - x) = 0 then (.pv (.bool false), WH F N held n x true (wLo (wR r) (.done .ret)) rest) else (.pv (.bool true), WH F N held n 0 false (wLo (wR r) .ready) rest)) := by
  have hu := under_ok held (x : Int)
  rw [m8_nat hx] at hu
  refine Has.eq (EE_has ?_)
  refine hgetK_has _ rfl ?_
  refine hgetK_has _ rfl ?_
  refine hgetK_has _ rfl ?_
  refine getK_has rfl ?_
  refine callPK_dec hu (fun h => ?_) (fun h => ?_)
  · refine hgetK_has _ rfl ?_
    refine needK_has rfl ?_
    refine eqK_has_eq [.int .i64 (x : Int)] rfl ?_
    refine hgetK_has _ rfl ?_
    refine needK_has rfl ?_
    refine eqK_has_eq [.bool true] rfl ?_
    refine hgetK_has _ rfl ?_
    exact Has.intro (if_pos h).symm
  · refine hgetK_has _ rfl ?_
    exact Has.intro (if_neg h).symm

def iBody : VCode := .block 1 (.seq (.seq (.ops [⟨some 22, none, .loadN 16 (.t 2)⟩, ⟨some 23, none, .mov (.t 6)⟩, ⟨some 24, none, .loadN 2 (.t 3)⟩, ⟨some 25, none, .call 22 [.t 22, .t 23, .t 24]⟩, ⟨some 26, none, .un .not (.t 25)⟩])
  (.cond (.t 26) (.exit 1) .skip)) (.seq (.ops [⟨some 27, none, .load1 (.t 5)⟩, ⟨some 28, none, .mov (.t 6)⟩, ⟨some 29, none, .callV (.t 27) [.t 28]⟩, ⟨some 30, none, .un .not (.t 29)⟩])
  (.cond (.t 30) .ret .skip)))
def iLo (r : Regs) (st : LState) : HObj := .loop ⟨st, r, [21], .ops [⟨some 6, none, .mov (.t 21)⟩], iBody⟩
def wiR (r : Regs) : Regs := setL r [(2, .ptr 5 0), (3, .ptr 7 0), (5, .ptr 10 0)]
def WI (r : Regs) (n : Int) (st : LState) : Heap := [.cells [.yield 9], .pcells [.int .i64 n], iLo (wiR r) st]
theorem wi_yd (F N : Nat → Int) (hf : rt F N) (held n n' : Int) (r r' : Regs) (x : Nat) (hx : x < 256) :
    EE env (.yield 12) [.pv (.int .i64 (x : Int))] (WH F N held n 0 false (wLo (wR r) .ready) (WI r' n' .ready)) =
      some (if hit F N held x = true then (.pv (.bool false), WH F N held n x true (wLo (wR r) (.done .ret)) (WI r' n' (.done .ret))) else (.pv (.bool true), WH F N held n 0 false (wLo (wR r) .ready) (WI r' n' .ready))) := by
  have he := enough_ok F N (x : Int) hf
  rw [m8_nat hx] at he
  refine Has.eq (EE_has ?_)
  refine hgetK_has _ rfl ?_
  refine hgetK_has _ rfl ?_
  refine hgetK_has _ rfl ?_
  refine secK_has (v := tab 16 (iv F)) (tab_sec _).1 (tab_sec _).2 ?_
  refine hgetK_has _ rfl ?_
  refine secK_has (v := tab 2 (iv N)) (tab_sec _).1 (tab_sec _).2 ?_
  refine callPK_dec he (fun h => ?_) (fun h => ?_)
  · refine hgetK_has _ rfl ?_
    have hw := w_yd F N held n r (WI r' n' .busy) x hx
    by_cases hu : m8 held &&& (255 - x) = 0
    · rw [if_pos hu] at hw
      refine callSK_has hw ?_
      refine hgetK_has _ rfl ?_
      refine Has.intro (if_pos ?_).symm
      unfold hit; rw [decide_eq_true h, decide_eq_true hu]; rfl
    · rw [if_neg hu] at hw
      refine callSK_has hw ?_
      refine hgetK_has _ rfl ?_
      refine Has.intro (if_neg ?_).symm
      unfold hit; rw [decide_eq_false hu]; simp
  · refine hgetK_has _ rfl ?_
    refine Has.intro (if_neg ?_).symm
    unfold hit; rw [decide_eq_false h]; simp

theorem msq_256 {n : Nat} (hn : n ≤ 8) {i x : Nat} (h : (msq n)[i]? = some x) : 1 ≤ x ∧ x < 256 := by
  have h1 := msq_in n (by omega) x (List.mem_of_getElem? h)
  have : 2 ^ n ≤ 2 ^ 8 := Nat.pow_le_pow_right (by decide) hn
  omega
/-- The range over the hints, in With. -/
theorem w_iter (F N : Nat → Int) (held : Int) (n : Nat) (hn : n ≤ 8) (hfit : fit F N (n : Int)) (r : Regs) :
    Has (EE env (.fn 24) [.yield 9, .ptr 8 0, .ptr 5 0, .ptr 7 0, .ptr 6 0] (WH F N held n 0 false (wLo (wR r) .ready) []))
      (fun y => (((0 :: msq n).find? (hit F N held) = none ∧ ∃ rest, y.2 = WH F N held n 0 false (wLo (wR r) .ready) rest) ∨
        (∃ x rest, (0 :: msq n).find? (hit F N held) = some x ∧ y.2 = WH F N held n x true (wLo (wR r) (.done .ret)) rest))) := by
  have hf := hfit.1
  have he := enough_ok F N 0 hf
  have hd : decide (fit F N (n : Int)) = true := decide_eq_true hfit
  have key : ∀ (R0 : Regs), hit F N held 0 = false → Agr R0 [(2, .ptr 5 0), (3, .ptr 7 0), (5, .ptr 10 0)] → Has (EE env (.fn 30) [.yield 12, .ptr 11 0] (WH F N held n 0 false (wLo (wR r) .ready) [.cells [.yield 9], .pcells [.int .i64 n], iLo R0 .ready]))
      (fun y => ∃ r', (((0 :: msq n).find? (hit F N held) = none ∧ y.2 = WH F N held n 0 false (wLo (wR r) .ready) (WI r' n .ready)) ∨
        (∃ x, (0 :: msq n).find? (hit F N held) = some x ∧ y.2 = WH F N held n x true (wLo (wR r) (.done .ret)) (WI r' n (.done .ret))))) := by
    intro R0 h0 hA
    obtain ⟨r', hR⟩ : ∃ r', R0 = wiR r' := ⟨R0, hA.eq.symm⟩
    clear hA
    subst hR
    refine (masks_iter 12 11 n hn (fun i H => i ≤ (msq n).length ∧ ((msq n).take i).find? (hit F N held) = none ∧ H = WH F N held n 0 false (wLo (wR r) .ready) (WI r' n .ready))
      (fun H => ∃ x, (msq n).find? (hit F N held) = some x ∧ H = WH F N held n x true (wLo (wR r) (.done .ret)) (WI r' n (.done .ret)))
      (fun i H ⟨_, _, h⟩ => by rw [h]; rfl) (fun i H x ⟨h1, h2, h3⟩ hx => ?_) _ ⟨Nat.zero_le _, rfl, rfl⟩).mono fun y hy => ?_
    · subst h3
      refine Has.of_eq (wi_yd F N hf held n n r r' x (msq_256 hn hx).2) ?_
      have hfa := find_at hx h2
      cases hp : hit F N held x with
      | true => exact .inr ⟨rfl, x, hfa.1 hp, rfl⟩
      | false => exact .inl ⟨rfl, (List.getElem?_eq_some_iff.1 hx).1, hfa.2 hp, rfl⟩
    · rw [List.find?_cons, h0]
      refine ⟨r', ?_⟩
      rcases hy with ⟨h1, h2, h3⟩ | ⟨x, h1, h2⟩
      · rw [List.take_of_length_le (Nat.le_refl _)] at h2
        exact .inl ⟨h2, h3⟩
      · exact .inr ⟨x, h1, h2⟩
  have hmk : ∀ (a : Int) (b : Bool) (o : HObj), EE env (.fn 25) [.pv (.int .i64 (n : Int))] (WH F N held n a b o [.cells [.yield 9]]) = some (.fn 30 [] [.ptr 11 0], WH F N held n a b o [.cells [.yield 9], .pcells [.int .i64 (n : Int)]]) := by
    intro a b o
    refine Has.eq (EE_has ?_)
    refine eqK_has_eq (n : Int) (by show (if (0 : Int) > n then (0 : Int) else n) = _; split <;> omega) ?_
    refine eqK_has_eq (n : Int) (by show (if (8 : Int) < n then (8 : Int) else n) = _; split <;> omega) ?_
    refine hgetK_has _ rfl ?_
    refine needK_has rfl ?_
    refine eqK_has_eq [.int .i64 (n : Int)] rfl ?_
    exact Has.intro rfl
  have hw := w_yd F N held n r [.cells [.yield 9]] 0 (by decide)
  have fin : hit F N held 0 = false → ∀ (b : Bool), True := fun _ _ => trivial
  refine EE_has ?_
  refine hgetK_has _ rfl ?_
  refine getK_has rfl ?_
  refine hgetK_has _ rfl ?_
  refine secK_has (v := tab 16 (iv F)) (tab_sec _).1 (tab_sec _).2 ?_
  refine hgetK_has _ rfl ?_
  refine secK_has (v := tab 2 (iv N)) (tab_sec _).1 (tab_sec _).2 ?_
  refine callPK_dec he (fun h => ?_) (fun h => ?_)
  · refine hgetK_has _ rfl ?_
    by_cases hu : m8 held &&& (255 - 0) = 0
    · rw [if_pos hu] at hw
      refine callSK_has hw ?_
      refine Has.intro (.inr ⟨0, [.cells [.yield 9]], ?_, rfl⟩)
      have : hit F N held 0 = true := by unfold hit; rw [decide_eq_true (show en F N 0 from h), decide_eq_true hu]; rfl
      rw [List.find?_cons, this]
    · rw [if_neg hu] at hw
      have h0 : hit F N held 0 = false := by unfold hit; rw [decide_eq_false hu]; simp
      refine callSK_has hw ?_
      refine hgetK_has _ rfl ?_
      refine getK_has rfl ?_
      refine callSK_has (hmk _ _ _) ?_
      refine callSK_has' ((key _ h0 ⟨rfl, rfl, rfl, trivial⟩).mono fun y hy => ?_)
      obtain ⟨v, J⟩ := y
      dsimp only at hy ⊢
      obtain ⟨r', hy⟩ := hy
      rcases hy with ⟨h1, h2⟩ | ⟨x, h1, h2⟩
      · subst h2
        refine hgetK_has _ rfl ?_
        exact Has.intro (.inl ⟨h1, _, rfl⟩)
      · subst h2
        refine hgetK_has _ rfl ?_
        exact Has.intro (.inr ⟨x, _, h1, rfl⟩)
  · have h0 : hit F N held 0 = false := by unfold hit; rw [decide_eq_false (show ¬ en F N 0 from h)]; simp
    refine hgetK_has _ rfl ?_
    refine getK_has rfl ?_
    refine callSK_has (hmk _ _ _) ?_
    refine callSK_has' ((key _ h0 ⟨rfl, rfl, rfl, trivial⟩).mono fun y hy => ?_)
    obtain ⟨v, J⟩ := y
    dsimp only at hy ⊢
    obtain ⟨r', hy⟩ := hy
    rcases hy with ⟨h1, h2⟩ | ⟨x, h1, h2⟩
    · subst h2
      refine hgetK_has _ rfl ?_
      exact Has.intro (.inl ⟨h1, _, rfl⟩)
    · subst h2
      refine hgetK_has _ rfl ?_
      exact Has.intro (.inr ⟨x, _, h1, rfl⟩)
end Go.Proofs.Ytdbobcbjgacjpaa
