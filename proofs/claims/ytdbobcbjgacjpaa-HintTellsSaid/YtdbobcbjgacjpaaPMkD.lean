/-
  The mask of a list of nodes; the document's sets.
-/
import Derived.Test.YtdbobcbjgacjpaaPMkC
set_option linter.all false
set_option linter.unusedVariables false
set_option linter.unusedSimpArgs false
set_option linter.unusedSectionVars false
namespace Go.Proofs.Ytdbobcbjgacjpaa
open Go Go.VM

theorem ints_len (l : List Int) : (ints l).length = l.length := by simp [ints]
theorem ints_get {l : List Int} {i : Nat} {n : Int} (h : l[i]? = some n) : (ints l)[i]? = some (.int .i64 n) := by simp [ints, h]

/-- The mask of a list. -/
def ofL (l : List Int) : Nat := l.foldl (fun m n => m ||| bitOf n) 0
theorem ofL_lt (l : List Int) : ofL l < 256 := by
  unfold ofL
  have : ∀ (l : List Int) (m : Nat), m < 256 → l.foldl (fun m n => m ||| bitOf n) m < 256 := by
    intro l
    induction l with
    | nil => intro m h; exact h
    | cons a l ih => intro m h; exact ih _ (or_lt8 h (bitOf_lt a))
  exact this l 0 (by decide)
theorem ofL_take {l : List Int} {i : Nat} {n : Int} (h : l[i]? = some n) : ofL (l.take (i + 1)) = ofL (l.take i) ||| bitOf n := by
  unfold ofL; rw [List.take_add_one, h]; simp
/-! ### the document's sets -/
def bset (u : Nat) : List PV := tab 8 fun j => .bool (u.testBit j)
theorem rof_ok (m : Int) : EP (EE env) 13 [.int .i64 m] = some (.agg (bset (m8 m))) := by
  have hm := m8_lt m
  have loop : ∀ (u : Nat), u < 256 → ∀ i, (u >>> i) / 2 = u >>> (i + 1) := fun u _ i => by rw [Nat.shiftRight_succ]
  refine Has.eq (EP_has ?_)
  refine needK_has rfl ?_
  refine eqK_has ?_
  have hmod : -256 < m.tmod 256 ∧ m.tmod 256 < 256 := ⟨Int.lt_tmod_of_pos m (by decide), Int.tmod_lt_of_pos m (by decide)⟩
  have hcase : m.tmod 256 = (m8 m : Int) ∨ m.tmod 256 + 256 = (m8 m : Int) := by
    unfold m8
    have h1 := Int.mul_tdiv_add_tmod m 256
    omega
  refine boolK_dec (fun h => ?_) (fun h => ?_)
  · refine eqK_has_eq ((m8 m : Nat) : Int) (by rw [wrap_i64 (by omega) (by omega)]; omega) ?_
    refine loopK_has ?_
    refine iterE_up 8 (fun i => [(0, .pv (.int .i64 ((m8 m >>> i : Nat) : Int))), (2, .ptr 0 0), (3, .ptr 1 0), (4, .pv (.int .i64 i))])
      (fun i => [.pcells (tab 8 fun _ => .bool false), .pcells (tab 8 fun j => .bool (decide (j < i) && (m8 m).testBit j))]) (fun i hi r => ?_) (fun r => ?_) ⟨rfl, rfl, rfl, rfl, trivial⟩ rfl
    · have hsh : m8 m >>> i ≤ m8 m := Nat.shiftRight_le _ _
      refine boolK_dec_t (by omega) ?_
      refine needK_has rfl ?_
      refine eqK_has_eq ((m8 m >>> i % 2 : Nat) : Int) rfl ?_
      refine boolK_has_eq (show _ = (m8 m).testBit i by
        rw [Nat.testBit_eq_decide_div_mod_eq, ← Nat.shiftRight_eq_div_pow, Bool.eq_iff_iff, beq_iff_eq, decide_eq_true_iff]; omega) ?_
      refine needK_has (by simp; omega) ?_
      refine hgetK_has _ rfl ?_
      refine needK_has (tab_blt _ hi) ?_
      refine eqK_has_eq (tab 8 fun j => .bool (decide (j < i + 1) && (m8 m).testBit j)) (by
        refine tab_set_eq (i := i) ?_ fun j _ hj => ?_
        · show PV.bool (decide (i < i + 1) && (m8 m).testBit i) = _
          rw [decide_eq_true (by omega), Bool.true_and]
        · show PV.bool (decide (j < i) && (m8 m).testBit j) = .bool (decide (j < i + 1) && (m8 m).testBit j)
          congr 2
          exact decide_eq_decide.2 (by omega)) ?_
      refine needK_has rfl ?_
      refine eqK_has_eq ((m8 m >>> (i + 1) : Nat) : Int) (by
        show IntKind.i64.wrap ((m8 m >>> i / 2 : Nat) : Int) = _
        rw [loop _ hm i]
        have := Nat.shiftRight_le (m8 m) (i + 1)
        exact i64_small (by omega)) ?_
      refine eqK_has_eq _ (i64_succ (by omega)) ?_
      exact Has.intro ⟨⟨rfl, rfl, rfl, rfl, trivial⟩, rfl⟩
    · refine boolK_dec_f (by omega) ?_
      refine Has.intro ?_
      have hb : (tab 8 fun j => PV.bool (decide (j < 8) && (m8 m).testBit j)) = bset (m8 m) := tab_congr fun j hj => by rw [decide_eq_true hj, Bool.true_and]
      rw [hb]
      refine hgetK_has _ rfl ?_
      refine secK_has (v := bset (m8 m)) (tab_sec _).1 (tab_sec _).2 ?_
      refine hgetK_has _ rfl ?_
      refine needK_has rfl ?_
      refine eqK_has_eq (bset (m8 m)) rfl ?_
      refine hgetK_has _ rfl ?_
      refine secK_has (v := bset (m8 m)) (tab_sec _).1 (tab_sec _).2 ?_
      exact Has.intro (Has.intro rfl)
  · have he : m.tmod 256 = (m8 m : Int) := by omega
    rw [he]
    refine loopK_has ?_
    refine iterE_up 8 (fun i => [(0, .pv (.int .i64 ((m8 m >>> i : Nat) : Int))), (2, .ptr 0 0), (3, .ptr 1 0), (4, .pv (.int .i64 i))])
      (fun i => [.pcells (tab 8 fun _ => .bool false), .pcells (tab 8 fun j => .bool (decide (j < i) && (m8 m).testBit j))]) (fun i hi r => ?_) (fun r => ?_) ⟨rfl, rfl, rfl, rfl, trivial⟩ rfl
    · have hsh : m8 m >>> i ≤ m8 m := Nat.shiftRight_le _ _
      refine boolK_dec_t (by omega) ?_
      refine needK_has rfl ?_
      refine eqK_has_eq ((m8 m >>> i % 2 : Nat) : Int) rfl ?_
      refine boolK_has_eq (show _ = (m8 m).testBit i by
        rw [Nat.testBit_eq_decide_div_mod_eq, ← Nat.shiftRight_eq_div_pow, Bool.eq_iff_iff, beq_iff_eq, decide_eq_true_iff]; omega) ?_
      refine needK_has (by simp; omega) ?_
      refine hgetK_has _ rfl ?_
      refine needK_has (tab_blt _ hi) ?_
      refine eqK_has_eq (tab 8 fun j => .bool (decide (j < i + 1) && (m8 m).testBit j)) (by
        refine tab_set_eq (i := i) ?_ fun j _ hj => ?_
        · show PV.bool (decide (i < i + 1) && (m8 m).testBit i) = _
          rw [decide_eq_true (by omega), Bool.true_and]
        · show PV.bool (decide (j < i) && (m8 m).testBit j) = .bool (decide (j < i + 1) && (m8 m).testBit j)
          congr 2
          exact decide_eq_decide.2 (by omega)) ?_
      refine needK_has rfl ?_
      refine eqK_has_eq ((m8 m >>> (i + 1) : Nat) : Int) (by
        show IntKind.i64.wrap ((m8 m >>> i / 2 : Nat) : Int) = _
        rw [loop _ hm i]
        have := Nat.shiftRight_le (m8 m) (i + 1)
        exact i64_small (by omega)) ?_
      refine eqK_has_eq _ (i64_succ (by omega)) ?_
      exact Has.intro ⟨⟨rfl, rfl, rfl, rfl, trivial⟩, rfl⟩
    · refine boolK_dec_f (by omega) ?_
      refine Has.intro ?_
      have hb : (tab 8 fun j => PV.bool (decide (j < 8) && (m8 m).testBit j)) = bset (m8 m) := tab_congr fun j hj => by rw [decide_eq_true hj, Bool.true_and]
      rw [hb]
      refine hgetK_has _ rfl ?_
      refine secK_has (v := bset (m8 m)) (tab_sec _).1 (tab_sec _).2 ?_
      refine hgetK_has _ rfl ?_
      refine needK_has rfl ?_
      refine eqK_has_eq (bset (m8 m)) rfl ?_
      refine hgetK_has _ rfl ?_
      refine secK_has (v := bset (m8 m)) (tab_sec _).1 (tab_sec _).2 ?_
      exact Has.intro (Has.intro rfl)
end Go.Proofs.Ytdbobcbjgacjpaa
