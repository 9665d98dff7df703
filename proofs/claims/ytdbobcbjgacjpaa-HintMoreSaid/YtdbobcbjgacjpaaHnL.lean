/-
  HintTells in the abstract machine.
-/
import Derived.Test.YtdbobcbjgacjpaaHnK
set_option linter.all false
set_option linter.unusedVariables false
set_option linter.unusedSimpArgs false
set_option linter.unusedSectionVars false
namespace Go.Proofs.Ytdbobcbjgacjpaa
open Go Go.VM

/-- Are the first i nodes of one set in the other? -/
def undB (u v : Nat) : Nat → Bool
  | 0 => true
  | i + 1 => undB u v i && (!u.testBit i || v.testBit i)
theorem undB_iff (u v : Nat) (i : Nat) : undB u v i = true ↔ ∀ j, j < i → u.testBit j = true → v.testBit j = true := by
  induction i with
  | zero => exact ⟨fun _ j hj => by omega, fun _ => rfl⟩
  | succ i ih =>
    unfold undB
    rw [Bool.and_eq_true, ih]
    constructor
    · intro ⟨h1, h2⟩ j hj hb
      by_cases e : j = i
      · subst e; rw [hb] at h2; simpa using h2
      · exact h1 j (by omega) hb
    · intro h
      refine ⟨fun j hj => h j (by omega), ?_⟩
      cases hb : u.testBit i with
      | false => rfl
      | true => rw [h i (by omega) hb]; rfl
theorem under_iff {u v : Nat} (hu : u < 256) (hv : v < 256) : undB u v 8 = decide (u &&& (255 - v) = 0) := by
  rw [Bool.eq_iff_iff, undB_iff, decide_eq_true_iff]
  have hc : ∀ j, (255 - v).testBit j = (decide (j < 8) && !v.testBit j) := fun j => by
    have := Nat.testBit_two_pow_sub_succ (n := 8) (x := v) (by omega) j
    rw [← this]
    congr 1
    show 255 - v = 256 - (v + 1)
    omega
  constructor
  · intro h
    apply Nat.eq_of_testBit_eq
    intro j
    rw [Nat.testBit_and, hc, Nat.zero_testBit]
    by_cases hj : j < 8
    · cases hb : u.testBit j with
      | false => rfl
      | true => rw [h j hj hb]; simp
    · simp [hj]
  · intro h j hj hb
    have := congrArg (fun n => n.testBit j) h
    simp only [Nat.testBit_and, hc, Nat.zero_testBit, hb, Bool.true_and, decide_eq_true hj] at this
    simpa using this

theorem kmin (most : Int) : (bif false then (if (300 : Int) > most then (300 : Int) else most) else (if (300 : Int) < most then (300 : Int) else most)) = min most 300 := by
  simp only [cond_false]; split <;> omega
theorem kmax (most : Int) : (bif true then (if min most 300 > (0 : Int) then min most 300 else (0 : Int)) else (if min most 300 < (0 : Int) then min most 300 else (0 : Int))) = (((max 0 (min most 300)).toNat : Nat) : Int) := by
  simp only [cond_true]; split <;> omega
theorem min_len (k n : Nat) : (bif false then (if (n : Int) > (k : Int) then (n : Int) else (k : Int)) else (if (n : Int) < (k : Int) then (n : Int) else (k : Int))) = ((min k n : Nat) : Int) := by
  simp only [cond_false]; split <;> omega

/-- What Over answers, in parts. -/
def ovO (f : Nat → Int) (m need : Int) : Nat → Int := if Right (pad8 f) (pad1 need) m then (ovn f (m8 m) need 8).2 else fun _ => 0
theorem over_ok' (f : Nat → Int) (m need : Int) : EP (EE env) 9 [.agg (tab 8 (iv f)), .int .i64 m, .int .i64 need] = some (.tup [.agg (tab 8 (iv (ovO f m need))), .bool (decide (Right (pad8 f) (pad1 need) m))]) := by
  rw [over_ok]
  unfold ovP ovO
  by_cases h : Right (pad8 f) (pad1 need) m
  · rw [if_pos h, if_pos h, decide_eq_true h]
  · rw [if_neg h, if_neg h, decide_eq_false h]
theorem pad8_row {f : Nat → Int} {N : Int} (h : rt (pad8 f) (pad1 N)) : (∀ i, i < 8 → cb (f i)) ∧ cb N := by
  refine ⟨fun i hi => ?_, (h 0 (by decide)).2⟩
  have := (h 0 (by decide)).1 i hi
  rw [Nat.mul_zero, Nat.zero_add] at this
  unfold pad8 at this
  rwa [show Nat.blt i 8 = true from Nat.ble_eq_true_of_le hi] at this

/-! ### the first hint that holds some nodes -/
theorem find_congr {p q : Nat → Bool} : ∀ {l : List Nat}, (∀ x ∈ l, p x = q x) → l.find? p = l.find? q := by
  intro l
  induction l with
  | nil => intro _; rfl
  | cons a l ih =>
    intro h
    rw [List.find?_cons, List.find?_cons, h a (List.mem_cons_self ..), ih fun x hx => h x (List.mem_cons_of_mem _ hx)]
theorem hit0 (F N : Nat → Int) (x : Nat) : hit F N 0 x = decide (en F N x) := by
  unfold hit
  rw [show m8 0 = 0 from rfl, Nat.zero_and, decide_eq_true rfl, Bool.and_true]
theorem wv0 {F N : Nat → Int} {n : Nat} (h : fit F N (n : Int)) : wv F N n 0 = (hl F N n).head? := by
  unfold wv hl
  have hp : (0 : Int) < 2 ^ n := Int.pow_pos (by decide)
  rw [if_pos ⟨h, Int.le_refl _, hp⟩, List.head?_filter]
  exact congrArg (List.find? · _) (funext fun x => hit0 F N x)
/-- Does a hint hold them? -/
def und (held : Int) (x : Nat) : Bool := decide (0 ≤ held ∧ held < 256) && undB (m8 held) x 8
theorem wv_und {F N : Nat → Int} {n : Nat} (hn : n ≤ 8) (held : Int) (h : fit F N (n : Int)) : wv F N n held = (hl F N n).find? (und held) := by
  have h256 : ∀ x ∈ 0 :: msq n, x < 2 ^ n := fun x hx => by
    rcases List.mem_cons.1 hx with rfl | hx
    · exact Nat.pow_pos (by decide)
    · exact (msq_in n (by omega) x hx).2
  have hpow : 2 ^ n ≤ 2 ^ 8 := Nat.pow_le_pow_right (by decide) hn
  have hcast : ((2 ^ n : Nat) : Int) = (2 : Int) ^ n := by simp
  unfold wv hl
  rw [List.find?_filter]
  have key : ∀ x ∈ 0 :: msq n, 0 ≤ held → held < 2 ^ n → (decide (en F N x) && und held x) = hit F N held x := fun x hx h0 h1 => by
    unfold hit und
    have hx := h256 x hx
    rw [under_iff (m8_lt held) (by omega), decide_eq_true (show 0 ≤ held ∧ held < 256 by omega), Bool.true_and]
  by_cases hh : 0 ≤ held ∧ held < 2 ^ n
  · rw [if_pos ⟨h, hh.1, hh.2⟩]
    exact find_congr fun x hx => (key x hx hh.1 hh.2).symm.trans (by rw [Bool.eq_iff_iff]; simp)
  · rw [if_neg (fun hc => hh ⟨hc.2.1, hc.2.2⟩)]
    symm
    rw [List.find?_eq_none]
    intro x hx hc
    rw [decide_eq_true_iff] at hc
    unfold und at hc
    rw [Bool.and_eq_true, decide_eq_true_iff, decide_eq_true_iff, under_iff (m8_lt held) (by have := h256 x hx; omega), decide_eq_true_iff] at hc
    obtain ⟨_, ⟨h0, h1⟩, h2⟩ := hc
    have hx := h256 x hx
    have hle : m8 held ≤ x := by
      have := (under_iff (m8_lt held) (show x < 256 by omega)).trans (decide_eq_true h2)
      rw [undB_iff] at this
      have e : m8 held &&& x = m8 held := by
        apply Nat.eq_of_testBit_eq
        intro j
        rw [Nat.testBit_and]
        by_cases hj : j < 8
        · cases hb : (m8 held).testBit j with
          | false => rfl
          | true => rw [this j hj hb]; rfl
        · rw [Nat.testBit_lt_two_pow (Nat.lt_of_lt_of_le (m8_lt held) (Nat.pow_le_pow_right (n := 2) (by decide) (show 8 ≤ j by omega)))]; rfl
      rw [← e]; exact Nat.and_le_right
    have : (m8 held : Int) = held := by unfold m8; omega
    omega
end Go.Proofs.Ytdbobcbjgacjpaa
