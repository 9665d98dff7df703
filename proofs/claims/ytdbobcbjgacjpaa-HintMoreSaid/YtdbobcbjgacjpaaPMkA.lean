/-
  Sets of nodes as bits: what the program's functions compute.
-/
import Derived.Test.YtdbobcbjgacjpaaVmC
set_option linter.all false
set_option linter.unusedVariables false
set_option linter.unusedSimpArgs false
set_option linter.unusedSectionVars false
namespace Go.Proofs.Ytdbobcbjgacjpaa
open Go Go.VM

theorem u8_nat {n : Nat} (h : n < 256) : IntKind.u8.wrap (n : Int) = (n : Int) := by
  unfold IntKind.wrap; simp only [IntKind.bits, IntKind.signed, Bool.false_and]
  have : (n : Int) % 256 = n := Int.emod_eq_of_lt (by omega) (by omega)
  simpa using this
theorem u8_of (n : Int) : IntKind.u8.wrap n = n % 256 := by
  unfold IntKind.wrap; simp only [IntKind.bits, IntKind.signed, Bool.false_and]; simp
theorem bv8 {a : Nat} (h : a < 256) : (BitVec.ofInt 8 (a : Int)).toNat = a := by
  rw [BitVec.toNat_ofInt]
  have : ((a : Int) % ((2 ^ 8 : Nat) : Int)) = a := Int.emod_eq_of_lt (by omega) (by simp; omega)
  rw [this]; rfl
theorem u8_and {a b : Nat} (ha : a < 256) (hb : b < 256) : IntKind.u8.wrap ((BitVec.ofInt IntKind.u8.bits (a : Int) &&& BitVec.ofInt IntKind.u8.bits (b : Int)).toNat : Int) = ((a &&& b : Nat) : Int) := by
  show IntKind.u8.wrap ((BitVec.ofInt 8 (a : Int) &&& BitVec.ofInt 8 (b : Int)).toNat : Int) = _
  rw [u8_nat (BitVec.isLt _), BitVec.toNat_and, bv8 ha, bv8 hb]
theorem u8_or {a b : Nat} (ha : a < 256) (hb : b < 256) : IntKind.u8.wrap ((BitVec.ofInt IntKind.u8.bits (a : Int) ||| BitVec.ofInt IntKind.u8.bits (b : Int)).toNat : Int) = ((a ||| b : Nat) : Int) := by
  show IntKind.u8.wrap ((BitVec.ofInt 8 (a : Int) ||| BitVec.ofInt 8 (b : Int)).toNat : Int) = _
  rw [u8_nat (BitVec.isLt _), BitVec.toNat_or, bv8 ha, bv8 hb]
theorem u8_andNot {a b : Nat} (ha : a < 256) (hb : b < 256) : IntKind.u8.wrap ((BitVec.ofInt IntKind.u8.bits (a : Int) &&& ~~~ BitVec.ofInt IntKind.u8.bits (b : Int)).toNat : Int) = ((a &&& (255 - b) : Nat) : Int) := by
  show IntKind.u8.wrap ((BitVec.ofInt 8 (a : Int) &&& ~~~ BitVec.ofInt 8 (b : Int)).toNat : Int) = _
  rw [u8_nat (BitVec.isLt _), BitVec.toNat_and, BitVec.toNat_not, bv8 ha, bv8 hb]

def m8 (m : Int) : Nat := (m % 256).toNat
theorem m8_lt (m : Int) : m8 m < 256 := by unfold m8; omega
theorem m8_conv (m : Int) : IntKind.u8.wrap m = (m8 m : Int) := by rw [u8_of]; unfold m8; omega
theorem m8_nat {n : Nat} (h : n < 256) : m8 (n : Int) = n := by unfold m8; omega
theorem i64_small {n : Nat} (h : n < 9223372036854775808) : IntKind.i64.wrap (n : Int) = (n : Int) := wrap_i64 (by omega) (by omega)

def bitOf (node : Int) : Nat := if 0 ≤ node ∧ node < 8 then 2 ^ node.toNat else 0
theorem bitOf_lt (node : Int) : bitOf node < 256 := by
  unfold bitOf
  split
  · rename_i h
    have : 2 ^ node.toNat ≤ 2 ^ 7 := Nat.pow_le_pow_right (by decide) (by omega)
    omega
  · decide
theorem or_lt8 {a b : Nat} (ha : a < 256) (hb : b < 256) : a ||| b < 256 := Nat.or_lt_two_pow (n := 8) ha hb
theorem and_lt8 {a : Nat} (b : Nat) (ha : a < 256) : a &&& b < 256 := Nat.lt_of_le_of_lt Nat.and_le_left ha
theorem under_ok (m n : Int) : EP (EE env) 19 [.int .i64 m, .int .i64 n] = some (.bool (decide (m8 m &&& (255 - m8 n) = 0))) := by
  refine Has.eq (EP_has ?_)
  refine eqK_has_eq _ (m8_conv m) ?_
  refine eqK_has_eq _ (m8_conv n) ?_
  refine eqK_has_eq _ (u8_andNot (m8_lt m) (m8_lt n)) ?_
  refine boolK_beq (fun h => ?_) (fun h => ?_)
  · exact Has.intro (Has.intro (yes (by omega)))
  · exact Has.intro (Has.intro (no (by omega)))

/-- The nodes of a mask, rising. -/
def nds (u : Nat) : List Nat := (List.range 8).filter fun i => u.testBit i
def cnt (u : Nat) : Nat := (nds u).length
def lst (u : Nat) : Nat := (nds u).headD 0
theorem nds_step : ∀ u, u < 256 → u ≠ 0 → nds u = lst u :: nds (u &&& (u - 1)) := by decide +kernel
theorem nds_zero : nds 0 = [] := by decide
theorem cnt_le : ∀ u, u < 256 → cnt u ≤ 8 := by decide +kernel
theorem lst_le : ∀ u, u < 256 → lst u < 8 := by decide +kernel
theorem low_even : ∀ u, u < 256 → u ≠ 0 → u &&& 1 = 0 → u >>> 1 ≠ 0 ∧ lst u = lst (u >>> 1) + 1 := by decide +kernel
theorem low_odd : ∀ u, u < 256 → u &&& 1 ≠ 0 → lst u = 0 := by decide +kernel

theorem u8_pred {u : Nat} (h : u < 256) (h0 : u ≠ 0) : IntKind.u8.wrap ((u : Int) - 1) = ((u - 1 : Nat) : Int) := by
  rw [show (u : Int) - 1 = ((u - 1 : Nat) : Int) by omega]; exact u8_nat (by omega)
theorem least_ok (m : Int) : EP (EE env) 27 [.int .i64 m] = some (.tup [.int .i64 (lst (m8 m) : Int), .bool (decide (m8 m ≠ 0))]) := by
  have hm := m8_lt m
  refine Has.eq (EP_has ?_)
  refine eqK_has_eq _ (m8_conv m) ?_
  refine boolK_beq (fun h => ?_) (fun h => ?_)
  · have h0 : m8 m = 0 := by omega
    refine Has.intro (Has.intro ?_)
    rw [h0]; rfl
  · have h0 : m8 m ≠ 0 := by omega
    refine loopK_has ?_
    refine iterE_loop (σ := Nat × Nat) (fun p => p.2) (fun p => [(5, .pv (.int .i64 ((p.1 : Nat) : Int))), (4, .pv (.int .u8 ((p.2 : Nat) : Int)))]) (fun _ => [])
      (fun p => p.2 < 256 ∧ p.2 ≠ 0 ∧ p.1 + lst p.2 = lst (m8 m)) (fun ⟨n, u⟩ ⟨hu, hu0, hn⟩ r => ?_) (0, m8 m) ⟨hm, h0, Nat.zero_add _⟩ ⟨rfl, rfl, trivial⟩ rfl
    dsimp only at hu hu0 hn
    have hl := lst_le _ hm
    refine eqK_has_eq _ (u8_and hu (b := 1) (by decide)) ?_
    refine boolK_beq (fun h => ?_) (fun h => ?_)
    · obtain ⟨g1, g2⟩ := low_even u hu hu0 (by have h' : ((u &&& 1 : Nat) : Int) = 0 := h; exact Int.natCast_eq_zero.1 h')
      refine needK_has rfl ?_
      refine eqK_has_eq ((u >>> 1 : Nat) : Int) (by
        have e : (2 : Int) ^ (min (1 : Int).toNat IntKind.u8.bits) = 2 := rfl
        rw [e, Int.fdiv_eq_ediv_of_nonneg _ (by decide), Nat.shiftRight_eq_div_pow]; simp) ?_
      refine eqK_has_eq _ (i64_succ (by omega)) ?_
      have hlt : u >>> 1 < u := by rw [Nat.shiftRight_eq_div_pow]; omega
      exact Has.intro ⟨(n + 1, u >>> 1), ⟨by simp only; omega, g1, by simp only; omega⟩, hlt, ⟨rfl, rfl, trivial⟩, rfl⟩
    · have hz := low_odd u hu (by have h' : ((u &&& 1 : Nat) : Int) ≠ 0 := h; exact fun e => h' (by rw [e]; rfl))
      refine Has.intro (Has.intro (Has.intro ?_))
      show PV.tup [.int .i64 ((n : Nat) : Int), .bool true] = _
      rw [← hn, hz, decide_eq_true h0]; rfl

def ahd (x y : Nat) : Prop := cnt x < cnt y ∨ (cnt x = cnt y ∧ x < y)
instance (x y : Nat) : Decidable (ahd x y) := by unfold ahd; infer_instance
end Go.Proofs.Ytdbobcbjgacjpaa
