/-
  Ranging over all masks of the first nodes.
-/
import Derived.Test.YtdbobcbjgacjpaaPMkB
set_option linter.all false
set_option linter.unusedVariables false
set_option linter.unusedSimpArgs false
set_option linter.unusedSectionVars false
namespace Go.Proofs.Ytdbobcbjgacjpaa
open Go Go.VM

theorem u32_nat {n : Nat} (h : n < 4294967296) : IntKind.u32.wrap (n : Int) = (n : Int) := wrap_u32 h
theorem bv32 {a : Nat} (h : a < 4294967296) : (BitVec.ofInt 32 (a : Int)).toNat = a := by
  rw [BitVec.toNat_ofInt]
  have : ((a : Int) % ((2 ^ 32 : Nat) : Int)) = a := Int.emod_eq_of_lt (by omega) (by simp; omega)
  rw [this]; rfl
theorem n32_and {a b : Nat} (ha : a < 4294967296) (hb : b < 4294967296) : IntKind.u32.wrap ((BitVec.ofInt IntKind.u32.bits (a : Int) &&& BitVec.ofInt IntKind.u32.bits (b : Int)).toNat : Int) = ((a &&& b : Nat) : Int) := by
  show IntKind.u32.wrap ((BitVec.ofInt 32 (a : Int) &&& BitVec.ofInt 32 (b : Int)).toNat : Int) = _
  rw [u32_nat (BitVec.isLt _), BitVec.toNat_and, bv32 ha, bv32 hb]
theorem n32_or {a b : Nat} (ha : a < 4294967296) (hb : b < 4294967296) : IntKind.u32.wrap ((BitVec.ofInt IntKind.u32.bits (a : Int) ||| BitVec.ofInt IntKind.u32.bits (b : Int)).toNat : Int) = ((a ||| b : Nat) : Int) := by
  show IntKind.u32.wrap ((BitVec.ofInt 32 (a : Int) ||| BitVec.ofInt 32 (b : Int)).toNat : Int) = _
  rw [u32_nat (BitVec.isLt _), BitVec.toNat_or, bv32 ha, bv32 hb]
theorem n32_xor {a b : Nat} (ha : a < 4294967296) (hb : b < 4294967296) : IntKind.u32.wrap ((BitVec.ofInt IntKind.u32.bits (a : Int) ^^^ BitVec.ofInt IntKind.u32.bits (b : Int)).toNat : Int) = ((a ^^^ b : Nat) : Int) := by
  show IntKind.u32.wrap ((BitVec.ofInt 32 (a : Int) ^^^ BitVec.ofInt 32 (b : Int)).toNat : Int) = _
  rw [u32_nat (BitVec.isLt _), BitVec.toNat_xor, bv32 ha, bv32 hb]

def lowB (m : Nat) : Nat := m &&& (4294967296 - m)
def nx (m : Nat) : Nat := (m + lowB m) ||| (((m ^^^ (m + lowB m)) / lowB m) / 4)
theorem nx_lt : ∀ m, m < 256 → m ≠ 0 → nx m < 1024 ∧ nx m ≠ 0 ∧ lowB m ≠ 0 := by decide +kernel
theorem next_ok {m : Nat} (hm : m < 256) (h0 : m ≠ 0) : EP (EE env) 31 [.int .u32 (m : Int)] = some (.int .u32 (nx m : Int)) := by
  obtain ⟨g1, g2, g3⟩ := nx_lt m hm h0
  have hl : lowB m ≤ m := Nat.and_le_left
  have hx : m ^^^ (m + lowB m) < 1024 := Nat.xor_lt_two_pow (n := 10) (by omega) (by omega)
  have hd : (m ^^^ (m + lowB m)) / lowB m ≤ m ^^^ (m + lowB m) := Nat.div_le_self _ _
  refine Has.eq (EP_has ?_)
  refine eqK_has_eq ((4294967296 - m : Nat) : Int) (by
    unfold IntKind.wrap; simp only [IntKind.bits, IntKind.signed, Bool.false_and]
    simp; omega) ?_
  refine eqK_has_eq ((lowB m : Nat) : Int) (n32_and (by omega) (by omega)) ?_
  refine eqK_has_eq ((m + lowB m : Nat) : Int) (u32_nat (n := m + lowB m) (by omega)) ?_
  refine eqK_has_eq _ (n32_xor (by omega) (by omega)) ?_
  refine needK_has (by simp; omega) ?_
  refine eqK_has_eq (((m ^^^ (m + lowB m)) / lowB m : Nat) : Int) (u32_nat (n := (m ^^^ (m + lowB m)) / lowB m) (by omega)) ?_
  refine needK_has rfl ?_
  refine eqK_has_eq (((m ^^^ (m + lowB m)) / lowB m / 4 : Nat) : Int) (by
    have e : (2 : Int) ^ (min (2 : Int).toNat IntKind.u32.bits) = 4 := rfl
    rw [e, Int.fdiv_eq_ediv_of_nonneg _ (by decide)]; simp) ?_
  refine eqK_has_eq ((nx m : Nat) : Int) (n32_or (by omega) (by omega)) ?_
  exact Has.intro (Has.intro rfl)

/-- Masks with as many nodes, from one on. -/
def inner (n : Nat) : Nat → Nat → List Nat
  | _, 0 => []
  | m, f + 1 => if m < 2 ^ n then m :: inner n (nx m) f else []
def closed (n : Nat) : Nat → Nat → Bool
  | _, 0 => false
  | m, f + 1 => if m < 2 ^ n then closed n (nx m) f else true
def allOf (n : Nat) : Nat → Nat → List Nat
  | _, 0 => []
  | c, f + 1 => if c ≤ n then inner n (2 ^ c - 1) 256 ++ allOf n (c + 1) f else []
/-- All masks of the first n nodes. -/
def msq (n : Nat) : List Nat := allOf n 1 9
theorem closed_all : ∀ n, n < 9 → ∀ c, c < 9 → 1 ≤ c → c ≤ n → closed n (2 ^ c - 1) 256 = true := by decide +kernel
theorem msq_len : ∀ n, n < 9 → (msq n).length = 2 ^ n - 1 := by decide +kernel

theorem shl1_32 {c : Nat} (h : c ≤ 8) : IntKind.u32.wrap (1 * 2 ^ (min ((c : Nat) : Int).toNat IntKind.u32.bits)) = ((2 ^ c : Nat) : Int) := by
  have e : min ((c : Nat) : Int).toNat IntKind.u32.bits = c := by show min c 32 = c; omega
  rw [e, Int.one_mul]
  have : ((2 : Int) ^ c) = ((2 ^ c : Nat) : Int) := by simp
  rw [this]
  have h2 : 2 ^ c ≤ 2 ^ 8 := Nat.pow_le_pow_right (by decide) h
  exact u32_nat (by omega)

theorem masks_iter (y c : Nat) (n : Nat) (hn : n ≤ 8) (P : Nat → Heap → Prop) (S : Heap → Prop) (hc : ∀ i H, P i H → hget H c = .pcells [.int .i64 (n : Int)])
    (hy : ∀ i H x, P i H → (msq n)[i]? = some x → Has (EE env (.yield y) [.pv (.int .i64 (x : Int))] H) (fun r => (r.1 = .pv (.bool true) ∧ P (i + 1) r.2) ∨ (r.1 = .pv (.bool false) ∧ S r.2)))
    (H : Heap) (h0 : P 0 H) :
    Has (EE env (.fn 30) [.yield y, .ptr c 0] H) (fun r => P (msq n).length r.2 ∨ S r.2) := by
  have hpn : 2 ^ n ≤ 2 ^ 8 := Nat.pow_le_pow_right (by decide) hn
  refine EE_has ?_
  refine loopK_has ?_
  refine iterE_loop (σ := Nat × Nat × Heap) (fun s => 10 - s.1) (fun s => [(0, .yield y), (1, .ptr c 0), (3, .pv (.int .i64 ((s.1 : Nat) : Int)))]) (fun s => s.2.2)
    (fun s => P s.2.1 s.2.2 ∧ 1 ≤ s.1 ∧ s.1 ≤ 9 ∧ s.2.1 ≤ (msq n).length ∧ (msq n).drop s.2.1 = allOf n s.1 (10 - s.1)) (fun ⟨k, i, J⟩ ⟨hP, hk1, hk9, hil, hd⟩ r => ?_) (1, 0, H) ⟨h0, Nat.le_refl _, by simp only; omega, Nat.zero_le _, rfl⟩ ⟨rfl, rfl, rfl, trivial⟩ rfl
  dsimp only at hP hk1 hk9 hil hd
  refine hgetK_has _ (hc i J hP) ?_
  refine getK_has rfl ?_
  refine boolK_dec (fun h => ?_) (fun h => ?_)
  · have hkn : k ≤ n := by
      have h' : ((k : Nat) : Int) ≤ ((n : Nat) : Int) := h
      omega
    have hpk : 2 ^ k ≤ 2 ^ 8 := Nat.pow_le_pow_right (by decide) (by omega)
    have hpk2 : 2 ^ 1 ≤ 2 ^ k := Nat.pow_le_pow_right (by decide) hk1
    refine needK_has (by simp) ?_
    refine eqK_has_eq _ (shl1_32 (by omega)) ?_
    refine eqK_has_eq ((2 ^ k - 1 : Nat) : Int) (by rw [show ((2 ^ k : Nat) : Int) - 1 = ((2 ^ k - 1 : Nat) : Int) by omega]; exact u32_nat (by omega)) ?_
    refine loopK_has ?_
    have hf : 10 - k = (9 - k) + 1 := by omega
    rw [hf] at hd
    have hd' : (msq n).drop i = inner n (2 ^ k - 1) 256 ++ allOf n (k + 1) (9 - k) := by rw [hd, allOf, if_pos hkn]
    refine iterE_loop (σ := Nat × Nat × Nat × Heap) (fun s => s.2.1) (fun s => [(0, .yield y), (1, .ptr c 0), (3, .pv (.int .i64 ((k : Nat) : Int))), (4, .pv (.int .u32 ((s.1 : Nat) : Int)))]) (fun s => s.2.2.2)
      (fun s => P s.2.2.1 s.2.2.2 ∧ s.1 < 1024 ∧ s.1 ≠ 0 ∧ closed n s.1 s.2.1 = true ∧ s.2.2.1 ≤ (msq n).length ∧ (msq n).drop s.2.2.1 = inner n s.1 s.2.1 ++ allOf n (k + 1) (9 - k)) (fun ⟨m, f, j, G⟩ ⟨hP', hm, hm0, hcl, hjl, hdj⟩ r2 => ?_)
      (2 ^ k - 1, 256, i, J) ⟨hP, by simp only; omega, by simp only; omega, closed_all n (by omega) k (by omega) hk1 hkn, hil, hd'⟩ ⟨rfl, rfl, rfl, rfl, trivial⟩ rfl
    dsimp only at hP' hm hm0 hcl hjl hdj
    refine hgetK_has _ (hc j G hP') ?_
    refine getK_has rfl ?_
    refine needK_has (by simp) ?_
    refine eqK_has_eq _ (shl1_32 hn) ?_
    refine boolK_dec (fun hlt => ?_) (fun hlt => ?_)
    · have hmn : m < 2 ^ n := by
        have h' : ((m : Nat) : Int) < ((2 ^ n : Nat) : Int) := hlt
        omega
      cases f with
      | zero => cases hcl
      | succ f =>
        unfold closed at hcl
        rw [if_pos hmn] at hcl
        unfold inner at hdj
        rw [if_pos hmn] at hdj
        have hx : (msq n)[j]? = some m := by
          have : ((msq n).drop j)[0]? = some m := by rw [hdj]; rfl
          rwa [List.getElem?_drop, Nat.add_zero] at this
        have hm256 : m < 256 := by omega
        obtain ⟨g1, g2, _⟩ := nx_lt m hm256 hm0
        refine eqK_has_eq ((m : Nat) : Int) (i64_small (by omega)) ?_
        refine callSK_has' ((hy j G m hP' hx).mono fun r' hr => ?_)
        obtain ⟨w, G'⟩ := r'
        dsimp only at hr ⊢
        rcases hr with ⟨rfl, hp⟩ | ⟨rfl, hS⟩
        · refine callPK_has (next_ok hm256 hm0) ?_
          refine Has.intro ⟨(nx m, f, j + 1, G'), ⟨hp, g1, g2, hcl, (List.getElem?_eq_some_iff.1 hx).1, ?_⟩, by simp only; omega, ⟨rfl, rfl, rfl, rfl, trivial⟩, rfl⟩
          simp only
          rw [← List.drop_drop, hdj]; rfl
        · exact Has.intro (Has.intro (Has.intro (.inr hS)))
    · have hmn : ¬ m < 2 ^ n := by
        intro h'
        apply hlt
        show ((m : Nat) : Int) < ((2 ^ n : Nat) : Int)
        omega
      have hin : inner n m f = [] := by
        cases f with
        | zero => rfl
        | succ f => unfold inner; rw [if_neg hmn]
      rw [hin, List.nil_append] at hdj
      refine Has.intro ?_
      refine eqK_has_eq _ (i64_succ (by omega)) ?_
      refine Has.intro ⟨(k + 1, j, G), ⟨hP', by simp only; omega, by simp only; omega, hjl, ?_⟩, by simp only; omega, ⟨rfl, rfl, rfl, trivial⟩, rfl⟩
      simp only
      rw [hdj, show 10 - (k + 1) = 9 - k by omega]
  · have hkn : ¬ k ≤ n := by
      intro h'
      apply h
      show ((k : Nat) : Int) ≤ ((n : Nat) : Int)
      omega
    refine Has.intro (Has.intro (.inl ?_))
    have hz : allOf n k (10 - k) = [] := by
      rw [show 10 - k = (9 - k) + 1 by omega, allOf, if_neg hkn]
    rw [hz] at hd
    have := congrArg List.length hd
    rw [List.length_drop, List.length_nil] at this
    have he : i = (msq n).length := by omega
    subst he
    exact hP

def clampN (n : Int) : Nat := (max 0 (min n 8)).toNat
theorem clampN_le (n : Int) : clampN n ≤ 8 := by unfold clampN; omega
end Go.Proofs.Ytdbobcbjgacjpaa
