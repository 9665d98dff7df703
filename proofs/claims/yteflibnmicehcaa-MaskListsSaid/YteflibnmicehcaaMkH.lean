/-
  MaskTells in the abstract machine.
-/
import Derived.Test.YteflibnmicehcaaMkG
set_option linter.all false
set_option linter.unusedVariables false
set_option linter.unusedSimpArgs false
set_option linter.unusedSectionVars false
namespace Go.Proofs.Yteflibnmicehcaa
open Go Go.VM

/-! ### the document's text -/
def rt (l : List Nat) : List UInt8 := (l.map fun x => [44, UInt8.ofNat (48 + x)]).flatten
theorem rt_succ {l : List Nat} {i x : Nat} (h : l[i]? = some x) : rt (l.take (i + 1)) = rt (l.take i) ++ [44, UInt8.ofNat (48 + x)] := by
  unfold rt; rw [List.take_add_one, h]; simp
theorem rt_len (l : List Nat) : (rt l).length = 2 * l.length := by
  induction l with
  | nil => rfl
  | cons a l ih =>
    have : rt (a :: l) = [44, UInt8.ofNat (48 + a)] ++ rt l := rfl
    rw [this, List.length_append, ih]; simp; omega
theorem text_same : ∀ u, u < 256 → textOf u = if rt (nds u) = [] then [45] else (rt (nds u)).drop 1 := by decide +kernel
theorem rtext_ok (m : Int) : EP (EE env) 25 [.int .i64 m] = some (sv (textOf (m8 m))) := by
  have hm := m8_lt m
  have hcnt := cnt_le _ hm
  have hcl : cnt (m8 m) = (nds (m8 m)).length := rfl
  obtain ⟨x, hx⟩ := slv_sl (nl (nds (m8 m)))
  rw [nl_len] at hx
  refine Has.eq (EP_has ?_)
  refine callPK_has (rof_ok m) ?_
  refine callPK_has (rnodes_ok.trans (by rw [hx])) ?_
  refine loopK_has ?_
  refine iterE_up (nds (m8 m)).length (fun i => [(3, .pv (sv (rt ((nds (m8 m)).take i)))), (8, .pv (.sl x (nds (m8 m)).length (ints (nl (nds (m8 m)))))), (9, .pv (.int .i64 (nds (m8 m)).length)), (10, .pv (.int .i64 i))]) (fun _ => []) (fun i hi r => ?_) (fun r => ?_) ⟨rfl, rfl, rfl, rfl, trivial⟩ rfl
  · obtain ⟨v, hv⟩ : ∃ v, (nds (m8 m))[i]? = some v := ⟨_, List.getElem?_eq_getElem hi⟩
    have hv8 := nds_small hv
    have hl := rt_len ((nds (m8 m)).take i)
    rw [List.length_take] at hl
    refine boolK_dec_t (by omega) ?_
    refine needK_has (by simp; omega) ?_
    refine getK_has (ints_get (nl_get hv)) ?_
    refine eqK_has_eq ((48 + v : Nat) : Int) (i64_small (n := 48 + v) (by omega)) ?_
    refine eqK_has_eq ((48 + v : Nat) : Int) (u8_nat (n := 48 + v) (by omega)) ?_
    refine needK_has rfl ?_
    refine bindK_has (v := [UInt8.ofNat (48 + v)]) rfl ?_
    refine needK_has (decide_eq_true (by rw [sv_size]; show 1 + 1 ≤ _; decide)) ?_
    refine eqK_has_eq _ (sv_app [44] [UInt8.ofNat (48 + v)]) ?_
    refine needK_has (decide_eq_true (by rw [sv_size, sv_size]; simp; omega)) ?_
    refine eqK_has_eq (⟨(rt ((nds (m8 m)).take (i + 1))).toArray⟩ : ByteArray) (by rw [sv_app, rt_succ hv]; rfl) ?_
    refine eqK_has_eq _ (i64_succ (by omega)) ?_
    exact Has.intro ⟨⟨rfl, rfl, rfl, rfl, trivial⟩, rfl⟩
  · refine boolK_dec_f (by omega) ?_
    refine Has.intro ?_
    rw [List.take_length, text_same _ hm]
    refine boolK_seq (b := []) (fun h => ?_) (fun h => ?_)
    · rw [if_pos h]
      exact Has.intro (Has.intro rfl)
    · rw [if_neg h]
      have hl : 1 ≤ (rt (nds (m8 m))).length := by
        cases hr : rt (nds (m8 m)) with
        | nil => exact absurd hr h
        | cons a l => simp
      refine needK_has (by rw [sv_size]; simp; omega) ?_
      refine eqK_has_eq (⟨((rt (nds (m8 m))).drop 1).toArray⟩ : ByteArray) (by
        rw [sv_extract, sv_size, List.take_length]; rfl) ?_
      exact Has.intro (Has.intro rfl)

/-! ### sets with a node, and without it -/
theorem tb_in : ∀ u, u < 256 → ∀ k, k < 8 → ∀ j, j < 8 → (u ||| 2 ^ k).testBit j = if j = k then true else u.testBit j := by decide +kernel
theorem tb_out : ∀ u, u < 256 → ∀ k, k < 8 → ∀ j, j < 8 → (u &&& (255 - 2 ^ k)).testBit j = if j = k then false else u.testBit j := by decide +kernel
theorem tb_has : ∀ u, u < 256 → ∀ k, k < 8 → (u &&& 2 ^ k ≠ 0 ↔ u.testBit k = true) := by decide +kernel
theorem bset_in {u k : Nat} (hu : u < 256) (hk : k < 8) : (bset u).set k (.bool true) = bset (u ||| 2 ^ k) := by
  refine tab_set_eq (i := k) ?_ fun j hj hne => ?_
  · show PV.bool ((u ||| 2 ^ k).testBit k) = _
    rw [tb_in u hu k hk k hk, if_pos rfl]
  · show PV.bool (u.testBit j) = .bool ((u ||| 2 ^ k).testBit j)
    rw [tb_in u hu k hk j hj, if_neg hne]
theorem bset_out {u k : Nat} (hu : u < 256) (hk : k < 8) : (bset u).set k (.bool false) = bset (u &&& (255 - 2 ^ k)) := by
  refine tab_set_eq (i := k) ?_ fun j hj hne => ?_
  · show PV.bool ((u &&& (255 - 2 ^ k)).testBit k) = _
    rw [tb_out u hu k hk k hk, if_pos rfl]
  · show PV.bool (u.testBit j) = .bool ((u &&& (255 - 2 ^ k)).testBit j)
    rw [tb_out u hu k hk j hj, if_neg hne]
/-- Are the first i nodes of one set in the other? -/
def undB (u v : Nat) : Nat → Bool
  | 0 => true
  | i + 1 => undB u v i && (!u.testBit i || v.testBit i)
theorem undB_iff (u v : Nat) (i : Nat) : undB u v i = true ↔ ∀ j, j < i → u.testBit j = true → v.testBit j = true := by
  induction i with
  | zero => exact ⟨fun _ j hj => by omega, fun _ => rfl⟩
  | succ i ih =>
    unfold undB
    rw [Bool.and_eq_true, ih]
    constructor
    · intro ⟨h1, h2⟩ j hj hb
      by_cases e : j = i
      · subst e; rw [hb] at h2; simpa using h2
      · exact h1 j (by omega) hb
    · intro h
      refine ⟨fun j hj => h j (by omega), ?_⟩
      cases hb : u.testBit i with
      | false => rfl
      | true => rw [h i (by omega) hb]; rfl
theorem under_iff {u v : Nat} (hu : u < 256) (hv : v < 256) : undB u v 8 = decide (u &&& (255 - v) = 0) := by
  rw [Bool.eq_iff_iff, undB_iff, decide_eq_true_iff]
  have hc : ∀ j, (255 - v).testBit j = (decide (j < 8) && !v.testBit j) := fun j => by
    have := Nat.testBit_two_pow_sub_succ (n := 8) (x := v) (by omega) j
    rw [← this]
    congr 1
    show 255 - v = 256 - (v + 1)
    omega
  constructor
  · intro h
    apply Nat.eq_of_testBit_eq
    intro j
    rw [Nat.testBit_and, hc, Nat.zero_testBit]
    by_cases hj : j < 8
    · cases hb : u.testBit j with
      | false => rfl
      | true => rw [h j hj hb]; simp
    · simp [hj]
  · intro h j hj hb
    have := congrArg (fun n => n.testBit j) h
    simp only [Nat.testBit_and, hc, Nat.zero_testBit, hb, Bool.true_and, decide_eq_true hj] at this
    simpa using this
end Go.Proofs.Yteflibnmicehcaa
