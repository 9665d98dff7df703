/-
  The document's products and multiples of numbers with signs; CheckedSums in the abstract machine.
-/
import Derived.Test.YtilfmfnngkangaaChK
set_option linter.all false
set_option linter.unusedVariables false
set_option linter.unusedSimpArgs false
set_option linter.unusedSectionVars false
namespace Go.Proofs.Ytilfmfnngkangaa
open Go Go.VM

theorem stimes_ok (m k : Bool) (a b : Nat) (ha : a < 65536 ^ 8) (hb : b < 65536 ^ 8) : EP (EE env) 16 [.agg (sg m a), .agg (sg k b)] = some (.agg (sg (!(m == k)) (a * b))) := by
  refine Has.eq (EP_has ?_)
  refine hgetK_has _ rfl ?_
  refine getK_has (v := .bool m) rfl ?_
  refine hgetK_has _ rfl ?_
  refine getK_has (v := .bool k) rfl ?_
  refine boolK_has_keep ?_
  refine hgetK_has _ rfl ?_
  refine secK_has (v := dc a) (sg_tail m a) (by rw [sg_len]; exact Nat.le_refl _) ?_
  refine hgetK_has _ rfl ?_
  refine secK_has (v := dc b) (sg_tail k b) (by rw [sg_len]; exact Nat.le_refl _) ?_
  refine callPK_has (mul_ok a b ha hb) ?_
  refine hgetK_has _ rfl ?_
  refine needK_has rfl ?_
  refine eqK_has_eq (sg (!(m == k)) (a * b)) rfl ?_
  refine hgetK_has _ rfl ?_
  refine secK_has (v := sg (!(m == k)) (a * b)) (sg_all _ _).1 (sg_all _ _).2 ?_
  exact Has.intro (Has.intro rfl)
theorem sneg_ok (m : Bool) (a : Nat) : EP (EE env) 14 [.agg (sg m a)] = some (.agg (sg (!m) a)) := by
  refine Has.eq (EP_has ?_)
  refine hgetK_has _ rfl ?_
  refine getK_has (v := .bool m) rfl ?_
  refine hgetK_has _ rfl ?_
  refine secK_has (v := dc a) (sg_tail m a) (by rw [sg_len]; exact Nat.le_refl _) ?_
  refine hgetK_has _ rfl ?_
  refine needK_has rfl ?_
  refine eqK_has_eq (sg (!m) a) rfl ?_
  refine hgetK_has _ rfl ?_
  refine secK_has (v := sg (!m) a) (sg_all _ _).1 (sg_all _ _).2 ?_
  exact Has.intro (Has.intro rfl)

/-- The document's multiple. -/
def supS (n u : Int) : Bool × Nat := if n.natAbs % u.natAbs = 0 then (decide (n < 0), n.natAbs) else if n < 0 then (true, n.natAbs - n.natAbs % u.natAbs) else (false, n.natAbs + u.natAbs - n.natAbs % u.natAbs)
theorem supS_val {n u : Int} (hu : 0 < u) : sval (supS n u).1 (supS n u).2 = upTo n u := by
  have hn : n.tmod u = if n < 0 then -((n.natAbs % u.natAbs : Nat) : Int) else ((n.natAbs % u.natAbs : Nat) : Int) := by
    have hu' : u = (u.natAbs : Int) := by omega
    split
    · rename_i h
      have : n = -(n.natAbs : Int) := by omega
      rw [this, hu', Int.neg_tmod]
      simp only [Int.natAbs_neg, Int.natAbs_natCast]
      rfl
    · rename_i h
      have : n = (n.natAbs : Int) := by omega
      rw [this, hu']
      simp only [Int.natAbs_natCast]
      rfl
  have hlt : n.natAbs % u.natAbs < u.natAbs := Nat.mod_lt _ (by omega)
  have hle : n.natAbs % u.natAbs ≤ n.natAbs := Nat.mod_le _ _
  unfold supS upTo
  rw [hn]
  generalize n.natAbs % u.natAbs = R at *
  unfold sval
  by_cases h0 : R = 0
  · rw [if_pos h0]
    subst h0
    by_cases h : n < 0
    · simp [h]; omega
    · simp [h]; omega
  · rw [if_neg h0]
    by_cases h : n < 0
    · simp only [h, if_true]
      rw [if_neg (by omega), if_pos (by omega)]; omega
    · simp only [h, if_false, Bool.false_eq_true]
      rw [if_neg (by omega)]; omega

theorem sup_ok {n u : Int} (hn : fit n = true) (hu : fit u = true) (h1 : 0 < u) : EP (EE env) 18 [.int .i64 n, .int .i64 u] = some (.agg (sg (supS n u).1 (supS n u).2)) := by
  have fn := fit_true hn
  have fu := fit_true hu
  have p8 : (18446744073709551616 : Nat) < 65536 ^ 8 := by decide
  have p20 : (18446744073709551616 : Nat) < 65536 ^ 20 := by decide
  have hsu : decide (u < 0) = false := decide_eq_false (by omega)
  refine Has.eq (EP_has ?_)
  refine callPK_has (sof_ok hn) ?_
  refine hgetK_has _ rfl ?_
  refine needK_has rfl ?_
  refine eqK_has_eq (sg (decide (n < 0)) n.natAbs) rfl ?_
  refine hgetK_has _ rfl ?_
  refine secK_has (v := dc n.natAbs) (sg_tail _ _) (by rw [sg_len]; exact Nat.le_refl _) ?_
  refine callPK_has (sof_ok hu) ?_
  refine secK_has (v := dc u.natAbs) (sg_tail _ _) (by rw [sg_len]; exact Nat.le_refl _) ?_
  refine callPK_has (by_ok n.natAbs u.natAbs (by omega) (by omega) (by omega)) ?_
  refine hgetK_has _ rfl ?_
  refine needK_has rfl ?_
  refine eqK_has_eq (dc (n.natAbs / u.natAbs)) rfl ?_
  refine hgetK_has _ rfl ?_
  refine needK_has rfl ?_
  refine eqK_has_eq (dc (n.natAbs % u.natAbs)) rfl ?_
  refine hgetK_has _ rfl ?_
  refine secK_has (v := dc (n.natAbs % u.natAbs)) (tab_sec _).1 (tab_sec _).2 ?_
  have hR : n.natAbs % u.natAbs ≤ n.natAbs := Nat.mod_le _ _
  refine bindK_has (v := decide (n.natAbs % u.natAbs = 0)) (dc_eq (b := 0) (by omega) (by decide)) ?_
  refine boolK_has (fun h => ?_) (fun h => ?_)
  · have h' := of_decide_eq_true h
    refine hgetK_has _ rfl ?_
    refine secK_has (v := sg (decide (n < 0)) n.natAbs) (sg_all _ _).1 (sg_all _ _).2 ?_
    refine hgetK_has _ rfl ?_
    refine needK_has rfl ?_
    refine eqK_has_eq (sg (decide (n < 0)) n.natAbs) rfl ?_
    refine hgetK_has _ rfl ?_
    refine secK_has (v := sg (decide (n < 0)) n.natAbs) (sg_all _ _).1 (sg_all _ _).2 ?_
    refine Has.intro (Has.intro ?_)
    unfold supS; rw [if_pos h']
  · have h' := of_decide_eq_false h
    refine hgetK_has _ rfl ?_
    cases hs : decide (n < 0) with
    | true =>
      refine getK_has (v := .bool true) rfl ?_
      refine hgetK_has _ rfl ?_
      refine secK_has (v := dc n.natAbs) (sg_tail _ _) (by rw [sg_len]; exact Nat.le_refl _) ?_
      refine hgetK_has _ rfl ?_
      refine secK_has (v := dc (n.natAbs % u.natAbs)) (tab_sec _).1 (tab_sec _).2 ?_
      refine callPK_has (minus_ok _ _ hR) ?_
      refine hgetK_has _ rfl ?_
      refine needK_has rfl ?_
      refine eqK_has_eq (sg true (n.natAbs - n.natAbs % u.natAbs)) rfl ?_
      refine hgetK_has _ rfl ?_
      refine secK_has (v := sg true (n.natAbs - n.natAbs % u.natAbs)) (sg_all _ _).1 (sg_all _ _).2 ?_
      refine Has.intro (Has.intro ?_)
      unfold supS; rw [if_neg h', if_pos (of_decide_eq_true hs)]
    | false =>
      refine getK_has (v := .bool false) rfl ?_
      refine hgetK_has _ rfl ?_
      refine secK_has (v := dc n.natAbs) (sg_tail _ _) (by rw [sg_len]; exact Nat.le_refl _) ?_
      refine callPK_has (sof_ok hu) ?_
      refine secK_has (v := dc u.natAbs) (sg_tail _ _) (by rw [sg_len]; exact Nat.le_refl _) ?_
      refine callPK_has (plus_ok _ _) ?_
      refine hgetK_has _ rfl ?_
      refine secK_has (v := dc (n.natAbs % u.natAbs)) (tab_sec _).1 (tab_sec _).2 ?_
      refine callPK_has (minus_ok _ _ (by omega)) ?_
      refine hgetK_has _ rfl ?_
      refine needK_has rfl ?_
      refine eqK_has_eq (sg false (n.natAbs + u.natAbs - n.natAbs % u.natAbs)) rfl ?_
      refine hgetK_has _ rfl ?_
      refine secK_has (v := sg false (n.natAbs + u.natAbs - n.natAbs % u.natAbs)) (sg_all _ _).1 (sg_all _ _).2 ?_
      refine Has.intro (Has.intro ?_)
      unfold supS; rw [if_neg h', if_neg (of_decide_eq_false hs)]

theorem told_shape (n : Int) : ∃ v b, told n = .tup [.int .i64 v, .bool b] := ⟨_, _, rfl⟩
theorem stimes_val (a b : Int) (ha : a ≠ 0 ∨ True) : sval (!(decide (a < 0) == decide (b < 0))) (a.natAbs * b.natAbs) = a * b := by
  by_cases h0 : a = 0
  · subst h0; unfold sval; simp
  · by_cases h1 : b = 0
    · subst h1; unfold sval; simp
    · rw [mul_abs a b h0 h1]
      unfold sval
      rfl

theorem sums_ok (ps : List PV) (h : HasArgs [.int .i64, .int .i64] ps) : ∃ H', EE env (.fn 4) (ps.map .pv) [] = some (.pv (.bool true), H') := by
  obtain ⟨p1, _, rfl, h1, p2, _, rfl, h2, rfl⟩ := h
  obtain ⟨a, rfl, ha, ha'⟩ := arg_i64 h1
  obtain ⟨b, rfl, hb, hb'⟩ := arg_i64 h2
  clear h1 h2
  have fa : fit a = true := by rw [fit_iff]; omega
  have fb : fit b = true := by rw [fit_iff]; omega
  have p8 : (18446744073709551616 : Nat) < 65536 ^ 8 := by decide
  have p20 : (65536 ^ 8 * 65536 ^ 8 : Nat) ≤ 65536 ^ 20 := by decide
  suffices H : Has (EE env (.fn 4) ([PV.int .i64 a, .int .i64 b].map .pv) []) (fun x => x.1 = .pv (.bool true)) by
    obtain ⟨⟨v, H'⟩, g1, g2⟩ := H
    exact ⟨H', by rw [g1]; simp only at g2; rw [g2]⟩
  have hprod : a.natAbs * b.natAbs < 65536 ^ 20 := by
    have : a.natAbs * b.natAbs ≤ 9223372036854775808 * 9223372036854775808 := Nat.mul_le_mul (by omega) (by omega)
    have : (9223372036854775808 * 9223372036854775808 : Nat) < 65536 ^ 20 := by decide
    omega
  have hminus : EP (EE env) 11 [.agg (sg (splus (decide (a < 0)) a.natAbs (!decide (b < 0)) b.natAbs).1 (splus (decide (a < 0)) a.natAbs (!decide (b < 0)) b.natAbs).2)] = some (told (a - b)) := by
    have hv : sval (!decide (b < 0)) b.natAbs = -b := by
      unfold sval
      by_cases h : b < 0
      · simp [h]; omega
      · simp [h]; omega
    have hp : (18446744073709551617 : Nat) < 65536 ^ 20 := by decide
    rw [sint_ok _ _ (splus_lt (by omega)), splus_val, sval_abs, hv]
    rfl
  have htimes : EP (EE env) 11 [.agg (sg (!(decide (a < 0) == decide (b < 0))) (a.natAbs * b.natAbs))] = some (told (a * b)) := by
    rw [sint_ok _ _ hprod, stimes_val a b (.inr trivial)]
  obtain ⟨v1, b1, e1⟩ := told_shape (a + b)
  obtain ⟨v2, b2, e2⟩ := told_shape (a - b)
  obtain ⟨v3, b3, e3⟩ := told_shape (a * b)
  obtain ⟨v4, b4, e4⟩ := told_shape (upTo a b)
  refine EE_has ?_
  refine callPK_has first_ok ?_
  refine callPK_has (sof_ok fa) ?_
  refine callPK_has (sof_ok fb) ?_
  refine hgetK_has _ rfl ?_
  refine needK_has rfl ?_
  refine eqK_has_eq (sg (decide (a < 0)) a.natAbs) rfl ?_
  refine hgetK_has _ rfl ?_
  refine needK_has rfl ?_
  refine eqK_has_eq (sg (decide (b < 0)) b.natAbs) rfl ?_
  refine callPK_has ((add_ok fa fb).trans (congrArg some e1)) ?_
  refine hgetK_has _ rfl ?_
  refine secK_has (v := sg (decide (a < 0)) a.natAbs) (sg_all _ _).1 (sg_all _ _).2 ?_
  refine hgetK_has _ rfl ?_
  refine secK_has (v := sg (decide (b < 0)) b.natAbs) (sg_all _ _).1 (sg_all _ _).2 ?_
  refine callPK_has (splus_ok _ _ _ _ (big a fa) (big b fb)) ?_
  refine callPK_has ((ref_plus fa fb).trans (congrArg some e1)) ?_
  refine callPK_has ((sub_ok fa fb).trans (congrArg some e2)) ?_
  refine hgetK_has _ rfl ?_
  refine secK_has (v := sg (decide (a < 0)) a.natAbs) (sg_all _ _).1 (sg_all _ _).2 ?_
  refine hgetK_has _ rfl ?_
  refine secK_has (v := sg (decide (b < 0)) b.natAbs) (sg_all _ _).1 (sg_all _ _).2 ?_
  refine callPK_has (sneg_ok _ _) ?_
  refine callPK_has (splus_ok _ _ _ _ (big a fa) (big b fb)) ?_
  refine callPK_has (hminus.trans (congrArg some e2)) ?_
  refine callPK_has ((times_ok fa fb).trans (congrArg some e3)) ?_
  refine hgetK_has _ rfl ?_
  refine secK_has (v := sg (decide (a < 0)) a.natAbs) (sg_all _ _).1 (sg_all _ _).2 ?_
  refine hgetK_has _ rfl ?_
  refine secK_has (v := sg (decide (b < 0)) b.natAbs) (sg_all _ _).1 (sg_all _ _).2 ?_
  refine callPK_has (stimes_ok _ _ _ _ (by omega) (by omega)) ?_
  refine callPK_has (htimes.trans (congrArg some e3)) ?_
  by_cases hb0 : b < 1
  · refine callPK_has ((up_ok fa fb).trans (congrArg some (if_pos hb0))) ?_
    refine boolK_has_false (decide_eq_false (by omega)) ?_
    refine boolK_has_true (by simp) ?_
    refine boolK_has_true (by simp) ?_
    refine boolK_has_true (by simp) ?_
    refine boolK_has_true (by simp) ?_
    refine boolK_has_true (by simp) ?_
    refine boolK_has_true (by simp) ?_
    refine boolK_has_true (by simp) ?_
    refine boolK_has_true (by simp) ?_
    exact Has.intro rfl
  · have hsup : EP (EE env) 11 [.agg (sg (supS a b).1 (supS a b).2)] = some (told (upTo a b)) := by
      have hl : (supS a b).2 < 65536 ^ 20 := by
        have hp : (18446744073709551617 : Nat) < 65536 ^ 20 := by decide
        unfold supS
        split
        · show a.natAbs < _; omega
        · split
          · show a.natAbs - _ < _; omega
          · show a.natAbs + b.natAbs - _ < _; omega
      rw [sint_ok _ _ hl, supS_val (by omega)]
    refine callPK_has (((up_ok fa fb).trans (congrArg some (if_neg hb0))).trans (congrArg some e4)) ?_
    refine boolK_has_true (decide_eq_true (by omega)) ?_
    refine callPK_has (sup_ok fa fb (by omega)) ?_
    refine callPK_has (hsup.trans (congrArg some e4)) ?_
    refine boolK_has_true (by simp) ?_
    refine boolK_has_true (by simp) ?_
    refine boolK_has_true (by simp) ?_
    refine boolK_has_true (by simp) ?_
    refine boolK_has_true (by simp) ?_
    refine boolK_has_true (by simp) ?_
    refine boolK_has_true (by simp) ?_
    refine boolK_has_true (by simp) ?_
    exact Has.intro rfl
end Go.Proofs.Ytilfmfnngkangaa
