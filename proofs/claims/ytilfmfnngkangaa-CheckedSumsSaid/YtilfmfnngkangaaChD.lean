/-
  What must be answered ahead of everything else; CheckedBack and CheckedNarrows in the abstract machine.
-/
import Derived.Test.YtilfmfnngkangaaChC
set_option linter.all false
set_option linter.unusedVariables false
set_option linter.unusedSimpArgs false
set_option linter.unusedSectionVars false
namespace Go.Proofs.Ytilfmfnngkangaa
open Go Go.VM

theorem first_ok : EP (EE env) 7 [] = some (.bool true) := by
  have h1 : EP (EE env) 12 [.int .i64 4611686018427387904, .int .i64 4611686018427387904] = some (.tup [.int .i64 0, .bool false]) := add_ok (by decide) (by decide)
  have h2 : EP (EE env) 15 [.int .i64 (-4611686018427387904), .int .i64 2] = some (.tup [.int .i64 (-9223372036854775808), .bool true]) := times_ok (by decide) (by decide)
  have h3 : EP (EE env) 17 [.int .i64 5, .int .i64 4] = some (.tup [.int .i64 8, .bool true]) := up_ok (by decide) (by decide)
  have h4 : EP (EE env) 21 [.int .i64 256] = some (.tup [.int .u8 0, .bool false]) := byte_ok 256
  have h5 : ∀ x, EP (EE env) 8 [.sl x 3 [.int .i64 1, .int .i64 2, .int .i64 3]] = some (.tup [.int .i64 6, .bool true]) := fun x => sum_ok x [1, 2, 3] (by decide) (by decide)
  have h6 : EP (EE env) 20 [.int .i64 (-1)] = some (.int .u64 1) := zig_ok (n := -1) (by decide)
  have h7 : EP (EE env) 19 [.int .u64 1] = some (.int .i64 (-1)) := zag_ok (u := 1) (by decide) (by decide)
  have h8 : EP (EE env) 24 [.int .i64 9, .int .i64 1, .int .i64 5] = some (.int .i64 5) := held_ok 9 1 5
  refine Has.eq (EP_has ?_)
  refine callPK_has h1 ?_
  refine callPK_has h2 ?_
  refine callPK_has h3 ?_
  refine callPK_has h4 ?_
  refine callPK_has (h5 _) ?_
  refine boolK_has_true rfl ?_
  refine boolK_has_true rfl ?_
  refine boolK_has_true rfl ?_
  refine boolK_has_true rfl ?_
  refine boolK_has_true rfl ?_
  refine callPK_has h6 ?_
  refine boolK_has_true rfl ?_
  refine callPK_has h7 ?_
  refine boolK_has_true rfl ?_
  refine callPK_has h8 ?_
  refine boolK_has_true rfl ?_
  exact Has.intro (Has.intro rfl)

theorem told_eq {n : Int} (h : fit n = true) : told n = .tup [.int .i64 n, .bool true] := by unfold told; rw [h]; rfl
theorem told_no {n : Int} (h : fit n = false) : told n = .tup [.int .i64 0, .bool false] := by unfold told; rw [h]; rfl
theorem zig_range {n : Int} (h : fit n = true) : 0 ≤ zig n ∧ zig n ≤ 18446744073709551615 := by
  have := fit_true h; unfold zig; split <;> omega
theorem zag_range {u : Int} (h : 0 ≤ u) (h' : u ≤ 18446744073709551615) : fit (zag u) = true := by
  rw [fit_iff]; unfold zag; split <;> omega
theorem up_back {n u : Int} (hn : fit n = true) (hu : fit u = true) (h1 : 1 ≤ u) : 0 ≤ upTo n u - n ∧ upTo n u - n < u ∧ (upTo n u).tmod u = 0 := by
  have h2 : -u < n.tmod u ∧ n.tmod u < u := ⟨Int.lt_tmod_of_pos n (by omega), Int.tmod_lt_of_pos n (by omega)⟩
  have hd := Int.mul_tdiv_add_tmod n u
  unfold upTo
  by_cases h0 : n.tmod u = 0
  · rw [if_pos h0]; omega
  · rw [if_neg h0]
    by_cases h3 : n.tmod u < 0
    · rw [if_pos h3]
      refine ⟨by omega, by omega, ?_⟩
      have : n - n.tmod u = u * n.tdiv u := by omega
      rw [this]; exact Int.mul_tmod_right _ _
    · rw [if_neg h3]
      refine ⟨by omega, by omega, ?_⟩
      have : n + (u - n.tmod u) = u * (n.tdiv u + 1) := by rw [Int.mul_add]; omega
      rw [this]; exact Int.mul_tmod_right _ _

theorem back_ok (ps : List PV) (h : HasArgs [.int .i64, .int .i64, .int .u64] ps) : ∃ H', EE env (.fn 5) (ps.map .pv) [] = some (.pv (.bool true), H') := by
  obtain ⟨p1, _, rfl, h1, p2, _, rfl, h2, p3, _, rfl, h3, rfl⟩ := h
  obtain ⟨a, rfl, ha, ha'⟩ := arg_i64 h1
  obtain ⟨b, rfl, hb, hb'⟩ := arg_i64 h2
  obtain ⟨u, rfl, hu, hu'⟩ := arg_u64 h3
  clear h1 h2 h3
  have fa : fit a = true := by rw [fit_iff]; omega
  have fb : fit b = true := by rw [fit_iff]; omega
  suffices H : Has (EE env (.fn 5) ([PV.int .i64 a, .int .i64 b, .int .u64 u].map .pv) []) (fun x => x.1 = .pv (.bool true)) by
    obtain ⟨⟨v, H'⟩, g1, g2⟩ := H
    exact ⟨H', by rw [g1]; simp only at g2; rw [g2]⟩
  have hz : EP (EE env) 19 [.int .u64 (zig a)] = some (.int .i64 a) := by rw [zag_ok (zig_range fa).1 (zig_range fa).2, zag_zig]
  have hzz : EP (EE env) 20 [.int .i64 (zag u)] = some (.int .u64 u) := by rw [zig_ok (zag_range hu hu'), zig_zag hu]
  have rest : ∀ {R : Type} {Q : R → Prop} {F : PV → Option R}, Has (F (.int .i64 a)) Q → Has (callPK (EE env) 20 [.int .i64 a] fun p => callPK (EE env) 19 [p] F) Q := fun h =>
    callPK_has (zig_ok fa) (callPK_has hz h)
  refine EE_has ?_
  refine callPK_has first_ok ?_
  cases hs : fit (a + b) with
  | true =>
    refine callPK_has ((add_ok fa fb).trans (congrArg some (told_eq hs))) ?_
    have e1 : a + b - b = a := by omega
    refine callPK_has (((sub_ok hs fb).trans (congrArg some (told_eq (by rw [e1]; exact fa)))).trans (by rw [e1])) ?_
    refine boolK_has_false (by simp) ?_
    by_cases hu1 : b < 1
    · refine callPK_has ((up_ok fa fb).trans (congrArg some (if_pos hu1))) ?_
      refine callPK_has (zig_ok fa) ?_
      refine callPK_has hz ?_
      refine boolK_has_true (by simp) ?_
      refine callPK_has (zag_ok hu hu') ?_
      refine callPK_has hzz ?_
      refine boolK_has_true (by simp) ?_
      exact Has.intro rfl
    · cases hup : fit (upTo a b) with
      | false =>
        refine callPK_has (((up_ok fa fb).trans (congrArg some (if_neg hu1))).trans (congrArg some (told_no hup))) ?_
        refine callPK_has (zig_ok fa) ?_
        refine callPK_has hz ?_
        refine boolK_has_true (by simp) ?_
        refine callPK_has (zag_ok hu hu') ?_
        refine callPK_has hzz ?_
        refine boolK_has_true (by simp) ?_
        exact Has.intro rfl
      | true =>
        obtain ⟨b1, b2, b3⟩ := up_back fa fb (by omega)
        refine callPK_has (((up_ok fa fb).trans (congrArg some (if_neg hu1))).trans (congrArg some (told_eq hup))) ?_
        refine callPK_has ((sub_ok hup fa).trans (congrArg some (told_eq (by rw [fit_iff]; omega)))) ?_
        refine boolK_has_false (decide_eq_false (by omega)) ?_
        refine boolK_has_false (decide_eq_false (by omega)) ?_
        refine needK_has (by simp; omega) ?_
        refine eqK_has_eq _ b3 ?_
        refine boolK_has_false rfl ?_
        refine callPK_has (zig_ok fa) ?_
        refine callPK_has hz ?_
        refine boolK_has_true (by simp) ?_
        refine callPK_has (zag_ok hu hu') ?_
        refine callPK_has hzz ?_
        refine boolK_has_true (by simp) ?_
        exact Has.intro rfl
  | false =>
    refine callPK_has ((add_ok fa fb).trans (congrArg some (told_no hs))) ?_
    by_cases hu1 : b < 1
    · refine callPK_has ((up_ok fa fb).trans (congrArg some (if_pos hu1))) ?_
      refine callPK_has (zig_ok fa) ?_
      refine callPK_has hz ?_
      refine boolK_has_true (by simp) ?_
      refine callPK_has (zag_ok hu hu') ?_
      refine callPK_has hzz ?_
      refine boolK_has_true (by simp) ?_
      exact Has.intro rfl
    · cases hup : fit (upTo a b) with
      | false =>
        refine callPK_has (((up_ok fa fb).trans (congrArg some (if_neg hu1))).trans (congrArg some (told_no hup))) ?_
        refine callPK_has (zig_ok fa) ?_
        refine callPK_has hz ?_
        refine boolK_has_true (by simp) ?_
        refine callPK_has (zag_ok hu hu') ?_
        refine callPK_has hzz ?_
        refine boolK_has_true (by simp) ?_
        exact Has.intro rfl
      | true =>
        obtain ⟨b1, b2, b3⟩ := up_back fa fb (by omega)
        refine callPK_has (((up_ok fa fb).trans (congrArg some (if_neg hu1))).trans (congrArg some (told_eq hup))) ?_
        refine callPK_has ((sub_ok hup fa).trans (congrArg some (told_eq (by rw [fit_iff]; omega)))) ?_
        refine boolK_has_false (decide_eq_false (by omega)) ?_
        refine boolK_has_false (decide_eq_false (by omega)) ?_
        refine needK_has (by simp; omega) ?_
        refine eqK_has_eq _ b3 ?_
        refine boolK_has_false rfl ?_
        refine callPK_has (zig_ok fa) ?_
        refine callPK_has hz ?_
        refine boolK_has_true (by simp) ?_
        refine callPK_has (zag_ok hu hu') ?_
        refine callPK_has hzz ?_
        refine boolK_has_true (by simp) ?_
        exact Has.intro rfl
end Go.Proofs.Ytilfmfnngkangaa
