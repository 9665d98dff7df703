/-
  CheckedNarrows in the abstract machine.
-/
import Derived.Test.YtilfmfnngkangaaChD
set_option linter.all false
set_option linter.unusedVariables false
set_option linter.unusedSimpArgs false
set_option linter.unusedSectionVars false
namespace Go.Proofs.Ytilfmfnngkangaa
open Go Go.VM

theorem narrow_in {k : IntKind} {lo hi n : Int} (h : lo ≤ n ∧ n ≤ hi) : narrow k lo hi n = .tup [.int k n, .bool true] := if_pos h
theorem narrow_out {k : IntKind} {lo hi n : Int} (h : ¬ (lo ≤ n ∧ n ≤ hi)) : narrow k lo hi n = .tup [.int k 0, .bool false] := if_neg h

/-- The last part: signs, and what is held. -/
theorem narrows_ok (ps : List PV) (h : HasArgs [.st [(1, .int .i64), (1, .int .u64), (1, .int .i64), (1, .int .i64)]] ps) : ∃ H', EE env (.fn 6) (ps.map .pv) [] = some (.pv (.bool true), H') := by
  obtain ⟨p, _, rfl, ⟨cs, rfl, a1, b1, rfl, l1, h1, a2, b2, rfl, l2, h2, a3, b3, rfl, l3, h3, a4, b4, rfl, l4, h4, rfl⟩, rfl⟩ := h
  match a1, l1 with
  | [q1], _ =>
  match a2, l2 with
  | [q2], _ =>
  match a3, l3 with
  | [q3], _ =>
  match a4, l4 with
  | [q4], _ =>
  obtain ⟨n, rfl, hn, hn'⟩ := arg_i64 h1
  obtain ⟨u, rfl, hu, hu'⟩ := arg_u64 h2
  obtain ⟨lo, rfl, _, _⟩ := arg_i64 h3
  obtain ⟨hi, rfl, _, _⟩ := arg_i64 h4
  clear h1 h2 h3 h4
  have fn : fit n = true := by rw [fit_iff]; omega
  suffices H : Has (EE env (.fn 6) ([PV.agg [.int .i64 n, .int .u64 u, .int .i64 lo, .int .i64 hi]].map .pv) []) (fun x => x.1 = .pv (.bool true)) by
    obtain ⟨⟨v, H'⟩, g1, g2⟩ := H
    exact ⟨H', by simp only [List.cons_append, List.nil_append, List.append_nil]; rw [g1]; simp only at g2; rw [g2]⟩
  refine EE_has ?_
  refine callPK_has first_ok ?_
  refine hgetK_has _ rfl ?_
  refine getK_has rfl ?_
  refine hgetK_has _ rfl ?_
  refine getK_has rfl ?_
  refine hgetK_has _ rfl ?_
  refine getK_has rfl ?_
  refine hgetK_has _ rfl ?_
  refine getK_has rfl ?_
  have c : (0 ≤ n ∧ n ≤ 255) ∨ (255 < n ∧ n ≤ 32767) ∨ (-32768 ≤ n ∧ n < 0) ∨ (32767 < n ∧ n ≤ 2147483647) ∨ (-2147483648 ≤ n ∧ n < -32768) ∨ 2147483647 < n ∨ n < -2147483648 := by omega
  have two : u.tdiv 2 = u / 2 := Int.tdiv_eq_ediv_of_nonneg hu
  have mod2 : u.tmod 2 = u % 2 := Int.tmod_eq_emod_of_nonneg hu
  have zigN : n < 0 → zig n = -1 - 2 * n := fun h => if_pos h
  have zigP : ¬ n < 0 → zig n = 2 * n := fun h => if_neg h
  rcases c with c | c | c | c | c | c | c
  all_goals
    first
      | refine callPK_has ((byte_ok n).trans (congrArg some (narrow_in (by omega)))) ?_
      | refine callPK_has ((byte_ok n).trans (congrArg some (narrow_out (by omega)))) ?_
    first
      | refine callPK_has ((short_ok n).trans (congrArg some (narrow_in (by omega)))) ?_
      | refine callPK_has ((short_ok n).trans (congrArg some (narrow_out (by omega)))) ?_
    first
      | refine callPK_has ((narrow_ok n).trans (congrArg some (narrow_in (by omega)))) ?_
      | refine callPK_has ((narrow_ok n).trans (congrArg some (narrow_out (by omega)))) ?_
    repeat' (first
      | refine boolK_has_true (by first | rfl | (simp; done) | (simp; omega)) ?_
      | refine boolK_has_false (by first | rfl | (simp; done) | (simp; omega)) ?_
      | refine eqK_has_eq n (wrap_i64 (by omega) (by omega)) ?_
      | fail)
    first
      | refine eqK_has_eq (n + 1) (wrap_i64 (by omega) (by omega)) ?_
        refine eqK_has_eq (-(n + 1)) ((wrap_i64 (by omega) (by omega)).trans (by omega)) ?_
        refine eqK_has_eq (-(n + 1)) (by rw [wrap_u64_emod]; omega) ?_
        refine eqK_has_eq (2 * -(n + 1)) (by rw [wrap_u64_emod]; omega) ?_
        refine eqK_has_eq (zig n) (by rw [wrap_u64_emod, zigN (by omega)]; omega) ?_
      | refine eqK_has_eq n (by rw [wrap_u64_emod]; omega) ?_
        refine eqK_has_eq (zig n) (by rw [wrap_u64_emod, zigP (by omega)]; omega) ?_
    refine needK_has rfl ?_
    refine eqK_has_eq (u / 2) (by rw [wrap_u64_emod, two]; omega) ?_
    refine eqK_has_eq (u / 2) (wrap_i64 (by omega) (by omega)) ?_
    refine needK_has rfl ?_
    refine eqK_has_eq (u % 2) mod2 ?_
  all_goals
    refine boolK_has (fun hp => ?_) (fun hp => ?_)
  all_goals
    simp at hp
    first
      | refine needK_has rfl ?_
        refine eqK_has_eq (u / 2) (by rw [wrap_u64_emod, two]; omega) ?_
        refine eqK_has_eq (u / 2) (wrap_i64 (by omega) (by omega)) ?_
        refine eqK_has_eq (-(u / 2)) ((wrap_i64 (by omega) (by omega)).trans (by omega)) ?_
        refine eqK_has_eq (-(u / 2) - 1) (wrap_i64 (by omega) (by omega)) ?_
      | skip
    refine boolK_has (fun hl => ?_) (fun hl => ?_)
  all_goals
    simp at hl
  all_goals
    first
      | refine boolK_has (fun hg => ?_) (fun hg => ?_)
        all_goals simp at hg
      | skip
  all_goals
    refine callPK_has (zig_ok fn) ?_
    refine boolK_has_true (by simp) ?_
    refine callPK_has (zag_ok hu hu') ?_
    refine boolK_has_true (by rw [beq_iff_eq]; unfold zag; split <;> omega) ?_
    refine callPK_has (held_ok n lo hi) ?_
    refine boolK_has_true (by rw [beq_iff_eq]; unfold held; split <;> (try split) <;> omega) ?_
    exact Has.intro rfl
end Go.Proofs.Ytilfmfnngkangaa
