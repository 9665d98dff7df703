/-
  CheckedAll in the abstract machine.
-/
import Derived.Test.YtilfmfnngkangaaChH
set_option linter.all false
set_option linter.unusedVariables false
set_option linter.unusedSimpArgs false
set_option linter.unusedSectionVars false
namespace Go.Proofs.Ytilfmfnngkangaa
open Go Go.VM

theorem sval_abs (n : Int) : sval (decide (n < 0)) n.natAbs = n := by
  unfold sval
  by_cases h : n < 0
  · rw [if_pos (decide_eq_true h)]; omega
  · rw [if_neg (by simpa using h)]; omega
theorem big (n : Int) (h : fit n = true) : n.natAbs < 65536 ^ 20 := by
  have := fit_true h
  have : (9223372036854775809 : Nat) < 65536 ^ 20 := by decide
  omega
theorem splus_lt {m k : Bool} {a b : Nat} (h : a + b < 65536 ^ 20) : (splus m a k b).2 < 65536 ^ 20 := by
  unfold splus
  split
  · exact h
  · split
    · show b - a < _; omega
    · show a - b < _; omega
/-- The document's sum of two. -/
theorem ref_plus {a b : Int} (ha : fit a = true) (hb : fit b = true) :
    EP (EE env) 11 [.agg (sg (splus (decide (a < 0)) a.natAbs (decide (b < 0)) b.natAbs).1 (splus (decide (a < 0)) a.natAbs (decide (b < 0)) b.natAbs).2)] = some (told (a + b)) := by
  have h1 := fit_true ha
  have h2 := fit_true hb
  have hp : (18446744073709551617 : Nat) < 65536 ^ 20 := by decide
  rw [sint_ok _ _ (splus_lt (by omega)), splus_val, sval_abs, sval_abs]

theorem ints_els : ∀ (n : Nat) (cs : List PV), Els (HasTy (.int .i64)) 1 n cs → ∃ l : List Int, l.length = n ∧ cs = ints l ∧ ∀ x ∈ l, fit x = true := by
  intro n
  induction n with
  | zero => intro cs h; exact ⟨[], rfl, h, fun x hx => by cases hx⟩
  | succ n ih =>
    intro cs ⟨a, b, h1, h2, h3, h4⟩
    obtain ⟨l, g1, g2, g3⟩ := ih b h4
    obtain ⟨q, rfl⟩ : ∃ q, a = [q] := by
      match a, h2 with
      | [q], _ => exact ⟨q, rfl⟩
    obtain ⟨x, e, hx, hx'⟩ := arg_i64 h3
    refine ⟨x :: l, by simp [g1], by rw [h1, g2, e]; rfl, fun y hy => ?_⟩
    rcases List.mem_cons.1 hy with e | e
    · rw [e, fit_iff]; omega
    · exact g3 y e

theorem all_ok (ps : List PV) (h : HasArgs [.sl 1 (.int .i64)] ps) : ∃ H', EE env (.fn 3) (ps.map .pv) [] = some (.pv (.bool true), H') := by
  obtain ⟨p1, _, rfl, ⟨x, len, cells, e1, _, e3, e4⟩, rfl⟩ := h
  obtain ⟨l, g1, g2, hf⟩ := ints_els _ _ e4
  injection e1 with e1
  subst g1 g2 e1
  clear e4
  suffices H : Has (EE env (.fn 3) ([PV.sl x l.length (ints l)].map .pv) []) (fun x => x.1 = .pv (.bool true)) by
    obtain ⟨⟨v, H'⟩, g1, g2⟩ := H
    exact ⟨H', by rw [g1]; simp only at g2; rw [g2]⟩
  refine EE_has ?_
  refine callPK_has first_ok ?_
  refine boolK_has (fun _ => Has.intro rfl) (fun hb => ?_)
  have hlen : l.length ≤ 200 := by have := of_decide_eq_false hb; omega
  clear hb
  refine callPK_has (sum_ok x l e3 hf) ?_
  obtain ⟨rs, rb, hr⟩ : ∃ rs rb, toldO (sumOf (some 0) l) = .tup [.int .i64 rs, .bool rb] := by
    cases sumOf (some 0) l with
    | none => exact ⟨_, _, rfl⟩
    | some t => exact ⟨_, _, rfl⟩
  rw [hr]
  refine loopK_has ?_
  refine iterE_loop (σ := Nat × Option Int) (fun p => l.length - p.1) (fun p => [(0, .pv (.sl x l.length (ints l))), (3, .pv (.int .i64 rs)), (4, .pv (.bool rb)), (5, .pv (.int .i64 (p.2.getD 0))), (6, .pv (.bool p.2.isSome)), (19, .pv (.sl x l.length (ints l))), (20, .pv (.int .i64 l.length)), (21, .pv (.int .i64 p.1))])
    (fun _ => []) (fun p => p.1 ≤ l.length ∧ sumOf (some 0) (l.take p.1) = p.2) (fun ⟨i, s⟩ ⟨hi, hs⟩ r => ?_) (0, some 0) ⟨Nat.zero_le _, rfl⟩ ⟨rfl, rfl, rfl, rfl, rfl, rfl, rfl, rfl, trivial⟩ rfl
  dsimp only at hi hs
  refine boolK_has (fun hc => ?_) (fun hc => ?_)
  · have hlt : i < l.length := by have := of_decide_eq_true hc; simp only at this; omega
    obtain ⟨n, hn⟩ : ∃ n, l[i]? = some n := ⟨l[i], List.getElem?_eq_getElem hlt⟩
    have hfn := hf n (List.mem_of_getElem? hn)
    have ht := sumOf_take (s := some 0) hn
    rw [hs] at ht
    refine needK_has (by simp; omega) ?_
    refine getK_has (show (ints l)[i]? = some (.int .i64 n) by simp [ints, hn]) ?_
    cases s with
    | none =>
      refine eqK_has_eq _ (i64_succ (by omega)) ?_
      exact Has.intro ⟨(i + 1, none), ⟨hlt, ht⟩, by simp only; omega, ⟨rfl, rfl, rfl, rfl, rfl, rfl, rfl, rfl, trivial⟩, rfl⟩
    | some s =>
      have hfs : fit s = true := sumOf_fit (s := 0) (by decide) _ hs
      refine callPK_has (sof_ok hfs) ?_
      refine callPK_has (sof_ok hfn) ?_
      refine callPK_has (splus_ok _ _ _ _ (big s hfs) (big n hfn)) ?_
      cases hfit : fit (s + n) with
      | true =>
        refine callPK_has ((ref_plus hfs hfn).trans (congrArg some (told_eq hfit))) ?_
        simp only [hfit, if_true] at ht
        refine eqK_has_eq _ (i64_succ (by omega)) ?_
        exact Has.intro ⟨(i + 1, some (s + n)), ⟨hlt, ht⟩, by simp only; omega, ⟨rfl, rfl, rfl, rfl, rfl, rfl, rfl, rfl, trivial⟩, rfl⟩
      | false =>
        refine callPK_has ((ref_plus hfs hfn).trans (congrArg some (told_no hfit))) ?_
        simp only [hfit, Bool.false_eq_true, if_false] at ht
        refine eqK_has_eq _ (i64_succ (by omega)) ?_
        exact Has.intro ⟨(i + 1, none), ⟨hlt, ht⟩, by simp only; omega, ⟨rfl, rfl, rfl, rfl, rfl, rfl, rfl, rfl, trivial⟩, rfl⟩
  · have he : i = l.length := by have := of_decide_eq_false hc; simp only at this; omega
    subst he
    rw [List.take_length] at hs
    rw [hs] at hr
    refine Has.intro ?_
    cases s with
    | none =>
      injection hr with hr; injection hr with h1 h2; injection h1 with _ h1; injection h2 with h2; injection h2 with h2
      subst h1 h2
      refine boolK_has_true rfl ?_
      refine boolK_has_true rfl ?_
      exact Has.intro rfl
    | some s =>
      injection hr with hr; injection hr with h1 h2; injection h1 with _ h1; injection h2 with h2; injection h2 with h2
      subst h1 h2
      refine boolK_has_true rfl ?_
      refine boolK_has_true (by simp) ?_
      exact Has.intro rfl
end Go.Proofs.Ytilfmfnngkangaa
