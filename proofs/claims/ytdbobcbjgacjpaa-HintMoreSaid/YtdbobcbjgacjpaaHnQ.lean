/-
  HintMore in the abstract machine.
-/
import Derived.Test.YtdbobcbjgacjpaaHnP
set_option linter.all false
set_option linter.unusedVariables false
set_option linter.unusedSimpArgs false
set_option linter.unusedSectionVars false
namespace Go.Proofs.Ytdbobcbjgacjpaa
open Go Go.VM

theorem off28 (k i : Nat) : addO (addO (addO 0 0) (mulE ((k : Nat) : Int).toNat 8)) (mulE ((i : Nat) : Int).toNat 1) = 8 * k + i := by
  show addO (k * 8) i = 8 * k + i
  unfold addO
  cases hb : Nat.beq (k * 8) 0 with
  | true => have := Nat.eq_of_beq_eq_true hb; simp; omega
  | false =>
    cases hc : Nat.beq i 0 with
    | true => have := Nat.eq_of_beq_eq_true hc; simp; omega
    | false => simp; omega
theorem upTo_at (F : Nat → Int) (p : Nat) : upTo F p p = F p := by unfold upTo; rw [if_neg (by omega)]
theorem caseC_congr {F G N : Nat → Int} {a b c d : Int} (h : ∀ j, j < 16 → F j = G j) : caseC F N a b c d = caseC G N a b c d := by
  unfold caseC
  rw [tab_congr (f := iv F) (g := iv G) fun j hj => by show PV.int .i64 _ = .int .i64 _; rw [h j hj]]
theorem upTo_stay {F : Nat → Int} {p : Nat} (h : ¬ F p < 1073741824) (j : Nat) : upTo F p j = upTo F (p + 1) j := by
  unfold upTo
  by_cases e : j = p
  · subst e; rw [if_neg (by omega), if_pos (by omega)]; unfold up1; rw [if_neg h]
  · by_cases h1 : j < p
    · rw [if_pos h1, if_pos (by omega)]
    · rw [if_neg h1, if_neg (by omega)]
theorem case_set {F N : Nat → Int} {a b c d : Int} {p : Nat} (hp : p < 16) (h : F p < 1073741824) : (caseC (upTo F p) N a b c d).set p (.int .i64 (F p + 1)) = caseC (upTo F (p + 1)) N a b c d := by
  unfold caseC
  rw [List.set_append_left _ _ (by rw [tab_len]; exact hp)]
  congr 1
  refine tab_set_eq ?_ fun j _ hj => ?_
  · show PV.int .i64 _ = .int .i64 _
    unfold upTo
    rw [if_pos (by omega)]; unfold up1; rw [if_pos h]
  · show PV.int .i64 _ = .int .i64 _
    unfold upTo
    by_cases h1 : j < p
    · rw [if_pos h1, if_pos (by omega)]
    · rw [if_neg h1, if_neg (by omega)]
theorem case_len {F N : Nat → Int} {a b c d : Int} : (caseC F N a b c d).length = 22 := by unfold caseC; simp [tab_len]

set_option maxRecDepth 4000 in
set_option maxHeartbeats 1000000 in
theorem more_ok (ps : List PV) (h : HasArgs [TC] ps) : ∃ H', EE env (.fn 5) (ps.map .pv) [] = some (.pv (.bool true), H') := by
  obtain ⟨F, N, nodes, held, mask, most, rfl, hbd⟩ := arg_case h
  clear h
  have h7 := hint_ok F N nodes
  have h7u := hint_ok (upTo F 16) N nodes
  refine law_end (EE_has ?_)
  refine callPK_has first_ok ?_
  (refine hgetK_has (.pcells (caseC F N nodes held mask most)) rfl ?_)
  refine lF ?_
  (refine hgetK_has (.pcells (caseC F N nodes held mask most)) rfl ?_)
  refine getK_has rfl ?_
  (refine hgetK_has (.pcells (caseC F N nodes held mask most)) rfl ?_)
  refine lN ?_
  cases hW : wv F N nodes 0 with
  | none =>
    rw [hW] at h7
    refine callPK_has h7 ?_
    refine boolK_beq_t rfl ?_
    exact Has.intro rfl
  | some m =>
    rw [hW] at h7
    have h7' : EP (EE env) 7 [.agg (tab 16 (iv F)), .int .i64 nodes, .agg (tab 2 (iv N))] = some (.tup [.int .i64 (m : Int), .bool true]) := h7
    obtain ⟨x, hx, hcnt, hx256, hm256⟩ := more hW
    rw [hx] at h7u
    have h7u' : EP (EE env) 7 [.agg (tab 16 (iv (upTo F 16))), .int .i64 nodes, .agg (tab 2 (iv N))] = some (.tup [.int .i64 (x : Int), .bool true]) := h7u
    refine callPK_has h7' ?_
    have h0 : caseC F N nodes held mask most = caseC (upTo F (8 * 0)) N nodes held mask most := caseC_congr fun j _ => by unfold upTo; rw [if_neg (by omega)]
    refine loopK_has ?_
    refine iterE_up 2 (fun k => [(1, .ptr 0 0), (3, .pv (.int .i64 m)), (25, .pv (.int .i64 k))]) (fun k => [.pcells (caseC (upTo F (8 * k)) N nodes held mask most)]) (fun k hk r => ?_) (fun r => ?_) ⟨rfl, rfl, rfl, trivial⟩ (congrArg (fun c => [HObj.pcells c]) h0)
    · refine boolK_dec_t (by omega) ?_
      refine loopK_has ?_
      refine iterE_up 8 (fun i => [(1, .ptr 0 0), (3, .pv (.int .i64 m)), (5, .pv (.int .i64 k)), (25, .pv (.int .i64 k)), (28, .pv (.int .i64 i))]) (fun i => [.pcells (caseC (upTo F (8 * k + i)) N nodes held mask most)]) (fun i hi r => ?_) (fun r => ?_) ⟨rfl, rfl, rfl, rfl, rfl, trivial⟩ rfl
      · have hb := hbd (8 * k + i)
        refine boolK_dec_t (by omega) ?_
        refine needK_has (by (first | rfl | (simp; done) | (simp; omega))) ?_
        refine needK_has (by (first | rfl | (simp; done) | (simp; omega))) ?_
        refine hgetK_has _ rfl ?_
        refine getK_has (v := .int .i64 (F (8 * k + i))) (by rw [off28]; exact (case_at (by omega)).trans (by rw [upTo_at])) ?_
        refine boolK_dec (fun hlt => ?_) (fun hlt => ?_)
        · refine needK_has (by (first | rfl | (simp; done) | (simp; omega))) ?_
          refine needK_has (by (first | rfl | (simp; done) | (simp; omega))) ?_
          refine hgetK_has _ rfl ?_
          refine getK_has (v := .int .i64 (F (8 * k + i))) (by rw [off28]; exact (case_at (by omega)).trans (by rw [upTo_at])) ?_
          refine eqK_has_eq (F (8 * k + i) + 1) (wrap_i64 (by omega) (by omega)) ?_
          refine needK_has (by (first | rfl | (simp; done) | (simp; omega))) ?_
          refine needK_has (by (first | rfl | (simp; done) | (simp; omega))) ?_
          refine hgetK_has _ rfl ?_
          refine needK_has (by rw [off28, case_len]; exact Nat.ble_eq_true_of_le (by omega)) ?_
          refine eqK_has_eq (caseC (upTo F (8 * k + (i + 1))) N nodes held mask most) (by rw [off28]; exact case_set (by omega) hlt) ?_
          refine eqK_has_eq _ (i64_succ (by omega)) ?_
          exact Has.intro ⟨⟨rfl, rfl, rfl, rfl, rfl, trivial⟩, rfl⟩
        · refine eqK_has_eq _ (i64_succ (by omega)) ?_
          refine Has.intro ⟨⟨rfl, rfl, rfl, rfl, rfl, trivial⟩, ?_⟩
          show [HObj.pcells _] = [HObj.pcells _]
          rw [caseC_congr fun j _ => upTo_stay hlt j]; rfl
      refine boolK_dec_f (by omega) ?_
      refine Has.intro ?_
      refine eqK_has_eq _ (i64_succ (by omega)) ?_
      exact Has.intro ⟨⟨rfl, rfl, rfl, trivial⟩, rfl⟩
    refine boolK_dec_f (by omega) ?_
    refine Has.intro ?_
    refine hgetK_has _ rfl ?_
    refine secK_has (v := tab 16 (iv (upTo F 16))) rfl (by rw [case_len]; decide) ?_
    refine hgetK_has _ rfl ?_
    refine getK_has rfl ?_
    refine hgetK_has _ rfl ?_
    refine secK_has (v := tab 2 (iv N)) rfl (by rw [case_len]; decide) ?_
    refine callPK_has h7u' ?_
    have hr1 := rof_ok (x : Int)
    have hr2 := rof_ok (m : Int)
    rw [m8_nat hx256] at hr1
    rw [m8_nat hm256] at hr2
    obtain ⟨e1, he1⟩ := slv_sl (nl (nds x))
    obtain ⟨e2, he2⟩ := slv_sl (nl (nds m))
    have hn1 := rnodes_ok (u := x)
    have hn2 := rnodes_ok (u := m)
    rw [he1] at hn1
    rw [he2] at hn2
    refine callPK_has hr1 ?_
    refine callPK_has hn1 ?_
    refine callPK_has hr2 ?_
    refine callPK_has hn2 ?_
    refine boolK_dec_t (by rw [nl_len, nl_len]; unfold cnt at hcnt; omega) ?_
    exact Has.intro rfl
end Go.Proofs.Ytdbobcbjgacjpaa
