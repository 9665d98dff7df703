/-
  MaskTells in the abstract machine: the walk.
-/
import Derived.Test.YteflibnmicehcaaMkH
set_option linter.all false
set_option linter.unusedVariables false
set_option linter.unusedSimpArgs false
set_option linter.unusedSectionVars false
namespace Go.Proofs.Yteflibnmicehcaa
open Go Go.VM

theorem and_255 : ∀ u, u < 256 → u &&& 255 = u := by decide +kernel
theorem lst_head (u : Nat) : (nds u)[0]? = (if nds u = [] then none else some (lst u)) := by
  unfold lst
  cases nds u with
  | nil => rfl
  | cons a l => rfl
theorem nds_nil : ∀ u, u < 256 → (nds u = [] ↔ u = 0) := by decide +kernel

theorem tells_ok (ps : List PV) (h : HasArgs [.int .i64, .int .i64, .int .i64] ps) : ∃ H', EE env (.fn 4) (ps.map .pv) [] = some (.pv (.bool true), H') := by
  obtain ⟨p1, _, rfl, h1, p2, _, rfl, h2, p3, _, rfl, h3, rfl⟩ := h
  obtain ⟨a, rfl, _⟩ := arg_i64 h1
  obtain ⟨b, rfl, _⟩ := arg_i64 h2
  obtain ⟨node, rfl, _⟩ := arg_i64 h3
  clear h1 h2 h3
  have hof := rof_ok a
  have hof2 := rof_ok b
  have hhas := has_ok a node
  have hwith := with_ok a node
  have hwithout := without_ok a node
  have hcount := count_ok a
  have hleast := least_ok a
  have hunder := under_ok a b
  have hahead := ahead_ok a b
  have hrahead := rahead_ok a b
  have htext := text_ok a
  have hrtext := rtext_ok a
  have hnodes := nodes_ok a 9
  have hA := m8_lt a
  have hB := m8_lt b
  generalize m8 a = A at *
  generalize m8 b = B at *
  have hcnt := cnt_le A hA
  have hcl : cnt A = (nds A).length := rfl
  have htake : (nds A).take (9 : Int).toNat = nds A := List.take_of_length_le (by show _ ≤ 9; omega)
  rw [htake] at hnodes
  obtain ⟨x, hx⟩ := slv_sl (nl (nds A))
  have hsame := same_slv (nl (nds A)) (nl (nds A)) (by rw [nl_len, maxLen_eq]; omega)
  rw [decide_eq_true rfl] at hsame
  have hrn : EP (EE env) 14 [.agg (bset A)] = some (slv (nl (nds A))) := rnodes_ok
  rw [hx, nl_len] at hnodes hrn hsame
  have hnn := nds_nil A hA
  have hlh := lst_head A
  refine law_end (EE_has ?_)
  refine callPK_has first_ok ?_
  refine callPK_has hof ?_
  refine callPK_has hof2 ?_
  refine hgetK_has _ rfl ?_
  refine needK_has rfl ?_
  refine eqK_has_eq (bset A) rfl ?_
  refine hgetK_has _ rfl ?_
  refine needK_has rfl ?_
  refine eqK_has_eq (bset B) rfl ?_
  refine hgetK_has _ rfl ?_
  refine secK_has (v := bset A) (tab_sec _).1 (tab_sec _).2 ?_
  refine hgetK_has _ rfl ?_
  refine secK_has (v := bset A) (tab_sec _).1 (tab_sec _).2 ?_
  refine hgetK_has _ rfl ?_
  refine needK_has rfl ?_
  refine eqK_has_eq (bset A) rfl ?_
  refine hgetK_has _ rfl ?_
  refine needK_has rfl ?_
  refine eqK_has_eq (bset A) rfl ?_
  refine sameK_has rfl rfl ?_
  by_cases hr : 0 ≤ node ∧ node < 8
  case' pos =>
    obtain ⟨k, hk⟩ : ∃ k : Nat, node = (k : Int) := ⟨node.toNat, by omega⟩
    subst hk
    have hk8 : k < 8 := by omega
    have hbit : bitOf (k : Int) = 2 ^ k := by unfold bitOf; rw [if_pos hr]; rfl
    rw [hbit] at hhas hwith hwithout
    have hin : decide (A &&& 2 ^ k ≠ 0) = A.testBit k := by rw [Bool.eq_iff_iff, decide_eq_true_iff]; exact tb_has A hA k hk8
    rw [hin] at hhas
    refine boolK_dec_t (by omega) ?_
    refine boolK_dec_t (by omega) ?_
    refine needK_has (by simp; omega) ?_
    refine hgetK_has _ rfl ?_
    refine getK_has (show (bset A)[k]? = some (.bool (A.testBit k)) from tab_get _ hk8) ?_
    refine needK_has (by simp; omega) ?_
    refine hgetK_has _ rfl ?_
    refine needK_has (tab_blt _ hk8) ?_
    refine eqK_has_eq (bset (A ||| 2 ^ k)) (bset_in hA hk8) ?_
    refine needK_has (by simp; omega) ?_
    refine hgetK_has _ rfl ?_
    refine needK_has (tab_blt _ hk8) ?_
    refine eqK_has_eq (bset (A &&& (255 - 2 ^ k))) (bset_out hA hk8) ?_
    have hWm : A ||| 2 ^ k < 256 := or_lt8 hA (by have : 2 ^ k ≤ 2 ^ 7 := Nat.pow_le_pow_right (by decide) (by omega); omega)
    have hOm : A &&& (255 - 2 ^ k) < 256 := and_lt8 _ hA
    generalize A ||| 2 ^ k = W at *
    generalize A &&& (255 - 2 ^ k) = O at *
    generalize A.testBit k = inB at *
  case' neg =>
    have hbit : bitOf node = 0 := by unfold bitOf; rw [if_neg hr]
    rw [hbit] at hhas hwith hwithout
    have hin : decide (A &&& 0 ≠ 0) = false := by rw [Nat.and_zero]; rfl
    rw [hin] at hhas
    have e1 : A ||| 0 = A := Nat.or_zero _
    have e2 : A &&& (255 - 0) = A := and_255 A hA
    rw [e1] at hwith
    rw [e2] at hwithout
    obtain ⟨W, hW, hWm⟩ : ∃ W, W = A ∧ W < 256 := ⟨A, rfl, hA⟩
    obtain ⟨O, hO, hOm⟩ : ∃ O, O = A ∧ O < 256 := ⟨A, rfl, hA⟩
    obtain ⟨inB, hinB⟩ : ∃ inB : Bool, inB = false := ⟨_, rfl⟩
    rw [← hinB] at hhas
    rw [← hW] at hwith
    rw [← hO] at hwithout
    by_cases hge : node ≥ 0
    case' pos => refine boolK_dec_t hge (boolK_dec_f (by omega) ?_)
    case' neg => refine boolK_dec_f hge ?_
  all_goals
    refine loopK_has ?_
    refine iterE_up 8 (fun i => [(0, .pv (.int .i64 a)), (1, .pv (.int .i64 b)), (2, .pv (.int .i64 _)), (7, .ptr 0 0), (8, .ptr 1 0), (9, .ptr 2 0), (10, .ptr 3 0), (11, .pv (.bool (undB A B i))), (12, .pv (.bool inB)), (39, .pv (.int .i64 ((i : Nat) : Int)))])
      (fun _ => [.pcells (bset A), .pcells (bset B), .pcells (bset W), .pcells (bset O)]) (fun i hi r => ?_) (fun r => ?_) ⟨rfl, rfl, rfl, rfl, rfl, rfl, rfl, rfl, by first | rfl | (rw [hinB]; rfl), rfl, trivial⟩ (by first | rfl | (rw [hW, hO]; rfl))
    · refine boolK_dec_t (by omega) ?_
      have hu : undB A B (i + 1) = (undB A B i && (!A.testBit i || B.testBit i)) := rfl
      cases hb : undB A B i with
      | false =>
        rw [hb] at hu
        refine eqK_has_eq _ (i64_succ (by omega)) ?_
        exact Has.intro ⟨⟨rfl, rfl, rfl, rfl, rfl, rfl, rfl, by rw [hu]; rfl, rfl, rfl, trivial⟩, rfl⟩
      | true =>
        rw [hb, Bool.true_and] at hu
        refine needK_has (by simp; omega) ?_
        refine hgetK_has _ rfl ?_
        refine getK_has (show (bset A)[i]? = some (.bool (A.testBit i)) from tab_get _ hi) ?_
        cases ha : A.testBit i with
        | false =>
          rw [ha] at hu
          refine eqK_has_eq _ (i64_succ (by omega)) ?_
          exact Has.intro ⟨⟨rfl, rfl, rfl, rfl, rfl, rfl, rfl, by rw [hu]; rfl, rfl, rfl, trivial⟩, rfl⟩
        | true =>
          rw [ha, Bool.not_true, Bool.false_or] at hu
          refine needK_has (by simp; omega) ?_
          refine hgetK_has _ rfl ?_
          refine getK_has (show (bset B)[i]? = some (.bool (B.testBit i)) from tab_get _ hi) ?_
          refine eqK_has_eq _ (i64_succ (by omega)) ?_
          exact Has.intro ⟨⟨rfl, rfl, rfl, rfl, rfl, rfl, rfl, by rw [hu]; rfl, rfl, rfl, trivial⟩, rfl⟩
    · refine boolK_dec_f (by omega) ?_
      have huu := under_iff hA hB
      refine Has.intro ?_
      refine hgetK_has _ rfl ?_
      refine secK_has (v := bset A) (tab_sec _).1 (tab_sec _).2 ?_
      refine callPK_has hrn ?_
      refine callPK_has hleast ?_
      by_cases hA0 : A = 0
      · have hn0 := hnn.2 hA0
        have hc0 : (nds A).length = 0 := by rw [hn0]; rfl
        have hl0 : lst A = 0 := by unfold lst; rw [hn0]; rfl
        refine boolK_dec_f (by omega) ?_
        refine callPK_has hhas ?_
        refine boolK_has_true (by simp) ?_
        refine callPK_has hwith ?_
        refine hgetK_has _ rfl ?_
        refine secK_has (v := bset W) (tab_sec _).1 (tab_sec _).2 ?_
        refine callPK_has (rmask_ok hWm) ?_
        refine boolK_has_true (by simp) ?_
        refine callPK_has hwithout ?_
        refine hgetK_has _ rfl ?_
        refine secK_has (v := bset O) (tab_sec _).1 (tab_sec _).2 ?_
        refine callPK_has (rmask_ok hOm) ?_
        refine boolK_has_true (by simp) ?_
        refine callPK_has hcount ?_
        refine boolK_has_true (by rw [hcl]; simp) ?_
        refine boolK_dec_f (by omega) ?_
        refine boolK_has_true (by rw [decide_eq_false (fun h => h hA0)]; rfl) ?_
        refine boolK_has_true (by rw [hl0]; rfl) ?_
        refine callPK_has hunder ?_
        refine boolK_has_true (by rw [huu]; simp) ?_
        refine callPK_has hahead ?_
        refine callPK_has hrahead ?_
        refine boolK_has_true (by simp) ?_
        refine callPK_has hnodes ?_
        refine callPK_has hsame ?_
        refine callPK_has htext ?_
        refine callPK_has hrtext ?_
        refine boolK_seq (fun _ => Has.intro rfl) (fun h => absurd rfl h)
      · have hn0 : nds A ≠ [] := fun h => hA0 (hnn.1 h)
        have hc0 : 0 < (nds A).length := by
          cases hh : nds A with
          | nil => exact absurd hh hn0
          | cons a l => simp
        rw [if_neg hn0] at hlh
        refine boolK_dec_t (by omega) ?_
        refine needK_has (by simp; omega) ?_
        refine getK_has (ints_get (nl_get hlh)) ?_
        refine callPK_has hhas ?_
        refine boolK_has_true (by simp) ?_
        refine callPK_has hwith ?_
        refine hgetK_has _ rfl ?_
        refine secK_has (v := bset W) (tab_sec _).1 (tab_sec _).2 ?_
        refine callPK_has (rmask_ok hWm) ?_
        refine boolK_has_true (by simp) ?_
        refine callPK_has hwithout ?_
        refine hgetK_has _ rfl ?_
        refine secK_has (v := bset O) (tab_sec _).1 (tab_sec _).2 ?_
        refine callPK_has (rmask_ok hOm) ?_
        refine boolK_has_true (by simp) ?_
        refine callPK_has hcount ?_
        refine boolK_has_true (by rw [hcl]; simp) ?_
        refine boolK_dec_t (by omega) ?_
        refine boolK_has_true (by rw [decide_eq_true hA0]; rfl) ?_
        refine boolK_has_true (by simp) ?_
        refine callPK_has hunder ?_
        refine boolK_has_true (by rw [huu]; simp) ?_
        refine callPK_has hahead ?_
        refine callPK_has hrahead ?_
        refine boolK_has_true (by simp) ?_
        refine callPK_has hnodes ?_
        refine callPK_has hsame ?_
        refine callPK_has htext ?_
        refine callPK_has hrtext ?_
        refine boolK_seq (fun _ => Has.intro rfl) (fun h => absurd rfl h)
end Go.Proofs.Yteflibnmicehcaa
