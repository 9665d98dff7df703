/-
  TapeWrites in the abstract machine.
-/
import Derived.Test.YtpebkojodmjleaaTaG
set_option linter.all false
set_option linter.unusedVariables false
set_option linter.unusedSimpArgs false
set_option linter.unusedSectionVars false
namespace Go.Proofs.Ytpebkojodmjleaa
open Go Go.VM

abbrev TO : Ty := .st [(1, .int .i64), (1, .int .i64), (1, .int .u64), (1, .str)]
theorem arg_ou {cs : List PV} (h : HasTy TO cs) : ∃ o : Ou, cs = ou o ∧ okO o := by
  obtain ⟨a1, b1, rfl, l1, h1, a2, b2, rfl, l2, h2, a3, b3, rfl, l3, h3, a4, b4, rfl, l4, h4, rfl⟩ := h
  obtain ⟨q1, rfl⟩ := list1 l1
  obtain ⟨q2, rfl⟩ := list1 l2
  obtain ⟨q3, rfl⟩ := list1 l3
  obtain ⟨q4, rfl⟩ := list1 l4
  obtain ⟨n1, rfl, _⟩ := arg_i64 h1
  obtain ⟨n2, rfl, g1, g2⟩ := arg_i64 h2
  obtain ⟨n3, rfl, g3, g4⟩ := arg_u64 h3
  obtain ⟨l, rfl, g5⟩ := arg_str h4
  refine ⟨⟨n1, n2, n3.toNat, l⟩, ?_, ⟨g1, g2⟩, by dsimp only; omega, g5⟩
  show _ = [PV.int .i64 n1, .int .i64 n2, .int .u64 ((n3.toNat : Nat) : Int), sv l]
  rw [show ((n3.toNat : Nat) : Int) = n3 by omega]; rfl
theorem arg_ous : ∀ (n : Nat) (cs : List PV), Els (HasTy TO) 4 n cs → ∃ l : List Ou, l.length = n ∧ cs = flat ou l ∧ ∀ o ∈ l, okO o := by
  intro n
  induction n with
  | zero => intro cs h; exact ⟨[], rfl, h, fun o h => by cases h⟩
  | succ n ih =>
    intro cs ⟨a, b, h1, h2, h3, h4⟩
    obtain ⟨l, g1, g2, g3⟩ := ih b h4
    obtain ⟨o, rfl, ho⟩ := arg_ou h3
    refine ⟨o :: l, by simp [g1], by rw [h1, g2]; rfl, fun o' h => ?_⟩
    rcases List.mem_cons.1 h with rfl | h
    · exact ho
    · exact g3 o' h
theorem arg_lo {p : PV} (h : HasTy (.sl 4 TO) [p]) : ∃ x l, p = .sl x l.length (flat ou l) ∧ l.length ≤ maxLen ∧ ∀ o ∈ l, okO o := by
  obtain ⟨x, len, cells, h1, _, e3, e4⟩ := h
  injection h1 with h1
  obtain ⟨l, rfl, rfl, g⟩ := arg_ous _ _ e4
  exact ⟨x, l, h1, e3, g⟩
theorem wrs_good {l : List Ou} (h : good l) (hok : ∀ o ∈ l, okO o) : (wrs l).length ≤ 31000 := by
  have := wrs_len hok h.2
  have := h.1
  omega
set_option maxHeartbeats 1000000 in
theorem writes_ok (ps : List PV) (h : HasArgs [.sl 4 TO, .int .u64] ps) : ∃ H', EE env (.fn 3) (ps.map .pv) [] = some (.pv (.bool true), H') := by
  obtain ⟨p1, _, rfl, h1, p2, _, rfl, h2, rfl⟩ := h
  obtain ⟨x, l, rfl, hl, hok⟩ := arg_lo h1
  obtain ⟨u, rfl, hu0, hu1⟩ := arg_u64 h2
  obtain ⟨u, rfl⟩ : ∃ n : Nat, u = n := ⟨u.toNat, by omega⟩
  refine law_end (EE_has ?_)
  refine callPK_has first_ok ?_
  refine callSK_has' ((written_ok x l hl hok).mono fun y hy => ?_)
  obtain ⟨v, H⟩ := y
  rcases hy with ⟨hg, rfl, hT⟩ | ⟨hg, s, rfl⟩
  · dsimp only at hT ⊢
    have hwl := wrs_good hg hok
    refine callSK_has (number_nil 1 H) ?_
    refine callSK_has (text_nil [97] H (by decide)) ?_
    obtain ⟨e, hb, _⟩ := bytes_ok 0 (wrs l) (by omega) H hT
    refine callSK_has hb ?_
    refine needK_has (by rw [bc_len]; exact Nat.beq_refl _) ?_
    refine bindK_has (bc_str _) ?_
    refine boolK_has_true (by simp) ?_
    refine callPK_has (size_ok u (by omega)) ?_
    refine callPK_has (rnumber_ok u (by omega)) ?_
    refine boolK_beq_t (by rw [sv_size]) ?_
    refine callSK_has (bytes_nil H) ?_
    refine boolK_beq_t rfl ?_
    exact Has.intro rfl
  · dsimp only
    refine callSK_has (number_nil 1 H) ?_
    refine callSK_has (text_nil [97] H (by decide)) ?_
    exact Has.intro rfl
end Go.Proofs.Ytpebkojodmjleaa
