/-
  TapeReads in the abstract machine.
-/
import Derived.Test.YtpebkojodmjleaaTbD
set_option linter.all false
set_option linter.unusedVariables false
set_option linter.unusedSimpArgs false
set_option linter.unusedSectionVars false
namespace Go.Proofs.Ytpebkojodmjleaa
open Go Go.VM

set_option maxHeartbeats 4000000 in
theorem body_ok (x : Ext) (l : List In) (hl : l.length ≤ 60) (i : Nat) (s : RS) (J : Heap) (hT : Two s J) (o : In) (hg : l[i]? = some o) (ho : okI o) (r0 : Regs) :
    Has (evK env (EE env) BB Res (setL r0 (Li x l i)) J (blockK 1 doneK)) (fun y => y.1 = .normal ∧ ∃ t : RS × Heap, Two t.1 t.2 ∧ Agr y.2.1 (Li x l i) ∧ y.2.2 = t.2) := by
  have hlt : i < l.length := (List.getElem?_eq_some_iff.1 hg).1
  obtain ⟨g1, g2⟩ := flat_get inC_len hg
  have hl1 : 1 < J.length := by obtain ⟨⟨z, hz⟩, _⟩ := hT; exact hget_lt hz ((by intro h; cases h))
  have hT2 : ∀ ob, Two s (J ++ [ob]) := fun ob => by
    obtain ⟨⟨z, hz⟩, hq, hs⟩ := hT
    exact ⟨⟨z, (hget_app _ hl1).trans hz⟩, hq.app _, hs⟩
  refine seq_on ((8, .ptr J.length 0) :: Li x l i) (J ++ [.pcells (inC o)]) ?_ (fun r => ?_)
  · refine needK_has (by (first | rfl | (simp; done) | (simp; omega))) ?_
    refine secK_has g1 g2 ?_
    refine hgetK_last ?_
    refine needK_has rfl ?_
    refine eqK_has_eq (inC o) rfl ?_
    rw [hset_last]
    exact Has.intro ⟨rfl, ⟨rfl, rfl, rfl, rfl, rfl, rfl, trivial⟩, rfl⟩
  refine seq_on ((8, .ptr J.length 0) :: (9, .pv (.bool true)) :: Li x l i) (J ++ [.pcells (inC o)]) (Has.intro ⟨rfl, ⟨rfl, rfl, rfl, rfl, rfl, rfl, rfl, trivial⟩, rfl⟩) (fun r => ?_)
  refine seq_st (σ := RS × Heap) (fun _ => (9, .pv (.bool true)) :: Li x l i) (fun t => t.2) (fun t => Two t.1 t.2) (case_ok x l i s _ (hT2 _) o ho J.length hl1 (hget_append_same J _) r) (fun ⟨s', J'⟩ hT' r => ?_)
  obtain ⟨⟨z, hz⟩, hq, hs⟩ := hT'
  obtain ⟨bs, e⟩ := s'
  dsimp only at hz hs ⊢
  refine callSK_has (err_ok 1 z bs e J' hz) ?_
  refine hgetK_has _ hq.1 ?_
  refine getK_has rfl ?_
  refine boolK_bne_f rfl ?_
  refine callSK_has (left_ok 1 z bs e J' hz) ?_
  refine hgetK_has _ hq.1 ?_
  refine getK_has rfl ?_
  refine boolK_bne_f (by rw [sv_size]) ?_
  refine sameK_has rfl (by rw [hq.1]; rfl) ?_
  refine sameK_has rfl (by rw [hq.1]; rfl) ?_
  exact Has.intro ⟨rfl, ((bs, e), J'), ⟨⟨z, hz⟩, hq, hs⟩, ⟨rfl, rfl, rfl, rfl, rfl, trivial⟩, rfl⟩
set_option maxHeartbeats 4000000 in
theorem loop_ok (x : Ext) (l : List In) (hl : l.length ≤ 60) (hok : ∀ o ∈ l, okI o) (s : RS) (J : Heap) (hT : Two s J) (r0 : Regs) :
    Has (evK env (EE env) LP Res (setL r0 [(1, .pv (.sl x l.length (flat inC l))), (5, .ptr 1 0), (6, .ptr 0 0)]) J doneK) (fun y => y.1 = .normal ∧ ∃ J', True ∧ Agr y.2.1 [] ∧ y.2.2 = J') := by
  refine loopK_has ?_
  refine iterE_loop (σ := Nat × RS × Heap) (fun t => l.length - t.1) (fun t => Li x l t.1) (fun t => t.2.2) (fun t => t.1 ≤ l.length ∧ Two t.2.1 t.2.2)
    (fun ⟨i, s, J⟩ ⟨hi, hT⟩ r' => ?_) (0, s, J) ⟨Nat.zero_le _, hT⟩ ⟨rfl, rfl, rfl, rfl, rfl, trivial⟩ rfl
  dsimp only at hi hT ⊢
  show Has (evK env (EE env) (LP.at [1, 0, 0]) Res (setL r' (Li x l i)) J doneK) _
  refine seq_join (fun e r h => e = .normal ∧ h = J ∧ ((i < l.length ∧ Agr r ((30, .pv (.bool true)) :: Li x l i)) ∨ (i = l.length ∧ Agr r ((30, .pv (.bool false)) :: Li x l i)))) ?_ (fun e r h hj => ?_)
  · refine boolK_dec (fun hc => ?_) (fun hc => ?_)
    · exact Has.intro ⟨rfl, rfl, .inl ⟨by omega, rfl, rfl, rfl, rfl, rfl, rfl, trivial⟩⟩
    · exact Has.intro ⟨rfl, rfl, .inr ⟨by omega, rfl, rfl, rfl, rfl, rfl, rfl, trivial⟩⟩
  obtain ⟨rfl, rfl, hj⟩ := hj
  rcases hj with ⟨hlt, hA⟩ | ⟨hge, hA⟩
  · rw [← hA.eq]
    dsimp only [seqK]
    refine seq_on (Li x l i) h (Has.intro ⟨rfl, ⟨rfl, rfl, rfl, rfl, rfl, trivial⟩, rfl⟩) (fun r => ?_)
    obtain ⟨o, hg⟩ : ∃ o, l[i]? = some o := ⟨_, List.getElem?_eq_getElem hlt⟩
    refine seq_st (σ := RS × Heap) (fun _ => Li x l i) (fun t => t.2) (fun t => Two t.1 t.2) (body_ok x l hl i s h hT o hg (hok o (List.mem_of_getElem? hg)) r) (fun ⟨s', J'⟩ hT' r => ?_)
    refine eqK_has_eq _ (i64_succ (by omega)) ?_
    exact Has.intro ⟨(i + 1, s', J'), ⟨hlt, hT'⟩, by dsimp only; omega, ⟨rfl, rfl, rfl, rfl, rfl, trivial⟩, rfl⟩
  · rw [← hA.eq]
    refine Has.intro ?_
    exact Has.intro ⟨rfl, h, trivial, trivial, rfl⟩
abbrev TI : Ty := .st [(1, .int .i64), (1, .int .i64), (1, .int .i64), (1, .int .u64)]
theorem arg_in {cs : List PV} (h : HasTy TI cs) : ∃ o : In, cs = inC o ∧ okI o := by
  obtain ⟨a1, b1, rfl, l1, h1, a2, b2, rfl, l2, h2, a3, b3, rfl, l3, h3, a4, b4, rfl, l4, h4, rfl⟩ := h
  obtain ⟨q1, rfl⟩ := list1 l1
  obtain ⟨q2, rfl⟩ := list1 l2
  obtain ⟨q3, rfl⟩ := list1 l3
  obtain ⟨q4, rfl⟩ := list1 l4
  obtain ⟨n1, rfl, _⟩ := arg_i64 h1
  obtain ⟨n2, rfl, g1, g2⟩ := arg_i64 h2
  obtain ⟨n3, rfl, _⟩ := arg_i64 h3
  obtain ⟨n4, rfl, g3, g4⟩ := arg_u64 h4
  refine ⟨⟨n1, n2, n3, n4.toNat⟩, ?_, g2, by dsimp only; omega⟩
  show _ = [PV.int .i64 n1, .int .i64 n2, .int .i64 n3, .int .u64 ((n4.toNat : Nat) : Int)]
  rw [show ((n4.toNat : Nat) : Int) = n4 by omega]; rfl
theorem arg_ins : ∀ (n : Nat) (cs : List PV), Els (HasTy TI) 4 n cs → ∃ l : List In, l.length = n ∧ cs = flat inC l ∧ ∀ o ∈ l, okI o := by
  intro n
  induction n with
  | zero => intro cs h; exact ⟨[], rfl, h, fun o h => by cases h⟩
  | succ n ih =>
    intro cs ⟨a, b, h1, h2, h3, h4⟩
    obtain ⟨l, g1, g2, g3⟩ := ih b h4
    obtain ⟨o, rfl, ho⟩ := arg_in h3
    refine ⟨o :: l, by simp [g1], by rw [h1, g2]; rfl, fun o' h => ?_⟩
    rcases List.mem_cons.1 h with rfl | h
    · exact ho
    · exact g3 o' h
theorem arg_li {p : PV} (h : HasTy (.sl 4 TI) [p]) : ∃ x l, p = .sl x l.length (flat inC l) ∧ ∀ o ∈ l, okI o := by
  obtain ⟨x, len, cells, h1, _, e3, e4⟩ := h
  injection h1 with h1
  obtain ⟨l, rfl, rfl, g⟩ := arg_ins _ _ e4
  exact ⟨x, l, h1, g⟩
set_option maxHeartbeats 4000000 in
theorem reads_ok (ps : List PV) (h : HasArgs [.sl 1 (.int .u8), .sl 4 TI] ps) : ∃ H', EE env (.fn 4) (ps.map .pv) [] = some (.pv (.bool true), H') := by
  obtain ⟨p1, _, rfl, h1, p2, _, rfl, h2, rfl⟩ := h
  obtain ⟨xb, b, rfl, hbm, hxb⟩ := arg_bytes h1
  obtain ⟨x, l, rfl, hok⟩ := arg_li h2
  refine law_end (EE_has (fn_has rfl ?_))
  refine seq_on [(0, .pv (.sl xb b.length (bc b))), (1, .pv (.sl x l.length (flat inC l)))] [] (Has.intro ⟨rfl, ⟨rfl, rfl, trivial⟩, rfl⟩) (fun r => ?_)
  refine seq_on [(0, .pv (.sl xb b.length (bc b))), (1, .pv (.sl x l.length (flat inC l)))] [] ?_ (fun r => ?_)
  · refine callPK_has first_ok ?_
    exact Has.intro ⟨rfl, ⟨rfl, rfl, trivial⟩, rfl⟩
  refine seq_if [(4, .pv (.bool true))] True [(0, .pv (.sl xb b.length (bc b))), (1, .pv (.sl x l.length (flat inC l)))] (b.length ≤ 3000 ∧ l.length ≤ 60) [] ?_ (fun _ r => ?_) (fun ⟨q1, q2⟩ r => ?_)
  · refine boolK_dec (fun q1 => ?_) (fun q1 => ?_)
    · exact Has.intro (.inl ⟨rfl, ⟨rfl, trivial⟩, rfl, trivial⟩)
    refine boolK_dec (fun q2 => ?_) (fun q2 => ?_)
    · exact Has.intro (.inl ⟨rfl, ⟨rfl, trivial⟩, rfl, trivial⟩)
    · exact Has.intro (.inr ⟨rfl, ⟨rfl, rfl, trivial⟩, rfl, by omega, by omega⟩)
  · exact Has.intro rfl
  obtain ⟨e2, hr⟩ := read_ok xb b (by rcases hxb with h | h; exact .inl h; exact .inr (.inl h)) (by omega) [so (b, 0)]
  refine seq_on [(1, .pv (.sl x l.length (flat inC l))), (5, .ptr 1 0), (6, .ptr 0 0)] [so (b, 0), rdO e2 b 0] ?_ (fun r => ?_)
  · refine needK_has (by rw [bc_len]; exact Nat.beq_refl _) ?_
    refine bindK_has (bc_str _) ?_
    refine callSK_has hr ?_
    refine needK_has (by rw [bc_len]; exact Nat.beq_refl _) ?_
    refine bindK_has (bc_str _) ?_
    refine sameK_has rfl rfl ?_
    exact Has.intro ⟨rfl, ⟨rfl, rfl, rfl, trivial⟩, rfl⟩
  refine seq_st (σ := Heap) (fun _ => []) (fun J => J) (fun _ => True) (loop_ok x l q2 hok (b, 0) _ ⟨⟨e2, rfl⟩, ⟨rfl, by show b.length ≤ _; omega⟩, q1⟩ r) (fun J _ r => ?_)
  refine seq_on [(10, (.pv .nilp))] J (Has.intro ⟨rfl, ⟨rfl, trivial⟩, rfl⟩) (fun r => ?_)
  refine seq_on [(10, (.pv .nilp))] J ?_ (fun r => ?_)
  · refine callSK_has (nfail 2 J) ?_
    exact Has.intro ⟨rfl, ⟨rfl, trivial⟩, rfl⟩
  refine seq_on [(4, .pv (.bool true))] J ?_ (fun r => ?_)
  · refine callSK_has (nnum 9 J) ?_
    refine boolK_beq_t rfl ?_
    refine callSK_has (nsig 0 9 J) ?_
    refine boolK_beq_t rfl ?_
    refine callSK_has (ntxt 9 J) ?_
    refine boolK_has_true (beq_self_eq_true _) ?_
    refine callSK_has (nflg J) ?_
    refine callSK_has (nleft J) ?_
    refine boolK_beq_t rfl ?_
    refine callSK_has (nerr J) ?_
    refine boolK_beq_t rfl ?_
    refine callSK_has (nend J) ?_
    refine boolK_beq_t rfl ?_
    exact Has.intro ⟨rfl, ⟨rfl, trivial⟩, rfl⟩
  exact Has.intro rfl
end Go.Proofs.Ytpebkojodmjleaa
