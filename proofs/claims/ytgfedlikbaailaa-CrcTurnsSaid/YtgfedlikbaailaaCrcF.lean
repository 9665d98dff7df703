/-
  CrcTurns, in the abstract machine: the walk.
-/
import Derived.Test.YtgfedlikbaailaaCrcE
set_option linter.all false
set_option linter.unusedVariables false
set_option linter.unusedSimpArgs false
set_option linter.unusedSectionVars false
namespace Go.Proofs.Ytgfedlikbaailaa
open Go Go.VM

theorem half_nat (n : Nat) (h : n ≤ 3000) : IntKind.i64.wrap ((n : Int).tdiv 2) = ((n / 2 : Nat) : Int) := by
  rw [wrap_i64]
  · rfl
  · have : (n : Int).tdiv 2 = ((n / 2 : Nat) : Int) := rfl
    rw [this]; omega
  · have : (n : Int).tdiv 2 = ((n / 2 : Nat) : Int) := rfl
    rw [this]; omega

/-- The last part: of the two halves. -/
theorem halves (b : List UInt8) (h : b.length ≤ 3000) (x y z : Ext) : EP (EE env) 8 [.sl x 2 [.sl y (b.length / 2) (bc (b.take (b.length / 2))), .sl z (b.length - b.length / 2) (bc (b.drop (b.length / 2)))]] = some (u32 (crc b)) := by
  have hm : ∀ n, n ≤ 3000 → n ≤ maxLen := fun n hn => by rw [maxLen_eq]; omega
  have h1 := of_ok x 2 [(y, b.take (b.length / 2)), (z, b.drop (b.length / 2))] rfl (by decide) (fun p hp => by
    rcases List.mem_cons.1 hp with e | e
    · rw [e]; exact hm _ (by simp; omega)
    · rw [List.mem_singleton.1 e]; exact hm _ (by simp; omega))
  have e1 : (b.take (b.length / 2)).length = b.length / 2 := by rw [List.length_take]; omega
  have e2 : (b.drop (b.length / 2)).length = b.length - b.length / 2 := by rw [List.length_drop]
  simp only [List.map_cons, List.map_nil, row, e1, e2] at h1
  rw [h1]
  congr 2
  simp [List.take_append_drop]

/-- A row of bytes and its four bytes turned, in every way. -/
theorem turns_ok (ps : List PV) (h : HasArgs [.sl 1 (.int .u8), .int .i64, .arr 4 1 (.int .u8)] ps) : ∃ H', EE env (.fn 3) (ps.map .pv) [] = some (.pv (.bool true), H') := by
  obtain ⟨p1, _, rfl, h1, p2, _, rfl, ⟨at_, h2, hat⟩, p3, _, rfl, ⟨cs, rfl, h3⟩, rfl⟩ := h
  obtain ⟨xb, b, rfl, _, _⟩ := arg_bytes h1
  obtain ⟨xs, hxs, rfl⟩ := els_u8 _ _ h3
  injection h2 with h2; subst h2
  have hat' : -9223372036854775808 ≤ at_ ∧ at_ ≤ 9223372036854775807 := by
    simp only [Lit.wf, IntKind.min, IntKind.max, IntKind.bits, IntKind.signed, Bool.and_eq_true, decide_eq_true_eq] at hat
    simp at hat
    omega
  clear h1 h3 hat
  suffices H : Has (EE env (.fn 3) ([PV.sl xb b.length (bc b), PV.int .i64 at_, PV.agg (bc xs)].map .pv) []) (fun x => x.1 = .pv (.bool true)) by
    obtain ⟨⟨v, H'⟩, g1, g2⟩ := H
    exact ⟨H', by rw [g1]; simp only at g2; rw [g2]⟩
  refine EE_has ?_
  refine callPK_has first_ok ?_
  refine boolK_has (fun _ => Has.intro rfl) (fun hb => ?_)
  have hlen : b.length ≤ 3000 := by have := of_decide_eq_false hb; omega
  clear hb
  refine boolK_has (fun he => ?_) (fun he => ?_)
  · have he0 : b.length = 0 := Nat.eq_of_beq_eq_true he
    refine hgetK_has _ rfl ?_
    refine secK_has (v := bc xs) (List.take_of_length_le (by show (bc xs).length ≤ 4; rw [bc_length, hxs]; exact Nat.le_refl 4)) (by rw [bc_length, hxs]; exact Nat.le_refl 4) ?_
    refine loopK_has ?_
    refine iterE_up 4 (fun i => [(0, .pv (.sl xb b.length (bc b))), (1, .pv (.int .i64 at_)), (7, .pv (.sl .exact 0 [])), (8, .pv (.bool false)), (19, .pv (.agg (bc xs))), (20, .pv (.int .i64 i))])
      (fun _ => [.pcells (bc xs)]) (fun i hi r => ?_) (fun r => ?_) ⟨rfl, rfl, rfl, rfl, rfl, rfl, trivial⟩ rfl
    · refine boolK_has_true (decide_eq_true (by omega)) ?_
      refine needK_has (by simp; omega) ?_
      obtain ⟨x, hx⟩ : ∃ x, xs[i]? = some x := ⟨xs[i], List.getElem?_eq_getElem (by omega)⟩
      refine getK_has (bc_get hx) ?_
      refine boolK_has (fun h0 => ?_) (fun _ => ?_)
      · have h0' := of_decide_eq_true h0
        refine eqK_has_eq _ (wrap_i64 (by omega) (by omega)) ?_
        refine boolK_has_false (decide_eq_false (by omega)) ?_
        refine eqK_has_eq _ (i64_succ (by omega)) ?_
        exact Has.intro ⟨⟨rfl, rfl, rfl, rfl, rfl, rfl, trivial⟩, rfl⟩
      · refine eqK_has_eq _ (i64_succ (by omega)) ?_
        exact Has.intro ⟨⟨rfl, rfl, rfl, rfl, rfl, rfl, trivial⟩, rfl⟩
    · refine boolK_has_false (decide_eq_false (by omega)) ?_
      refine Has.intro ?_
      have hb0 : b = [] := List.eq_nil_of_length_eq_zero he0
      subst hb0
      refine callPK_has (of1 .exact xb [] (by decide)) ?_
      refine callPK_has (of1 .exact .exact [] (by decide)) ?_
      refine boolK_has_true (by simp) ?_
      refine boolK_has_true rfl ?_
      refine needK_has rfl ?_
      refine eqK_has_eq _ (half_nat 0 (by decide)) ?_
      refine needK_has rfl ?_
      refine eqK_has_eq [] rfl ?_
      refine needK_has rfl ?_
      refine eqK_has_eq _ (half_nat 0 (by decide)) ?_
      refine needK_has rfl ?_
      refine eqK_has_eq [] rfl ?_
      refine callPK_has (halves [] (by decide) _ _ _) ?_
      refine callPK_has (of1 .exact xb [] (by decide)) ?_
      refine boolK_has_true (by simp) ?_
      exact Has.intro rfl
  · have he0 : b.length ≠ 0 := fun e => by rw [e] at he; cases he
    refine needK_has (by
      rw [bc_length]
      simp only [Bool.and_eq_true]
      refine ⟨⟨Nat.ble_eq_true_of_le ?_, rfl⟩, ?_⟩
      · show (0 + b.length) * 1 ≤ 140737488355328; omega
      · exact Nat.beq_refl _) ?_
    refine eqK_has_eq (bc b) rfl ?_
    refine eqK_has_eq b.length (Nat.zero_add _) ?_
    refine hgetK_has _ rfl ?_
    refine secK_has (v := bc xs) (List.take_of_length_le (by show (bc xs).length ≤ 4; rw [bc_length, hxs]; exact Nat.le_refl 4)) (by rw [bc_length, hxs]; exact Nat.le_refl 4) ?_
    refine loopK_has ?_
    refine iterE_up 4 (fun i => [(0, .pv (.sl xb b.length (bc b))), (1, .pv (.int .i64 at_)), (7, .hs 1 1 0 b.length b.length), (8, .pv (.bool (tn at_ xs b i).2)), (19, .pv (.agg (bc xs))), (20, .pv (.int .i64 i))])
      (fun i => [.pcells (bc xs), .pcells (bc (tn at_ xs b i).1)]) (fun i hi r => ?_) (fun r => ?_) ⟨rfl, rfl, rfl, rfl, rfl, rfl, trivial⟩ rfl
    · refine boolK_has_true (decide_eq_true (by omega)) ?_
      refine needK_has (by simp; omega) ?_
      obtain ⟨x, hx⟩ : ∃ x, xs[i]? = some x := ⟨xs[i], List.getElem?_eq_getElem (by omega)⟩
      refine getK_has (bc_get hx) ?_
      have hxg : xs.getD i 0 = x := by rw [List.getD_eq_getElem?_getD, hx]; rfl
      refine boolK_has (fun h0 => ?_) (fun h0 => ?_)
      · have h0' := of_decide_eq_true h0
        refine eqK_has_eq _ (wrap_i64 (by omega) (by omega)) ?_
        refine boolK_has (fun h1 => ?_) (fun h1 => ?_)
        · have h1' := of_decide_eq_true h1
          have hin : (at_ + (i : Nat)).toNat < b.length := by omega
          have hc : 0 ≤ at_ ∧ at_ < (b.length : Int) - (i : Nat) := ⟨h0', h1'⟩
          have htn : tn at_ xs b (i + 1) = ((tn at_ xs b i).1.set (at_ + (i : Nat)).toNat ((tn at_ xs b i).1.getD (at_ + (i : Nat)).toNat 0 ^^^ xs.getD i 0), (tn at_ xs b i).2 || xs.getD i 0 != 0) := by
            rw [tn, if_pos hc]
          refine eqK_has_eq _ (wrap_i64 (by omega) (by omega)) ?_
          refine needK_has (by simp; omega) ?_
          obtain ⟨y, hy⟩ : ∃ y, (tn at_ xs b i).1[(at_ + (i : Nat)).toNat]? = some y := ⟨_, List.getElem?_eq_getElem (by rw [tn_len]; exact hin)⟩
          have hyg : (tn at_ xs b i).1.getD (at_ + (i : Nat)).toNat 0 = y := by rw [List.getD_eq_getElem?_getD, hy]; rfl
          refine hgetK_has _ rfl ?_
          refine getK_has (show (bc (tn at_ xs b i).1)[addO 0 (at_ + (i : Nat)).toNat]? = some (.int .u8 y.toNat) from bc_get hy) ?_
          refine eqK_has_eq _ (u8_xor _ _) ?_
          refine needK_has (by simp; omega) ?_
          refine hgetK_has _ rfl ?_
          refine needK_has (by
            show Nat.blt (at_ + (i : Nat)).toNat (bc (tn at_ xs b i).1).length = true
            rw [bc_length, tn_len]; exact Nat.ble_eq_true_of_le hin) ?_
          refine eqK_has_eq (bc (tn at_ xs b (i + 1)).1) (by
            show (bc (tn at_ xs b i).1).set (at_ + (i : Nat)).toNat (.int .u8 (y ^^^ x).toNat) = _
            rw [bc_set, htn, hyg, hxg]) ?_
          rw [hxg] at htn
          cases ht : (tn at_ xs b i).2 with
          | false =>
            have e : decide (((x.toNat : Nat) : Int) = 0) = (x == 0) := by
              have : ((x.toNat : Nat) : Int) = 0 ↔ x = 0 := by
                constructor
                · intro h
                  apply UInt8.toNat_inj.1
                  show x.toNat = 0
                  omega
                · intro h; rw [h]; rfl
              rw [Bool.eq_iff_iff]; simp only [decide_eq_true_eq, beq_iff_eq]; exact this
            have e2 : (((x.toNat : Nat) : Int) != 0) = (tn at_ xs b (i + 1)).2 := by
              rw [htn, ht]
              simp only [Bool.false_or]
              show (!(((x.toNat : Nat) : Int) == 0)) = !(x == 0)
              congr 1
            refine boolK_has_eq e2 ?_
            refine eqK_has_eq _ (i64_succ (by omega)) ?_
            exact Has.intro ⟨⟨rfl, rfl, rfl, rfl, rfl, rfl, trivial⟩, rfl⟩
          | true =>
            have e2 : (tn at_ xs b (i + 1)).2 = true := by rw [htn, ht]; rfl
            refine eqK_has_eq _ (i64_succ (by omega)) ?_
            exact Has.intro ⟨⟨rfl, rfl, rfl, by rw [e2]; rfl, rfl, rfl, trivial⟩, rfl⟩
        · have hn : ¬ (0 ≤ at_ ∧ at_ < (b.length : Int) - (i : Nat)) := fun hc => (of_decide_eq_false h1) hc.2
          have htn : tn at_ xs b (i + 1) = tn at_ xs b i := by rw [tn, if_neg hn]
          refine eqK_has_eq _ (i64_succ (by omega)) ?_
          refine Has.intro ⟨⟨rfl, rfl, rfl, ?_, rfl, rfl, trivial⟩, ?_⟩
          · rw [htn]; rfl
          · rw [htn]
      · have hn : ¬ (0 ≤ at_ ∧ at_ < (b.length : Int) - (i : Nat)) := fun hc => (of_decide_eq_false h0) hc.1
        have htn : tn at_ xs b (i + 1) = tn at_ xs b i := by rw [tn, if_neg hn]
        refine eqK_has_eq _ (i64_succ (by omega)) ?_
        refine Has.intro ⟨⟨rfl, rfl, rfl, ?_, rfl, rfl, trivial⟩, ?_⟩
        · rw [htn]; rfl
        · rw [htn]
    · refine boolK_has_false (decide_eq_false (by omega)) ?_
      refine Has.intro ?_
      have hle : b.length ≤ maxLen := by rw [maxLen_eq]; omega
      have hl4 := tn_len at_ xs b 4
      refine callPK_has (of1 .exact xb b hle) ?_
      refine hgetK_has _ rfl ?_
      refine secK_has (v := bc (tn at_ xs b 4).1) (List.take_of_length_le (by show (bc (tn at_ xs b 4).1).length ≤ b.length; rw [bc_length, hl4]; exact Nat.le_refl _)) (by show 0 + b.length ≤ (bc (tn at_ xs b 4).1).length; rw [bc_length, hl4]; omega) ?_
      have o2 := of1 .exact .unk (tn at_ xs b 4).1 (by rw [hl4]; exact hle)
      rw [hl4] at o2
      refine callPK_has o2 ?_
      refine boolK_has_eq (turn_eq at_ xs b) ?_
      refine boolK_has_true (by cases (tn at_ xs b 4).2 <;> rfl) ?_
      refine needK_has rfl ?_
      refine eqK_has_eq _ (half_nat _ hlen) ?_
      refine needK_has (by simp; omega) ?_
      refine eqK_has_eq _ (bc_take b (b.length / 2)) ?_
      refine needK_has rfl ?_
      refine eqK_has_eq _ (half_nat _ hlen) ?_
      refine needK_has (by simp; omega) ?_
      refine eqK_has_eq (bc (b.drop (b.length / 2))) (by
        show ((bc b).drop (b.length / 2)).take (b.length - b.length / 2) = _
        rw [bc_drop]
        exact List.take_of_length_le (by rw [bc_length, List.length_drop]; exact Nat.le_refl _)) ?_
      refine callPK_has (halves b hlen _ _ _) ?_
      refine callPK_has (of1 .exact xb b hle) ?_
      refine boolK_has_true (by simp) ?_
      exact Has.intro rfl
end Go.Proofs.Ytgfedlikbaailaa
