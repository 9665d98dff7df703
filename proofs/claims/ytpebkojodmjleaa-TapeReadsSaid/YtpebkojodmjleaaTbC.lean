/-
  Readers that are nil, the end of a reader, the document's error.
-/
import Derived.Test.YtpebkojodmjleaaTbB
set_option linter.all false
set_option linter.unusedVariables false
set_option linter.unusedSimpArgs false
set_option linter.unusedSectionVars false
namespace Go.Proofs.Ytpebkojodmjleaa
open Go Go.VM

theorem nfail (n : Int) (H : Heap) : EE env (.fn 22) [(.pv .nilp), .pv (.int .i64 n)] H = some (.pv (.tup []), H) := by
  refine Has.eq (EE_has ?_)
  exact Has.intro rfl
theorem nnum (m : Int) (H : Heap) : EE env (.fn 14) [(.pv .nilp), .pv (.int .u64 m)] H = some (.pv (.int .u64 0), H) := by
  refine Has.eq (EE_has ?_)
  exact Has.intro rfl
theorem zag0 : zag 0 = 0 := rfl
theorem nsig (a b : Int) (H : Heap) : EE env (.fn 16) [(.pv .nilp), .pv (.int .i64 a), .pv (.int .i64 b)] H = some (.pv (.int .i64 0), H) := by
  refine Has.eq (EE_has ?_)
  refine callSK_has (nnum 18446744073709551615 H) ?_
  refine callPK_has (zag_ok (by decide) (by decide)) ?_
  exact Has.intro rfl
theorem ntxt (m : Int) (H : Heap) : EE env (.fn 18) [(.pv .nilp), .pv (.int .i64 m)] H = some (.pv (sv []), H) := by
  refine Has.eq (EE_has ?_)
  exact Has.intro rfl
theorem nflg (H : Heap) : EE env (.fn 20) [(.pv .nilp)] H = some (.pv (.bool false), H) := by
  refine Has.eq (EE_has ?_)
  exact Has.intro rfl
theorem nleft (H : Heap) : EE env (.fn 26) [(.pv .nilp)] H = some (.pv (.int .i64 0), H) := by
  refine Has.eq (EE_has ?_)
  exact Has.intro rfl
theorem nerr (H : Heap) : EE env (.fn 25) [(.pv .nilp)] H = some (.pv (.int .i64 1), H) := by
  refine Has.eq (EE_has ?_)
  exact Has.intro rfl
theorem nend (H : Heap) : EE env (.fn 24) [(.pv .nilp)] H = some (.pv (.int .i64 1), H) := by
  refine Has.eq (EE_has ?_)
  refine callSK_has (nleft H) ?_
  refine boolK_dec_f (by decide) ?_
  refine callSK_has (nerr H) ?_
  exact Has.intro rfl
/-- What the end leaves. -/
def rEndS (r : RS) : RS := if r.2 = 0 ∧ r.1 ≠ [] then ([], 13) else r
def rFail (n : Int) (r : RS) : RS := if r.2 = 0 ∧ n ≠ 0 then ([], n) else r
theorem rFail_short (n : Int) (r : RS) : (rFail n r).1.length ≤ r.1.length := by
  unfold rFail; split
  · exact Nat.zero_le _
  · exact Nat.le_refl _
theorem fail_s (p : Nat) (x : Ext) (r : RS) (H : Heap) (ht : hget H p = rdO x r.1 r.2) (n : Int) : ∃ x', EE env (.fn 22) [.ptr p 0, .pv (.int .i64 n)] H = some (.pv (.tup []), hset H p (rdO x' (rFail n r).1 (rFail n r).2)) := by
  unfold rFail
  by_cases h : r.2 = 0 ∧ n ≠ 0
  · rw [if_pos h]
    exact ⟨.nil, fail_yes p x r.1 r.2 H ht n h.1 h.2⟩
  · rw [if_neg h]
    refine ⟨x, ?_⟩
    rw [fail_no p x r.1 r.2 H ht n (by
      by_cases h0 : r.2 = 0
      · exact .inr (Classical.not_not.1 (fun h1 => h ⟨h0, h1⟩))
      · exact .inl h0), hset_self ht]
theorem sfail_s {H : Heap} {p : Nat} {r : RS} (h : SD H p r) (n : Int) : EE env (.fn 23) [.ptr p 0, .pv (.int .i64 n)] H = some (.pv (.tup []), hset H p (so (rFail n r))) := by
  obtain ⟨bs, e⟩ := r
  have ht : hget H p = .pcells [sv bs, .int .i64 e] := h.1
  unfold rFail
  dsimp only
  by_cases h0 : e = 0
  · subst h0
    by_cases h1 : n = 0
    · rw [if_neg (fun h => h.2 h1)]
      refine Has.eq (EE_has ?_)
      refine hgetK_has _ ht ?_
      refine getK_has rfl ?_
      refine boolK_beq_t rfl ?_
      refine boolK_bne_f h1 ?_
      have hs : hset H p (so (bs, 0)) = H := hset_self ht
      rw [hs]
      exact Has.intro rfl
    · rw [if_pos ⟨rfl, h1⟩]
      exact sfail h n h1
  · rw [if_neg (fun h => h0 h.1)]
    refine Has.eq (EE_has ?_)
    refine hgetK_has _ ht ?_
    refine getK_has rfl ?_
    refine boolK_beq_f h0 ?_
    have hs : hset H p (so (bs, e)) = H := hset_self ht
    rw [hs]
    exact Has.intro rfl
theorem end_s (p : Nat) (x : Ext) (r : RS) (H : Heap) (ht : hget H p = rdO x r.1 r.2) : ∃ x', EE env (.fn 24) [.ptr p 0] H = some (.pv (.int .i64 (rEndS r).2), hset H p (rdO x' (rEndS r).1 (rEndS r).2)) := by
  have hpl : p < H.length := hget_lt ht ((by intro h; cases h))
  obtain ⟨bs, e⟩ := r
  unfold rEndS
  dsimp only at ht ⊢
  by_cases hb : bs = []
  · rw [if_neg (fun h => h.2 hb)]
    refine ⟨x, Has.eq (EE_has ?_)⟩
    refine callSK_has (left_ok p x bs e H ht) ?_
    subst hb
    refine boolK_dec_f (by simp) ?_
    refine callSK_has (err_ok p x [] e H ht) ?_
    rw [hset_self ht]
    exact Has.intro rfl
  have hl : 0 < bs.length := List.length_pos_iff.2 hb
  by_cases h0 : e = 0
  · rw [if_pos ⟨h0, hb⟩]
    refine ⟨.nil, Has.eq (EE_has ?_)⟩
    refine callSK_has (left_ok p x bs e H ht) ?_
    refine boolK_dec_t (by omega) ?_
    refine callSK_has (fail_yes p x bs e H ht 13 h0 (by decide)) ?_
    refine callSK_has (err_ok p .nil [] 13 _ (hget_hset_same _ hpl)) ?_
    exact Has.intro rfl
  · rw [if_neg (fun h => h0 h.1)]
    refine ⟨x, Has.eq (EE_has ?_)⟩
    refine callSK_has (left_ok p x bs e H ht) ?_
    refine boolK_dec_t (by omega) ?_
    refine callSK_has (fail_no p x bs e H ht 13 (.inl h0)) ?_
    refine callSK_has (err_ok p x bs e H ht) ?_
    rw [hset_self ht]
    exact Has.intro rfl
end Go.Proofs.Ytpebkojodmjleaa
