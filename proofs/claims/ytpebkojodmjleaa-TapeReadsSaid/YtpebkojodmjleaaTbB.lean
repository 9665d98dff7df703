/-
  The document's reader: texts, signed numbers, flags, vectors.
-/
import Derived.Test.YtpebkojodmjleaaTbA
set_option linter.all false
set_option linter.unusedVariables false
set_option linter.unusedSimpArgs false
set_option linter.unusedSectionVars false
namespace Go.Proofs.Ytpebkojodmjleaa
open Go Go.VM

theorem Sdr.mono {p : Nat} {v : AV} {r : RS} {H G : Heap} {y : AV × Heap} (hk : KR p H G) (h : Sdr p v r G y) : Sdr p v r H y := ⟨h.1, h.2.1, hk.trans h.2.2⟩
theorem gT_eq (m : Int) (r : RS) : gT m r = if (gN maxU r).2.2 ≠ 0 then ([], (gN maxU r).2) else if m < 0 ∨ ((gN maxU r).1 : Int) > m then ([], [], 15) else if (gN maxU r).1 > (gN maxU r).2.1.length then ([], [], 10) else ((gN maxU r).2.1.take (gN maxU r).1, (gN maxU r).2.1.drop (gN maxU r).1, (gN maxU r).2.2) := rfl
theorem gS_eq (a b : Int) (r : RS) : gS a b r = if (gN maxU r).2.2 ≠ 0 then (0, (gN maxU r).2) else if zag (gN maxU r).1 < a ∨ zag (gN maxU r).1 > b then (0, [], 15) else (zag (gN maxU r).1, (gN maxU r).2) := rfl
theorem maxU_lt : maxU < 18446744073709551616 := by decide
set_option maxHeartbeats 1000000 in
theorem stxt_rd {p : Nat} {r : RS} {H : Heap} (h : SD H p r) (m : Int) (hm : m ≤ 9223372036854775807) : Has (EE env (.fn 19) [.ptr p 0, .pv (.int .i64 m)] H) (Sdr p (.pv (sv (gT m r).1)) (gT m r).2 H) := by
  rw [gT_eq]
  refine EE_has ?_
  refine callSK_has' ((snum_rd h maxU maxU_lt).mono fun z hz => ?_)
  obtain ⟨v, G⟩ := z
  obtain ⟨rfl, hr, hk⟩ := hz
  dsimp only at hr hk ⊢
  have hlt := gN_lt maxU r
  generalize gN maxU r = g at *
  obtain ⟨n, bs, e⟩ := g
  dsimp only at hr hlt ⊢
  have hb : bs.length ≤ 1000000 := hr.2
  have ht : hget G p = .pcells [sv bs, .int .i64 e] := hr.1
  refine hgetK_has _ ht ?_
  refine getK_has rfl ?_
  refine boolK_bne (fun h1 => ?_) (fun h1 => ?_)
  · rw [if_pos h1]
    exact Has.intro ⟨rfl, hr, hk⟩
  have h1 : e = 0 := h1
  subst h1
  rw [if_neg (by simp)]
  refine boolK_dec (fun h2 => ?_) (fun h2 => ?_)
  · rw [if_pos (.inl h2)]
    refine callSK_has (sfail hr 15 (by decide)) ?_
    exact Has.intro ((sdr_put hr _ (Nat.zero_le _)).mono hk)
  refine eqK_has_eq m ((wrap_u64_emod _).trans (by omega)) ?_
  refine boolK_dec (fun h3 => ?_) (fun h3 => ?_)
  · rw [if_pos (.inr h3)]
    refine callSK_has (sfail hr 15 (by decide)) ?_
    exact Has.intro ((sdr_put hr _ (Nat.zero_le _)).mono hk)
  rw [if_neg (by omega)]
  refine hgetK_has _ ht ?_
  refine getK_has rfl ?_
  refine eqK_has_eq ((bs.length : Nat) : Int) ((wrap_u64_emod _).trans (by rw [sv_size]; omega)) ?_
  refine boolK_dec (fun h4 => ?_) (fun h4 => ?_)
  · rw [if_pos (by omega)]
    refine callSK_has (sfail hr 10 (by decide)) ?_
    exact Has.intro ((sdr_put hr _ (Nat.zero_le _)).mono hk)
  rw [if_neg (by omega)]
  refine hgetK_has _ ht ?_
  refine getK_has rfl ?_
  refine eqK_has_eq ((n : Nat) : Int) (wrap_i64 (by omega) (by omega)) ?_
  refine needK_has (by simp [sv_size]; omega) ?_
  refine eqK_has_eq ⟨(bs.take n).toArray⟩ (by rw [show ((n : Nat) : Int).toNat = n from rfl, sv_extract]; rfl) ?_
  refine hgetK_has _ ht ?_
  refine getK_has rfl ?_
  refine eqK_has_eq ((n : Nat) : Int) (wrap_i64 (by omega) (by omega)) ?_
  refine needK_has (by simp [sv_size]; omega) ?_
  refine eqK_has_eq ⟨(bs.drop n).toArray⟩ (by rw [sv_extract, List.take_of_length_le (by rw [sv_size]; exact Nat.le_refl _)]; rfl) ?_
  refine hgetK_has _ ht ?_
  refine needK_has rfl ?_
  refine eqK_has ?_
  exact Has.intro ((sdr_put hr _ (by dsimp only; rw [List.length_drop]; omega)).mono hk)
theorem quo2 (n : Nat) : ((n : Nat) : Int).tdiv 2 = ((n / 2 : Nat) : Int) := rfl
theorem rem2 (n : Nat) : ((n : Nat) : Int).tmod 2 = ((n % 2 : Nat) : Int) := rfl
set_option maxHeartbeats 1000000 in
theorem ssig_rd {p : Nat} {r : RS} {H : Heap} (h : SD H p r) (a b : Int) : Has (EE env (.fn 17) [.ptr p 0, .pv (.int .i64 a), .pv (.int .i64 b)] H) (Sdr p (.pv (.int .i64 (gS a b r).1)) (gS a b r).2 H) := by
  rw [gS_eq]
  refine EE_has (fn_has rfl ?_)
  refine seq_on [(0, .ptr p 0), (1, .pv (.int .i64 a)), (2, .pv (.int .i64 b))] H (Has.intro ⟨rfl, ⟨rfl, rfl, rfl, trivial⟩, rfl⟩) (fun r0 => ?_)
  refine seq_st (σ := Heap) (fun _ => [(0, .ptr p 0), (1, .pv (.int .i64 a)), (2, .pv (.int .i64 b)), (7, .pv (.int .u64 ((gN maxU r).1 : Nat)))]) (fun G => G) (fun G => SD G p (gN maxU r).2 ∧ KR p H G) ?_ (fun G ⟨hr, hk⟩ r0 => ?_)
  · refine callSK_has' ((snum_rd h maxU maxU_lt).mono fun z hz => ?_)
    obtain ⟨v, G⟩ := z
    obtain ⟨rfl, hr, hk⟩ := hz
    exact Has.intro ⟨rfl, G, ⟨hr, hk⟩, ⟨rfl, rfl, rfl, rfl, trivial⟩, rfl⟩
  have hlt := gN_lt maxU r
  generalize gN maxU r = g at *
  obtain ⟨n, bs, e⟩ := g
  dsimp only at hr hlt ⊢
  refine seq_on [(0, .ptr p 0), (1, .pv (.int .i64 a)), (2, .pv (.int .i64 b)), (7, .pv (.int .u64 (n : Int))), (8, .pv (.int .i64 ((n / 2 : Nat) : Int)))] G ?_ (fun r0 => ?_)
  · refine needK_has rfl ?_
    refine eqK_has_eq ((n / 2 : Nat) : Int) ((wrap_u64_emod _).trans (by rw [quo2]; omega)) ?_
    refine eqK_has_eq ((n / 2 : Nat) : Int) (wrap_i64 (by omega) (by omega)) ?_
    exact Has.intro ⟨rfl, ⟨rfl, rfl, rfl, rfl, rfl, trivial⟩, rfl⟩
  refine seq_on [(0, .ptr p 0), (1, .pv (.int .i64 a)), (2, .pv (.int .i64 b)), (8, .pv (.int .i64 (zag n)))] G ?_ (fun r0 => ?_)
  · refine needK_has rfl ?_
    refine eqK_has_eq ((n % 2 : Nat) : Int) rfl ?_
    refine boolK_beq (fun h1 => ?_) (fun h1 => ?_)
    · refine eqK_has_eq (-((n / 2 : Nat) : Int)) ((wrap_i64 (by omega) (by omega)).trans (by omega)) ?_
      refine eqK_has_eq (-((n / 2 : Nat) : Int) - 1) (wrap_i64 (by omega) (by omega)) ?_
      have hz : zag n = -((n / 2 : Nat) : Int) - 1 := by unfold zag; rw [if_pos (by omega)]; omega
      rw [hz]
      exact Has.intro ⟨rfl, ⟨rfl, rfl, rfl, rfl, trivial⟩, rfl⟩
    · have hz : zag n = ((n / 2 : Nat) : Int) := by unfold zag; rw [if_neg (by omega)]; omega
      rw [hz]
      exact Has.intro ⟨rfl, ⟨rfl, rfl, rfl, rfl, trivial⟩, rfl⟩
  generalize zag n = z
  refine seq_if [(6, .pv (.int .i64 0))] (e ≠ 0) [(0, .ptr p 0), (1, .pv (.int .i64 a)), (2, .pv (.int .i64 b)), (8, .pv (.int .i64 z))] (e = 0) G ?_ (fun h1 r0 => ?_) (fun h1 r0 => ?_)
  · refine hgetK_has _ hr.1 ?_
    refine getK_has rfl ?_
    refine boolK_bne (fun h1 => ?_) (fun h1 => ?_)
    · exact Has.intro (.inl ⟨rfl, ⟨rfl, trivial⟩, rfl, h1⟩)
    · exact Has.intro (.inr ⟨rfl, ⟨rfl, rfl, rfl, rfl, trivial⟩, rfl, h1⟩)
  · rw [if_pos h1]
    exact Has.intro ⟨rfl, hr, hk⟩
  subst h1
  rw [if_neg (by simp)]
  refine seq_if2 [(6, .pv (.int .i64 0))] (hset G p (so ([], 15))) (z < a ∨ z > b) [(8, .pv (.int .i64 z))] (¬ (z < a ∨ z > b)) G ?_ (fun h1 r0 => ?_) (fun h1 r0 => ?_)
  · refine boolK_dec (fun h1 => ?_) (fun h1 => ?_)
    · refine callSK_has (sfail hr 15 (by decide)) ?_
      exact Has.intro (.inl ⟨rfl, ⟨rfl, trivial⟩, rfl, .inl h1⟩)
    refine boolK_dec (fun h2 => ?_) (fun h2 => ?_)
    · refine callSK_has (sfail hr 15 (by decide)) ?_
      exact Has.intro (.inl ⟨rfl, ⟨rfl, trivial⟩, rfl, .inr h2⟩)
    · exact Has.intro (.inr ⟨rfl, ⟨rfl, trivial⟩, rfl, by omega⟩)
  · rw [if_pos h1]
    exact Has.intro ((sdr_put hr _ (Nat.zero_le _)).mono hk)
  rw [if_neg h1]
  exact Has.intro ⟨rfl, hr, hk⟩
theorem gF_eq (bs : List UInt8) (e : Int) : gF (bs, e) = if e ≠ 0 then (false, bs, e) else match bs with
    | [] => (false, [], 10)
    | c :: l => if c.toNat > 1 then (false, [], 11) else (decide (c.toNat = 1), l, 0) := rfl
set_option maxHeartbeats 1000000 in
theorem sflg_rd {p : Nat} {r : RS} {H : Heap} (h : SD H p r) : Has (EE env (.fn 21) [.ptr p 0] H) (Sdr p (.pv (.bool (gF r).1)) (gF r).2 H) := by
  obtain ⟨bs, e⟩ := r
  have ht : hget H p = .pcells [sv bs, .int .i64 e] := h.1
  have hb : bs.length ≤ 1000000 := h.2
  rw [gF_eq]
  refine EE_has ?_
  refine hgetK_has _ ht ?_
  refine getK_has rfl ?_
  refine boolK_bne (fun h1 => ?_) (fun h1 => ?_)
  · rw [if_pos h1]
    exact Has.intro (sdr_id h _)
  subst h1
  rw [if_neg (by simp)]
  refine hgetK_has _ ht ?_
  refine getK_has rfl ?_
  cases bs with
  | nil =>
    refine boolK_has_true (beq_self_eq_true _) ?_
    refine callSK_has (sfail h 10 (by decide)) ?_
    exact Has.intro (sdr_put h _ (Nat.zero_le _))
  | cons c l =>
    refine boolK_has_false (by simp) ?_
    refine hgetK_has _ ht ?_
    refine getK_has rfl ?_
    refine needK_has (by simp [sv_size]) ?_
    refine getK_has (v := c) rfl ?_
    dsimp only
    refine boolK_dec (fun h2 => ?_) (fun h2 => ?_)
    · rw [if_pos (by omega)]
      refine callSK_has (sfail h 11 (by decide)) ?_
      exact Has.intro (sdr_put h _ (Nat.zero_le _))
    rw [if_neg (by omega)]
    refine hgetK_has _ ht ?_
    refine getK_has rfl ?_
    refine needK_has (by simp [sv_size]; omega) ?_
    refine eqK_has_eq ⟨l.toArray⟩ (by rw [sv_extract, List.take_of_length_le (by rw [sv_size]; exact Nat.le_refl _)]; rfl) ?_
    refine hgetK_has _ ht ?_
    refine needK_has rfl ?_
    refine eqK_has ?_
    refine boolK_has_keep ?_
    have hd : ((c.toNat : Int) == 1) = decide (c.toNat = 1) := by
      rw [Bool.eq_iff_iff, beq_iff_eq, decide_eq_true_iff]; omega
    have := sdr_put (r' := (l, 0)) h (.pv (.bool (decide (c.toNat = 1)))) (by have : (c :: l).length = l.length + 1 := rfl; dsimp only; omega)
    rw [← hd] at this ⊢
    exact Has.intro this
end Go.Proofs.Ytpebkojodmjleaa
