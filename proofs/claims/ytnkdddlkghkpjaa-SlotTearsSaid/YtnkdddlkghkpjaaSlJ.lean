/-
  SlotLatest in the abstract machine.
-/
import Derived.Test.YtnkdddlkghkpjaaSlI
set_option linter.all false
set_option linter.unusedVariables false
set_option linter.unusedSimpArgs false
set_option linter.unusedSectionVars false
namespace Go.Proofs.Ytnkdddlkghkpjaa
open Go Go.VM

theorem els_ints : ∀ (n : Nat) (cs : List PV), Els (HasTy (.int .i64)) 1 n cs → ∃ l : List Int, l.length = n ∧ cs = ints l ∧ ∀ x ∈ l, -9223372036854775808 ≤ x ∧ x ≤ 9223372036854775807 := by
  intro n
  induction n with
  | zero => intro cs h; exact ⟨[], rfl, h, fun x h => by cases h⟩
  | succ n ih =>
    intro cs ⟨a, b, h1, h2, ⟨x, e, hx⟩, h4⟩
    obtain ⟨l, g1, g2, g3⟩ := ih b h4
    refine ⟨x :: l, by simp [g1], by rw [h1, g2, e]; rfl, fun y hy => ?_⟩
    rcases List.mem_cons.1 hy with rfl | hy
    · exact wf_i64 hx
    · exact g3 y hy
theorem putE_of {g : Int} {b : List UInt8} (h : putB g b ≠ []) : putE g b = .nn ∧ genP g ∧ putB g b = frame g.toNat b := by
  unfold putE
  unfold putB at h ⊢
  split at h
  · rename_i hp
    rw [if_pos hp, if_pos hp]
    exact ⟨rfl, hp.1, rfl⟩
  · exact absurd rfl h
theorem putB_nil {g : Int} {b : List UInt8} (hb : b.length ≤ 65536) (h : putB g b = []) : g < 1 ∨ g > 1152921504606846976 := by
  unfold putB at h
  split at h
  · have := congrArg List.length h
    rw [frame_len] at this
    simp at this
  · rename_i hp
    unfold genP at hp
    omega
theorem frame_inj {g h : Nat} {a b : List UInt8} (g1 : 1 ≤ g) (g2 : g ≤ 1152921504606846976) (ha : a.length ≤ 65536) (h1 : 1 ≤ h) (h2 : h ≤ 1152921504606846976) (hb : b.length ≤ 65536) (e : frame g a = frame h b) : g = h ∧ a = b := by
  have q1 := frame_get0 g1 g2 ha
  rw [e, frame_get0 h1 h2 hb] at q1
  injection q1 with q1 q2
  injection q2 with q2 _
  exact ⟨q1.symm, q2.symm⟩
set_option maxHeartbeats 4000000 in
theorem latest_law (ps : List PV) (hA : HasArgs [.arr 2 1 (.int .i64), .sl 1 (.int .u8), .sl 1 (.int .u8)] ps) : ∃ H', EE env (.fn 6) (ps.map .pv) [] = some (.pv (.bool true), H') := by
  obtain ⟨p1, _, rfl, ⟨cs, rfl, hcs⟩, p2, _, rfl, h1, p3, _, rfl, h2, rfl⟩ := hA
  obtain ⟨l, hl, rfl, hlb⟩ := els_ints _ _ hcs
  obtain ⟨g0, g1, rfl⟩ : ∃ g0 g1, l = [g0, g1] := by
    match l, hl with
    | [a, b], _ => exact ⟨a, b, rfl⟩
  have hg0 := hlb g0 (by simp)
  have hg1 := hlb g1 (by simp)
  obtain ⟨x, a, rfl, _, hx⟩ := arg_bytes h1
  obtain ⟨y, b, rfl, _, hy⟩ := arg_bytes h2
  refine law_end (EE_has (fn_has rfl ?_))
  refine seq_on [(1, .pv (.sl x a.length (bc a))), (2, .pv (.sl y b.length (bc b))), (3, .ptr 0 0)] [.pcells [.int .i64 g0, .int .i64 g1]] (by (refine Has.intro ⟨rfl, ?_, rfl⟩; (repeat (first | exact trivial | refine ⟨rfl, ?_⟩)))) (fun r => ?_)
  refine seq_on [(1, .pv (.sl x a.length (bc a))), (2, .pv (.sl y b.length (bc b))), (3, .ptr 0 0)] [.pcells [.int .i64 g0, .int .i64 g1]] ?_ (fun r => ?_)
  · refine callPK_has first_ok ?_
    (refine Has.intro ⟨rfl, ?_, rfl⟩; (repeat (first | exact trivial | refine ⟨rfl, ?_⟩)))
  refine seq_if [(6, .pv (.bool true))] True [(1, .pv (.sl x a.length (bc a))), (2, .pv (.sl y b.length (bc b))), (3, .ptr 0 0)] (a.length ≤ 500 ∧ b.length ≤ 500) [.pcells [.int .i64 g0, .int .i64 g1]] ?_ (fun h r => Has.intro rfl) (fun ⟨hla, hlb⟩ r => ?_)
  · refine boolK_dec (fun h1 => ?_) (fun h1 => ?_)
    · exact Has.intro (.inl ⟨rfl, ⟨rfl, trivial⟩, rfl, trivial⟩)
    refine boolK_dec (fun h2 => ?_) (fun h2 => ?_)
    · exact Has.intro (.inl ⟨rfl, ⟨rfl, trivial⟩, rfl, trivial⟩)
    · exact Has.intro (.inr ⟨rfl, ⟨rfl, rfl, rfl, trivial⟩, rfl, by omega, by omega⟩)
  have hp0 := put_ok g0 hg0 x a (by omega)
  have hp1 := put_ok g1 hg1 y b (by omega)
  have hn0 := @putB_nil g0 a (by omega)
  have hn1 := @putB_nil g1 b (by omega)
  have he0 := @putE_of g0 a
  have he1 := @putE_of g1 b
  have hX := putB_len g0 a
  have hY := putB_len g1 b
  generalize putB g0 a = X at *
  generalize putB g1 b = Y at *
  generalize putE g0 a = ex at *
  generalize putE g1 b = ey at *
  refine seq_on [(1, .pv (.sl x a.length (bc a))), (2, .pv (.sl y b.length (bc b))), (3, .ptr 0 0), (7, .pv (.sl ex X.length (bc X))), (8, .pv (.sl ey Y.length (bc Y)))] [.pcells [.int .i64 g0, .int .i64 g1]] ?_ (fun r => ?_)
  · (refine needK_has rfl ?_; refine hgetK_has _ rfl ?_; refine getK_has (v := .int .i64 g0) rfl ?_)
    refine callPK_has hp0 ?_
    (refine needK_has rfl ?_; refine hgetK_has _ rfl ?_; refine getK_has (v := .int .i64 g1) rfl ?_)
    refine callPK_has hp1 ?_
    (refine Has.intro ⟨rfl, ?_, rfl⟩; (repeat (first | exact trivial | refine ⟨rfl, ?_⟩)))
  refine seq_if [(6, .pv (.bool true))] True [(1, .pv (.sl x a.length (bc a))), (2, .pv (.sl y b.length (bc b))), (3, .ptr 0 0), (7, .pv (.sl ex X.length (bc X))), (8, .pv (.sl ey Y.length (bc Y)))] (X ≠ [] ∧ Y ≠ []) [.pcells [.int .i64 g0, .int .i64 g1]] ?_ (fun h r => Has.intro rfl) (fun ⟨hX0, hY0⟩ r => ?_)
  · refine boolK_beq (fun h1 => ?_) (fun h1 => ?_)
    · have hg := hn0 (List.eq_nil_of_length_eq_zero (by omega))
      (refine needK_has rfl ?_; refine hgetK_has _ rfl ?_; refine getK_has (v := .int .i64 g0) rfl ?_)
      refine boolK_dec (fun h2 => ?_) (fun h2 => ?_)
      · exact Has.intro (.inl ⟨rfl, ⟨rfl, trivial⟩, rfl, trivial⟩)
      (refine needK_has rfl ?_; refine hgetK_has _ rfl ?_; refine getK_has (v := .int .i64 g0) rfl ?_)
      refine boolK_dec_t (by omega) ?_
      exact Has.intro (.inl ⟨rfl, ⟨rfl, trivial⟩, rfl, trivial⟩)
    refine boolK_beq (fun h2 => ?_) (fun h2 => ?_)
    · have hg := hn1 (List.eq_nil_of_length_eq_zero (by omega))
      (refine needK_has rfl ?_; refine hgetK_has _ rfl ?_; refine getK_has (v := .int .i64 g0) rfl ?_)
      refine boolK_dec (fun h2 => ?_) (fun h2 => ?_)
      · exact Has.intro (.inl ⟨rfl, ⟨rfl, trivial⟩, rfl, trivial⟩)
      (refine needK_has rfl ?_; refine hgetK_has _ rfl ?_; refine getK_has (v := .int .i64 g0) rfl ?_)
      refine boolK_dec (fun h2 => ?_) (fun h2 => ?_)
      · exact Has.intro (.inl ⟨rfl, ⟨rfl, trivial⟩, rfl, trivial⟩)
      (refine needK_has rfl ?_; refine hgetK_has _ rfl ?_; refine getK_has (v := .int .i64 g1) rfl ?_)
      refine boolK_dec (fun h2 => ?_) (fun h2 => ?_)
      · exact Has.intro (.inl ⟨rfl, ⟨rfl, trivial⟩, rfl, trivial⟩)
      (refine needK_has rfl ?_; refine hgetK_has _ rfl ?_; refine getK_has (v := .int .i64 g1) rfl ?_)
      refine boolK_dec_t (by omega) ?_
      exact Has.intro (.inl ⟨rfl, ⟨rfl, trivial⟩, rfl, trivial⟩)
    · exact Has.intro (.inr ⟨rfl, ⟨rfl, rfl, rfl, rfl, rfl, trivial⟩, rfl, fun h => h1 (by rw [h]; rfl), fun h => h2 (by rw [h]; rfl)⟩)
  obtain ⟨rfl, ⟨q01, q02⟩, rfl⟩ := he0 hX0
  obtain ⟨rfl, ⟨q11, q12⟩, rfl⟩ := he1 hY0
  obtain ⟨G0, rfl⟩ : ∃ G : Nat, g0 = G := ⟨g0.toNat, by omega⟩
  obtain ⟨G1, rfl⟩ : ∃ G : Nat, g1 = G := ⟨g1.toNat, by omega⟩
  simp only [Int.toNat_natCast] at *
  have gX : getM (frame G0 a) = (G0, a, 0) := frame_get0 (by omega) (by omega) (by omega)
  have gY : getM (frame G1 b) = (G1, b, 0) := frame_get0 (by omega) (by omega) (by omega)
  have pXY := pick_ok .nn .nn (frame G0 a) (frame G1 b) (.inr rfl) (.inr rfl) (by omega) (by omega)
  have pYX := pick_ok .nn .nn (frame G1 b) (frame G0 a) (.inr rfl) (.inr rfl) (by omega) (by omega)
  have hP : pickM (frame G0 a) (frame G1 b) = if (0 : Int) = 0 ∧ ((0 : Int) ≠ 0 ∨ G0 ≥ G1) then (0, G0, a, true) else if (0 : Int) = 0 then (1, G1, b, true) else (0, 0, [], false) := by unfold pickM; rw [gX, gY]
  have hQ : pickM (frame G1 b) (frame G0 a) = if (0 : Int) = 0 ∧ ((0 : Int) ≠ 0 ∨ G1 ≥ G0) then (0, G1, b, true) else if (0 : Int) = 0 then (1, G0, a, true) else (0, 0, [], false) := by unfold pickM; rw [gX, gY]
  obtain ⟨i, j, g, w, e1, e2, hd⟩ : ∃ (i j : Int) (g : Nat) (w : List UInt8), pickM (frame G0 a) (frame G1 b) = (i, g, w, true) ∧ (∃ w2, pickM (frame G1 b) (frame G0 a) = (j, g, w2, true)) ∧
      (g : Int) = (if (G1 : Int) > (G0 : Int) then (G1 : Int) else (G0 : Int)) ∧ w = (if (G1 : Int) > (G0 : Int) then b else a) ∧ (G0 = G1 → i + j = 0) ∧ (G0 ≠ G1 → i + j = 1) ∧ 0 ≤ i ∧ i ≤ 1 ∧ 0 ≤ j ∧ j ≤ 1 := by
    rcases Nat.lt_trichotomy G0 G1 with h | h | h
    · refine ⟨1, 0, G1, b, hP.trans ((if_neg (fun h' => by rcases h'.2 with h' | h'; exact h' rfl; omega)).trans (if_pos rfl)), ⟨b, hQ.trans (if_pos ⟨rfl, .inr (by omega)⟩)⟩, by rw [if_pos (by omega)], by rw [if_pos (by omega)], by omega, by omega, by omega, by omega, by omega, by omega⟩
    · subst h
      refine ⟨0, 0, G0, a, hP.trans (if_pos ⟨rfl, .inr (Nat.le_refl _)⟩), ⟨b, hQ.trans (if_pos ⟨rfl, .inr (Nat.le_refl _)⟩)⟩, by rw [if_neg (by omega)], by rw [if_neg (by omega)], by omega, fun h => absurd rfl h, by omega, by omega, by omega, by omega⟩
    · refine ⟨0, 1, G0, a, hP.trans (if_pos ⟨rfl, .inr (by omega)⟩), ⟨a, hQ.trans ((if_neg (fun h' => by rcases h'.2 with h' | h'; exact h' rfl; omega)).trans (if_pos rfl))⟩, by rw [if_neg (by omega)], by rw [if_neg (by omega)], by omega, by omega, by omega, by omega, by omega, by omega⟩
  obtain ⟨w2, e2⟩ := e2
  obtain ⟨d1, d2, d3, d4, d5, d6, d7, d8⟩ := hd
  rw [pickV_of e1] at pXY
  rw [pickV_of e2] at pYX
  refine seq_on [(1, .pv (.sl x a.length (bc a))), (2, .pv (.sl y b.length (bc b))), (3, .ptr 0 0), (7, .pv (.sl .nn (frame G0 a).length (bc (frame G0 a)))), (8, .pv (.sl .nn (frame G1 b).length (bc (frame G1 b)))), (9, .pv (.int .i64 i)), (10, .pv (.int .i64 g)), (11, .pv (.sl (cx w) w.length (bc w))), (12, .pv (.bool true))] [.pcells [.int .i64 G0, .int .i64 G1]] ?_ (fun r => ?_)
  · refine callPK_has pXY ?_
    (refine Has.intro ⟨rfl, ?_, rfl⟩; (repeat (first | exact trivial | refine ⟨rfl, ?_⟩)))
  refine seq_on [(1, .pv (.sl x a.length (bc a))), (2, .pv (.sl y b.length (bc b))), (3, .ptr 0 0), (9, .pv (.int .i64 i)), (10, .pv (.int .i64 g)), (11, .pv (.sl (cx w) w.length (bc w))), (12, .pv (.bool true)), (13, .pv (.int .i64 j)), (14, .pv (.int .i64 g)), (16, .pv (.bool true))] [.pcells [.int .i64 G0, .int .i64 G1]] ?_ (fun r => ?_)
  · refine callPK_has pYX ?_
    (refine Has.intro ⟨rfl, ?_, rfl⟩; (repeat (first | exact trivial | refine ⟨rfl, ?_⟩)))
  refine seq_on [(2, .pv (.sl y b.length (bc b))), (3, .ptr 0 0), (9, .pv (.int .i64 i)), (10, .pv (.int .i64 g)), (11, .pv (.sl (cx w) w.length (bc w))), (12, .pv (.bool true)), (13, .pv (.int .i64 j)), (14, .pv (.int .i64 g)), (16, .pv (.bool true)), (17, .pv (.sl x a.length (bc a)))] [.pcells [.int .i64 G0, .int .i64 G1]] (by (refine Has.intro ⟨rfl, ?_, rfl⟩; (repeat (first | exact trivial | refine ⟨rfl, ?_⟩)))) (fun r => ?_)
  refine seq_st (σ := Ext) (fun z => [(3, .ptr 0 0), (9, .pv (.int .i64 i)), (10, .pv (.int .i64 g)), (11, .pv (.sl (cx w) w.length (bc w))), (12, .pv (.bool true)), (13, .pv (.int .i64 j)), (14, .pv (.int .i64 g)), (16, .pv (.bool true)), (17, .pv (.sl z w.length (bc w)))]) (fun _ => [.pcells [.int .i64 G0, .int .i64 G1]]) (fun _ => True) ?_ (fun z _ r => ?_)
  · refine needK_has rfl ?_
    refine hgetK_has _ rfl ?_
    refine getK_has (v := .int .i64 G1) rfl ?_
    refine needK_has rfl ?_
    refine hgetK_has _ rfl ?_
    refine getK_has (v := .int .i64 G0) rfl ?_
    refine boolK_dec (fun h => ?_) (fun h => ?_)
    · rw [if_pos h] at d2
      subst d2
      exact Has.intro ⟨rfl, y, trivial, ⟨rfl, rfl, rfl, rfl, rfl, rfl, rfl, rfl, rfl, trivial⟩, rfl⟩
    · rw [if_neg h] at d2
      subst d2
      exact Has.intro ⟨rfl, x, trivial, ⟨rfl, rfl, rfl, rfl, rfl, rfl, rfl, rfl, rfl, trivial⟩, rfl⟩
  refine seq_on [(3, .ptr 0 0), (9, .pv (.int .i64 i)), (13, .pv (.int .i64 j))] [.pcells [.int .i64 G0, .int .i64 G1]] ?_ (fun r => ?_)
  · refine needK_has rfl ?_
    refine hgetK_has _ rfl ?_
    refine getK_has (v := .int .i64 G0) rfl ?_
    refine needK_has rfl ?_
    refine hgetK_has _ rfl ?_
    refine getK_has (v := .int .i64 G1) rfl ?_
    refine eqK_has_eq (if (G1 : Int) > (G0 : Int) then (G1 : Int) else (G0 : Int)) rfl ?_
    refine boolK_bne_f d1 ?_
    refine boolK_bne_f rfl ?_
    refine needK_has (by rw [bc_length]; simp) ?_
    refine bindK_has (strOf_bc w) ?_
    refine needK_has (by rw [bc_length]; simp) ?_
    refine bindK_has (strOf_bc w) ?_
    refine boolK_has_eq (c := false) ((str_bne w w).trans (decide_eq_false (fun h => h rfl))) ?_
    (refine Has.intro ⟨rfl, ?_, rfl⟩; (repeat (first | exact trivial | refine ⟨rfl, ?_⟩)))
  refine needK_has rfl ?_
  refine hgetK_has _ rfl ?_
  refine getK_has (v := .int .i64 G0) rfl ?_
  refine needK_has rfl ?_
  refine hgetK_has _ rfl ?_
  refine getK_has (v := .int .i64 G1) rfl ?_
  refine boolK_beq (fun h => ?_) (fun h => ?_)
  · refine eqK_has_eq (i + j) (wrap_i64 (by omega) (by omega)) ?_
    refine boolK_beq_t (d3 (by omega)) ?_
    exact Has.intro rfl
  · refine needK_has rfl ?_
    refine hgetK_has _ rfl ?_
    refine getK_has (v := .int .i64 G0) rfl ?_
    refine needK_has rfl ?_
    refine hgetK_has _ rfl ?_
    refine getK_has (v := .int .i64 G1) rfl ?_
    refine boolK_bne_t h ?_
    refine eqK_has_eq (i + j) (wrap_i64 (by omega) (by omega)) ?_
    refine boolK_beq_t (d4 (by omega)) ?_
    exact Has.intro rfl
end Go.Proofs.Ytnkdddlkghkpjaa
