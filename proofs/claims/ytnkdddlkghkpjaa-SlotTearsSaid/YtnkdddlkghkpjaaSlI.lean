/-
  SlotPuts in the abstract machine.
-/
import Derived.Test.YtnkdddlkghkpjaaSlG
set_option linter.all false
set_option linter.unusedVariables false
set_option linter.unusedSimpArgs false
set_option linter.unusedSectionVars false
namespace Go.Proofs.Ytnkdddlkghkpjaa
open Go Go.VM

abbrev TCase : Ty := .st [(1, .int .i64), (1, .sl 1 (.int .u8)), (1, .sl 1 (.int .u8)), (1, .int .i64)]
theorem wf_i64 {n : Int} (h : (Lit.int .i64 n).wf = true) : -9223372036854775808 ≤ n ∧ n ≤ 9223372036854775807 := by
  simp only [Lit.wf, IntKind.min, IntKind.max, IntKind.bits, IntKind.signed, Bool.and_eq_true, decide_eq_true_eq] at h
  simp at h
  omega
theorem arg_case {p : PV} (h : HasArg TCase p) : ∃ (gen n : Int) (x y : Ext) (body was : List UInt8), p = .agg [.int .i64 gen, .sl x body.length (bc body), .sl y was.length (bc was), .int .i64 n] ∧ (-9223372036854775808 ≤ gen ∧ gen ≤ 9223372036854775807) ∧ okX x body ∧ okX y was := by
  obtain ⟨ps, rfl, _, _, rfl, _, ⟨gen, rfl, hg⟩, a, _, rfl, ha, h1, b, _, rfl, hb, h2, _, _, rfl, _, ⟨n, rfl, hn⟩, rfl⟩ := h
  obtain ⟨p1, rfl⟩ := list1 ha
  obtain ⟨p2, rfl⟩ := list1 hb
  obtain ⟨x, body, rfl, _, hx⟩ := arg_bytes h1
  obtain ⟨y, was, rfl, _, hy⟩ := arg_bytes h2
  exact ⟨gen, n, x, y, body, was, rfl, wf_i64 hg, hx, hy⟩
theorem putB_of {g : Nat} {b : List UInt8} (h1 : 1 ≤ g) (h2 : g ≤ 1152921504606846976) (hb : b.length ≤ 65536) : putB g b = frame g b := by
  unfold putB
  rw [if_pos ⟨⟨by omega, by omega⟩, hb⟩, Int.toNat_natCast]
theorem putB_len (gen : Int) (b : List UInt8) : (putB gen b).length ≤ 20 + b.length := by
  unfold putB
  split
  · rw [frame_len]; exact Nat.le_refl _
  · simp
set_option maxHeartbeats 4000000 in
theorem puts_law (ps : List PV) (hA : HasArgs [TCase] ps) : ∃ H', EE env (.fn 4) (ps.map .pv) [] = some (.pv (.bool true), H') := by
  obtain ⟨p1, _, rfl, h1, rfl⟩ := hA
  obtain ⟨gen, n, x, y, body, was, rfl, hgen, hx, hy⟩ := arg_case h1
  refine law_end (EE_has (fn_has rfl ?_))
  refine seq_on [(1, .ptr 0 0)] [.pcells [.int .i64 gen, .sl x body.length (bc body), .sl y was.length (bc was), .int .i64 n]] (by (refine Has.intro ⟨rfl, ?_, rfl⟩; (repeat (first | exact trivial | refine ⟨rfl, ?_⟩)))) (fun r => ?_)
  refine seq_on [(1, .ptr 0 0)] [.pcells [.int .i64 gen, .sl x body.length (bc body), .sl y was.length (bc was), .int .i64 n]] ?_ (fun r => ?_)
  · refine callPK_has first_ok ?_
    (refine Has.intro ⟨rfl, ?_, rfl⟩; (repeat (first | exact trivial | refine ⟨rfl, ?_⟩)))
  generalize hH : ([.pcells [.int .i64 gen, .sl x body.length (bc body), .sl y was.length (bc was), .int .i64 n]] : Heap) = H
  refine seq_on [(3, .pv (.int .i64 gen)), (4, .pv (.sl x body.length (bc body))), (5, .pv (.sl y was.length (bc was))), (6, .pv (.int .i64 n))] H ?_ (fun r => ?_)
  · subst hH
    refine hgetK_has _ rfl ?_
    refine getK_has rfl ?_
    refine hgetK_has _ rfl ?_
    refine getK_has rfl ?_
    refine hgetK_has _ rfl ?_
    refine getK_has rfl ?_
    refine hgetK_has _ rfl ?_
    refine getK_has rfl ?_
    (refine Has.intro ⟨rfl, ?_, rfl⟩; (repeat (first | exact trivial | refine ⟨rfl, ?_⟩)))
  refine seq_if [(2, .pv (.bool true))] True [(3, .pv (.int .i64 gen)), (4, .pv (.sl x body.length (bc body))), (5, .pv (.sl y was.length (bc was))), (6, .pv (.int .i64 n))] (body.length ≤ 2000 ∧ was.length ≤ 2000) H ?_ (fun h r => Has.intro rfl) (fun ⟨hlb, hlw⟩ r => ?_)
  · refine boolK_dec (fun h1 => ?_) (fun h1 => ?_)
    · exact Has.intro (.inl ⟨rfl, ⟨rfl, trivial⟩, rfl, trivial⟩)
    refine boolK_dec (fun h2 => ?_) (fun h2 => ?_)
    · exact Has.intro (.inl ⟨rfl, ⟨rfl, trivial⟩, rfl, trivial⟩)
    · exact Has.intro (.inr ⟨rfl, ⟨rfl, rfl, rfl, rfl, trivial⟩, rfl, by omega, by omega⟩)
  refine seq_on [(3, .pv (.int .i64 gen)), (4, .pv (.sl x body.length (bc body))), (5, .pv (.sl y was.length (bc was))), (6, .pv (.int .i64 n)), (7, .pv (sv []))] H (by (refine Has.intro ⟨rfl, ?_, rfl⟩; (repeat (first | exact trivial | refine ⟨rfl, ?_⟩)))) (fun r => ?_)
  have hput := put_ok gen hgen x body (by omega)
  have hW : putB gen body = if genP gen then frame gen.toNat body else [] := by
    unfold putB
    by_cases h : genP gen
    · rw [if_pos ⟨h, by omega⟩, if_pos h]
    · rw [if_neg (fun h' => h h'.1), if_neg h]
  have hWl := putB_len gen body
  generalize putB gen body = W at *
  refine seq_on [(3, .pv (.int .i64 gen)), (4, .pv (.sl x body.length (bc body))), (5, .pv (.sl y was.length (bc was))), (6, .pv (.int .i64 n)), (7, .pv (sv W))] H ?_ (fun r => ?_)
  · refine boolK_dec (fun h1 => ?_) (fun h1 => ?_)
    · refine boolK_dec (fun h2 => ?_) (fun h2 => ?_)
      · rw [if_pos ⟨by omega, by omega⟩] at hW
        obtain ⟨g, rfl⟩ : ∃ g : Nat, gen = g := ⟨gen.toNat, by omega⟩
        rw [Int.toNat_natCast] at hW
        refine needK_has (by rw [bc_length]; simp) ?_
        refine bindK_has (strOf_bc body) ?_
        refine callPK_has (rput_ok g (by omega) body (by omega)) ?_
        rw [hW]
        (refine Has.intro ⟨rfl, ?_, rfl⟩; (repeat (first | exact trivial | refine ⟨rfl, ?_⟩)))
      · rw [if_neg (fun h => by have := h.2; omega)] at hW
        rw [hW]
        (refine Has.intro ⟨rfl, ?_, rfl⟩; (repeat (first | exact trivial | refine ⟨rfl, ?_⟩)))
    · rw [if_neg (fun h => by have := h.1; omega)] at hW
      rw [hW]
      (refine Has.intro ⟨rfl, ?_, rfl⟩; (repeat (first | exact trivial | refine ⟨rfl, ?_⟩)))
  refine seq_on [(3, .pv (.int .i64 gen)), (4, .pv (.sl x body.length (bc body))), (5, .pv (.sl y was.length (bc was))), (6, .pv (.int .i64 n)), (7, .pv (sv W)), (8, .pv (.int .i64 0))] H (by (refine Has.intro ⟨rfl, ?_, rfl⟩; (repeat (first | exact trivial | refine ⟨rfl, ?_⟩)))) (fun r => ?_)
  obtain ⟨sz, hsz⟩ : ∃ sz : Int, sz = if 0 ≤ n ∧ n ≤ 65536 then n + 20 else 0 := ⟨_, rfl⟩
  refine seq_on [(3, .pv (.int .i64 gen)), (4, .pv (.sl x body.length (bc body))), (5, .pv (.sl y was.length (bc was))), (6, .pv (.int .i64 n)), (7, .pv (sv W)), (8, .pv (.int .i64 sz))] H ?_ (fun r => ?_)
  · refine boolK_dec (fun h1 => ?_) (fun h1 => ?_)
    · refine boolK_dec (fun h2 => ?_) (fun h2 => ?_)
      · rw [hsz, if_pos ⟨by omega, by omega⟩]
        refine eqK_has_eq (n + 20) (wrap_i64 (by omega) (by omega)) ?_
        (refine Has.intro ⟨rfl, ?_, rfl⟩; (repeat (first | exact trivial | refine ⟨rfl, ?_⟩)))
      · rw [hsz, if_neg (fun h => h2 h.2)]
        (refine Has.intro ⟨rfl, ?_, rfl⟩; (repeat (first | exact trivial | refine ⟨rfl, ?_⟩)))
    · rw [hsz, if_neg (fun h => by have := h.1; omega)]
      (refine Has.intro ⟨rfl, ?_, rfl⟩; (repeat (first | exact trivial | refine ⟨rfl, ?_⟩)))
  refine seq_on [(5, .pv (.sl y was.length (bc was))), (6, .pv (.int .i64 n)), (7, .pv (sv W)), (8, .pv (.int .i64 sz)), (9, .pv (.sl (putE gen body) W.length (bc W)))] H ?_ (fun r => ?_)
  · refine callPK_has hput ?_
    (refine Has.intro ⟨rfl, ?_, rfl⟩; (repeat (first | exact trivial | refine ⟨rfl, ?_⟩)))
  have hmet := met_ok y (putE gen body) was W n hy (by omega) (by omega)
  unfold metM at hmet
  obtain ⟨T, hT⟩ : ∃ T, T = tornB was W n := ⟨_, rfl⟩
  have hTl : T.length = was.length := by rw [hT, tornB_len]
  have htorn := torn_ok y (putE gen body) was W n hy (by omega) (by omega)
  have hrtorn := rtorn_ok was W n (by omega) (by omega)
  rw [← hT] at hmet htorn hrtorn
  refine seq_on [(5, .pv (.sl y was.length (bc was))), (6, .pv (.int .i64 n)), (7, .pv (sv W)), (8, .pv (.int .i64 sz)), (9, .pv (.sl (putE gen body) W.length (bc W))), (10, .pv (sv T))] H ?_ (fun r => ?_)
  · refine needK_has (by rw [bc_length]; simp) ?_
    refine bindK_has (strOf_bc was) ?_
    refine callPK_has hrtorn ?_
    (refine Has.intro ⟨rfl, ?_, rfl⟩; (repeat (first | exact trivial | refine ⟨rfl, ?_⟩)))
  have hrt := rget_ok T (by omega)
  have hrw := rget_ok was (by omega)
  obtain ⟨t1, t2, t3⟩ := getM_le T
  obtain ⟨w1, w2, w3⟩ := getM_le was
  unfold rgetV at hrt hrw
  generalize getM T = M at *
  generalize getM was = U at *
  obtain ⟨g, p, e⟩ := M
  obtain ⟨h, q, f⟩ := U
  dsimp only at hmet hrt hrw t1 t2 t3 w1 w2 w3
  refine seq_on [(5, .pv (.sl y was.length (bc was))), (6, .pv (.int .i64 n)), (7, .pv (sv W)), (8, .pv (.int .i64 sz)), (9, .pv (.sl (putE gen body) W.length (bc W))), (10, .pv (sv T)), (11, .pv (.int .i64 g)), (12, .pv (sv p)), (13, .pv (.int .i64 e))] H ?_ (fun r => ?_)
  · refine callPK_has hrt ?_
    (refine Has.intro ⟨rfl, ?_, rfl⟩; (repeat (first | exact trivial | refine ⟨rfl, ?_⟩)))
  refine seq_on [(5, .pv (.sl y was.length (bc was))), (6, .pv (.int .i64 n)), (7, .pv (sv W)), (8, .pv (.int .i64 sz)), (9, .pv (.sl (putE gen body) W.length (bc W))), (10, .pv (sv T)), (11, .pv (.int .i64 g)), (12, .pv (sv p)), (13, .pv (.int .i64 e)), (14, .pv (.int .i64 h)), (15, .pv (sv q)), (16, .pv (.int .i64 f))] H ?_ (fun r => ?_)
  · refine needK_has (by rw [bc_length]; simp) ?_
    refine bindK_has (strOf_bc was) ?_
    refine callPK_has hrw ?_
    (refine Has.intro ⟨rfl, ?_, rfl⟩; (repeat (first | exact trivial | refine ⟨rfl, ?_⟩)))
  obtain ⟨mt, hmt⟩ : ∃ mt, mt = decide (e = 0 ∧ putB g p ≠ W ∧ (f ≠ 0 ∨ putB g p ≠ putB h q)) := ⟨_, rfl⟩
  rw [← hmt] at hmet
  refine seq_on [(5, .pv (.sl y was.length (bc was))), (6, .pv (.int .i64 n)), (7, .pv (sv W)), (8, .pv (.int .i64 sz)), (9, .pv (.sl (putE gen body) W.length (bc W))), (10, .pv (sv T)), (17, .pv (.bool mt))] H ?_ (fun r => ?_)
  · refine boolK_beq (fun h1 => ?_) (fun h1 => ?_)
    rotate_left
    · rw [hmt, decide_eq_false (fun h => h1 h.1)]
      (refine Has.intro ⟨rfl, ?_, rfl⟩; (repeat (first | exact trivial | refine ⟨rfl, ?_⟩)))
    have hg1 := t3 h1
    have hpg := putB_of hg1 t1 t2
    refine callPK_has (rput_ok g t1 p (by omega)) ?_
    refine boolK_has_eq (c := decide (frame g p ≠ W)) (str_bne _ _) ?_
    by_cases h2 : frame g p ≠ W
    rotate_left
    · rw [decide_eq_false h2, hmt, decide_eq_false (fun h => h2 (by rw [← hpg]; exact h.2.1))]
      (refine Has.intro ⟨rfl, ?_, rfl⟩; (repeat (first | exact trivial | refine ⟨rfl, ?_⟩)))
    rw [decide_eq_true h2]
    refine boolK_bne (fun h3 => ?_) (fun h3 => ?_)
    · rw [hmt, decide_eq_true ⟨h1, by rw [hpg]; exact h2, .inl h3⟩]
      (refine Has.intro ⟨rfl, ?_, rfl⟩; (repeat (first | exact trivial | refine ⟨rfl, ?_⟩)))
    have hpq := putB_of (w3 h3) w1 w2
    refine callPK_has (rput_ok g t1 p (by omega)) ?_
    refine callPK_has (rput_ok h w1 q (by omega)) ?_
    refine boolK_has_eq (c := decide (frame g p ≠ frame h q)) (str_bne _ _) ?_
    by_cases h4 : frame g p ≠ frame h q
    · rw [decide_eq_true h4, hmt, decide_eq_true ⟨h1, by rw [hpg]; exact h2, .inr (by rw [hpg, hpq]; exact h4)⟩]
      (refine Has.intro ⟨rfl, ?_, rfl⟩; (repeat (first | exact trivial | refine ⟨rfl, ?_⟩)))
    · rw [decide_eq_false h4, hmt, decide_eq_false (fun h => by rcases h.2.2 with h | h; exact h h3; exact h4 (by rw [hpg, hpq] at h; exact h))]
      (refine Has.intro ⟨rfl, ?_, rfl⟩; (repeat (first | exact trivial | refine ⟨rfl, ?_⟩)))
  refine needK_has (by rw [bc_length]; simp) ?_
  refine bindK_has (strOf_bc W) ?_
  refine boolK_has_eq (c := true) ((str_beq W W).trans (decide_eq_true rfl)) ?_
  refine callPK_has (size_ok n) ?_
  refine boolK_beq_t hsz.symm ?_
  refine callPK_has htorn ?_
  refine needK_has (by rw [bc_length, hTl]; simp) ?_
  refine bindK_has (strOf_bc T) ?_
  refine boolK_has_eq (c := true) ((str_beq T T).trans (decide_eq_true rfl)) ?_
  refine callPK_has hmet ?_
  refine boolK_has_true (beq_self_eq_true _) ?_
  exact Has.intro rfl
end Go.Proofs.Ytnkdddlkghkpjaa
