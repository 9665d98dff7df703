/-
  SlotReads in the abstract machine.
-/
import Derived.Test.YtnkdddlkghkpjaaSlG
set_option linter.all false
set_option linter.unusedVariables false
set_option linter.unusedSimpArgs false
set_option linter.unusedSectionVars false
namespace Go.Proofs.Ytnkdddlkghkpjaa
open Go Go.VM

set_option maxHeartbeats 2000000 in
theorem reads_law (ps : List PV) (hA : HasArgs [.sl 1 (.int .u8), .sl 1 (.int .u8)] ps) : ∃ H', EE env (.fn 3) (ps.map .pv) [] = some (.pv (.bool true), H') := by
  obtain ⟨p1, _, rfl, h1, p2, _, rfl, h2, rfl⟩ := hA
  obtain ⟨x, a, rfl, _, hx⟩ := arg_bytes h1
  obtain ⟨y, b, rfl, _, hy⟩ := arg_bytes h2
  have hx : okX x a := hx
  have hy : okX y b := hy
  refine law_end (EE_has (fn_has rfl ?_))
  refine seq_on [(0, .pv (.sl x a.length (bc a))), (1, .pv (.sl y b.length (bc b)))] [] (by (refine Has.intro ⟨rfl, ?_, rfl⟩; (repeat (first | exact trivial | refine ⟨rfl, ?_⟩)))) (fun r => ?_)
  refine seq_on [(0, .pv (.sl x a.length (bc a))), (1, .pv (.sl y b.length (bc b)))] [] ?_ (fun r => ?_)
  · refine callPK_has first_ok ?_
    (refine Has.intro ⟨rfl, ?_, rfl⟩; (repeat (first | exact trivial | refine ⟨rfl, ?_⟩)))
  refine seq_if [(4, .pv (.bool true))] True [(0, .pv (.sl x a.length (bc a))), (1, .pv (.sl y b.length (bc b)))] (a.length ≤ 2000 ∧ b.length ≤ 2000) [] ?_ (fun h r => Has.intro rfl) (fun ⟨hla, hlb⟩ r => ?_)
  · refine boolK_dec (fun h1 => ?_) (fun h1 => ?_)
    · exact Has.intro (.inl ⟨rfl, ⟨rfl, trivial⟩, rfl, trivial⟩)
    refine boolK_dec (fun h2 => ?_) (fun h2 => ?_)
    · exact Has.intro (.inl ⟨rfl, ⟨rfl, trivial⟩, rfl, trivial⟩)
    · exact Has.intro (.inr ⟨rfl, ⟨rfl, rfl, trivial⟩, rfl, by omega, by omega⟩)
  have hga := get_ok x a hx.g (by omega)
  have hra := rget_ok a (by omega)
  have hrb := rget_ok b (by omega)
  have hpk := pick_ok x y a b hx.g hy.g (by omega) (by omega)
  have hP : pickM a b = if (getM a).2.2 = 0 ∧ ((getM b).2.2 ≠ 0 ∨ (getM a).1 ≥ (getM b).1) then (0, (getM a).1, (getM a).2.1, true)
    else if (getM b).2.2 = 0 then (1, (getM b).1, (getM b).2.1, true) else (0, 0, [], false) := rfl
  unfold getV getX at hga
  unfold rgetV at hra hrb
  generalize getM a = A at *
  generalize getM b = B at *
  obtain ⟨g, p, e⟩ := A
  obtain ⟨h, q, f⟩ := B
  dsimp only at hga hra hrb hP
  obtain ⟨gx, hgx⟩ : ∃ gx, gx = (if e = 0 then cx p else Ext.nil) := ⟨_, rfl⟩
  rw [← hgx] at hga
  refine seq_on [(0, .pv (.sl x a.length (bc a))), (1, .pv (.sl y b.length (bc b))), (5, .pv (.int .i64 g)), (6, .pv (.sl gx p.length (bc p))), (7, .pv (.int .i64 e))] [] ?_ (fun r => ?_)
  · refine callPK_has hga ?_
    (refine Has.intro ⟨rfl, ?_, rfl⟩; (repeat (first | exact trivial | refine ⟨rfl, ?_⟩)))
  refine seq_on [(0, .pv (.sl x a.length (bc a))), (1, .pv (.sl y b.length (bc b))), (5, .pv (.int .i64 g)), (6, .pv (.sl gx p.length (bc p))), (7, .pv (.int .i64 e)), (8, .pv (.int .i64 g)), (9, .pv (sv p)), (10, .pv (.int .i64 e))] [] ?_ (fun r => ?_)
  · refine needK_has (by rw [bc_length]; simp) ?_
    refine bindK_has (strOf_bc a) ?_
    refine callPK_has hra ?_
    (refine Has.intro ⟨rfl, ?_, rfl⟩; (repeat (first | exact trivial | refine ⟨rfl, ?_⟩)))
  refine seq_on [(0, .pv (.sl x a.length (bc a))), (1, .pv (.sl y b.length (bc b))), (5, .pv (.int .i64 g)), (6, .pv (.sl gx p.length (bc p))), (7, .pv (.int .i64 e)), (8, .pv (.int .i64 g)), (9, .pv (sv p)), (10, .pv (.int .i64 e)), (11, .pv (.int .i64 h)), (12, .pv (sv q)), (13, .pv (.int .i64 f))] [] ?_ (fun r => ?_)
  · refine needK_has (by rw [bc_length]; simp) ?_
    refine bindK_has (strOf_bc b) ?_
    refine callPK_has hrb ?_
    (refine Has.intro ⟨rfl, ?_, rfl⟩; (repeat (first | exact trivial | refine ⟨rfl, ?_⟩)))
  refine seq_on [(0, .pv (.sl x a.length (bc a))), (1, .pv (.sl y b.length (bc b))), (8, .pv (.int .i64 g)), (9, .pv (sv p)), (10, .pv (.int .i64 e)), (11, .pv (.int .i64 h)), (12, .pv (sv q)), (13, .pv (.int .i64 f))] [] ?_ (fun r => ?_)
  · refine boolK_bne_f rfl ?_
    refine needK_has (by rw [bc_length]; simp) ?_
    refine bindK_has (strOf_bc p) ?_
    refine boolK_has_eq (c := false) ((str_bne p p).trans (decide_eq_false (fun h => h rfl))) ?_
    refine boolK_bne_f rfl ?_
    (refine Has.intro ⟨rfl, ?_, rfl⟩; (repeat (first | exact trivial | refine ⟨rfl, ?_⟩)))
  have hpp : ∀ {i : Int} {g' : Nat} {p' : List UInt8} {ok : Bool}, pickM a b = (i, g', p', ok) → EP (EE env) 10 [.sl x a.length (bc a), .sl y b.length (bc b)] = some (.tup [.int .i64 i, .int .i64 g', .sl (if ok = true then cx p' else .nil) p'.length (bc p'), .bool ok]) := fun hq => by rw [hpk, pickV_of hq]
  by_cases c1 : e = 0
  · subst c1
    by_cases c2 : f = 0 ∧ ¬ g ≥ h
    · obtain ⟨c2, c3⟩ := c2
      subst c2
      have hq := hpp ((hP.trans (if_neg (fun h => by rcases h.2 with h | h; exact h rfl; exact c3 h))).trans (if_pos rfl))
      refine callPK_has hq ?_
      refine boolK_beq_t rfl ?_
      refine boolK_bne_f rfl ?_
      refine boolK_dec_f (by omega) ?_
      refine boolK_beq_t rfl ?_
      refine boolK_beq_t rfl ?_
      refine boolK_beq_t rfl ?_
      refine needK_has (by rw [bc_length]; simp) ?_
      refine bindK_has (strOf_bc q) ?_
      refine boolK_has_eq (c := true) ((str_beq q q).trans (decide_eq_true rfl)) ?_
      exact Has.intro rfl
    · have c2' : f ≠ 0 ∨ g ≥ h := by
        by_cases c3 : f = 0
        · right; exact Classical.byContradiction fun c4 => c2 ⟨c3, c4⟩
        · exact .inl c3
      have hq := hpp (hP.trans (if_pos ⟨rfl, c2'⟩))
      refine callPK_has hq ?_
      refine boolK_beq_t rfl ?_
      by_cases c3 : f = 0
      · have c4 : g ≥ h := by rcases c2' with h | h; exact absurd c3 h; exact h
        refine boolK_bne_f c3 ?_
        refine boolK_dec_t (by omega) ?_
        refine boolK_beq_t rfl ?_
        refine boolK_beq_t rfl ?_
        refine needK_has (by rw [bc_length]; simp) ?_
        refine bindK_has (strOf_bc p) ?_
        refine boolK_has_eq (c := true) ((str_beq p p).trans (decide_eq_true rfl)) ?_
        exact Has.intro rfl
      · refine boolK_bne_t c3 ?_
        refine boolK_beq_t rfl ?_
        refine boolK_beq_t rfl ?_
        refine needK_has (by rw [bc_length]; simp) ?_
        refine bindK_has (strOf_bc p) ?_
        refine boolK_has_eq (c := true) ((str_beq p p).trans (decide_eq_true rfl)) ?_
        exact Has.intro rfl
  · rw [if_neg (fun h => c1 h.1)] at hP
    by_cases c2 : f = 0
    · have hq := hpp (hP.trans (if_pos c2))
      refine callPK_has hq ?_
      refine boolK_beq_f c1 ?_
      refine boolK_beq_t c2 ?_
      refine boolK_beq_t rfl ?_
      refine boolK_beq_t rfl ?_
      refine needK_has (by rw [bc_length]; simp) ?_
      refine bindK_has (strOf_bc q) ?_
      refine boolK_has_eq (c := true) ((str_beq q q).trans (decide_eq_true rfl)) ?_
      exact Has.intro rfl
    · have hq := hpp (hP.trans (if_neg c2))
      refine callPK_has hq ?_
      refine boolK_beq_f c1 ?_
      refine boolK_beq_f c2 ?_
      refine boolK_beq_t rfl ?_
      refine boolK_beq_t rfl ?_
      refine boolK_beq_t rfl ?_
      exact Has.intro rfl
end Go.Proofs.Ytnkdddlkghkpjaa
