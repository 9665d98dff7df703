/-
  Find.
-/
import Derived.Test.YtnnhkkocdgegfaaSpD
set_option linter.all false
set_option linter.unusedVariables false
set_option linter.unusedSimpArgs false
set_option linter.unusedSectionVars false
namespace Go.Proofs.Ytnnhkkocdgegfaa
open Go Go.VM

structure Pd where
  name : List UInt8
  prio : Int
  pol : Int
  l : List Ct
def pdc (p : Pd) (x : Ext) : List PV := [sv p.name, .int .i64 p.prio, .int .i64 p.pol, .sl x p.l.length (flat ct p.l)]
def pdh (p : Pd) (id cap : Nat) : List AV := [.pv (sv p.name), .pv (.int .i64 p.prio), .pv (.int .i64 p.pol), .hs 10 id 0 p.l.length cap]
/-- A pod, as a value. -/
def PA (u : AV) (H : Heap) (p : Pd) : Prop := (∃ x, u = .pv (.agg (pdc p x))) ∨ (∃ id cap, u = .agg (pdh p id cap) ∧ hget H id = .pcells (flat ct p.l))
theorem PA.grow {u : AV} {H : Heap} {p : Pd} (h : PA u H p) (J : Heap) : PA u (H ++ J) p := by
  rcases h with h | ⟨id, cap, h1, h2⟩
  · exact .inl h
  · exact .inr ⟨id, cap, h1, (hget_app J (hget_lt h2 ((by intro h; cases h)))).trans h2⟩
def foundB (n : Int) : PV := .tup [.int .i64 (if 0 > n then 0 else n), .bool (decide (n ≥ 0))]
set_option maxHeartbeats 1000000 in
theorem find_ok (u : AV) (p : Pd) (hl : p.l.length ≤ maxLen) (name : List UInt8) (H : Heap) (hu : PA u H p) :
    Has (EE env (.fn 16) [u, .pv (sv name)] H) (fun y => y.1 = .pv (foundB (findI name p.l)) ∧ ∃ J, y.2 = H ++ J) := by
  refine EE_has ?_
  rcases id hu with ⟨x, rfl⟩ | ⟨id, cap, rfl, hid⟩
  · refine hgetK_has (.pcells (pdc p x)) ((hget_app _ (by simp)).trans (hget_append_same H _)) ?_
    refine getK_has rfl ?_
    refine callSK_has' ((index_ok _ p.l hl name (H ++ [HObj.pcells (pdc p x)]).length ((H ++ [HObj.pcells (pdc p x)]) ++ [HObj.pcells [sv name]]) (.inl ⟨x, rfl⟩) (hget_append_same _ _)).mono fun y hy => ?_)
    obtain ⟨v, H'⟩ := y
    obtain ⟨rfl, J, rfl⟩ := hy
    (repeat (first | refine hgetK_last ?_ | refine hgetK_set ?_ | refine needK_has rfl ?_ | refine getK_has rfl ?_ | refine secK_has rfl (of_decide_eq_true rfl) ?_ | refine eqK_has ?_))
    refine boolK_has_keep ?_
    refine Has.intro ⟨rfl, [HObj.pcells (pdc p x)] ++ [HObj.pcells [sv name]] ++ J, by simp⟩
  · refine hgetK_has (.cells (pdh p id cap)) ((hget_app _ (by simp)).trans (hget_append_same H _)) ?_
    have hid' := (hget_app ([HObj.cells (pdh p id cap)] ++ [HObj.pcells [sv name]]) (hget_lt hid ((by intro h; cases h)))).trans hid
    rw [← List.append_assoc] at hid'
    refine callSK_has' ((index_ok _ p.l hl name (H ++ [HObj.cells (pdh p id cap)]).length ((H ++ [HObj.cells (pdh p id cap)]) ++ [HObj.pcells [sv name]]) (.inr ⟨id, cap, rfl, hid'⟩) (hget_append_same _ _)).mono fun y hy => ?_)
    obtain ⟨v, H'⟩ := y
    obtain ⟨rfl, J, rfl⟩ := hy
    (repeat (first | refine hgetK_last ?_ | refine hgetK_set ?_ | refine needK_has rfl ?_ | refine getK_has rfl ?_ | refine secK_has rfl (of_decide_eq_true rfl) ?_ | refine eqK_has ?_))
    refine boolK_has_keep ?_
    refine Has.intro ⟨rfl, [HObj.cells (pdh p id cap)] ++ [HObj.pcells [sv name]] ++ J, by simp⟩
set_option maxHeartbeats 1000000 in
theorem rfind_ok (x : Ext) (p : Pd) (hl : p.l.length ≤ maxLen) (name : List UInt8) : EP (EE env) 17 [.agg (pdc p x), sv name] = some (.int .i64 (findI name p.l)) := by
  rw [maxLen_eq] at hl
  refine Has.eq (EP_has ?_)
  refine hgetK_has _ rfl ?_
  refine getK_has rfl ?_
  refine loopK_has ?_
  refine iterE_loopJ (σ := Nat) (fun i => p.l.length - i) (fun i => [(1, .pv (sv name)), (8, .pv (.sl x p.l.length (flat ct p.l))), (9, .pv (.int .i64 p.l.length)), (10, .pv (.int .i64 i))]) (fun _ => [.pcells (pdc p x)]) (fun i => i ≤ p.l.length ∧ findI name p.l = findF name i (p.l.drop i)) (fun i ⟨hi, he⟩ r J => ?_) 0 ⟨Nat.zero_le _, rfl⟩ [] ⟨rfl, rfl, rfl, rfl, trivial⟩ rfl
  refine boolK_dec (fun hc => ?_) (fun hc => ?_)
  · have hlt : i < p.l.length := by omega
    obtain ⟨c, hcg⟩ : ∃ c, p.l[i]? = some c := ⟨_, List.getElem?_eq_getElem hlt⟩
    obtain ⟨g1, g2⟩ := flat_get ct_len hcg
    rw [findF_step hcg] at he
    refine needK_has (by (first | rfl | (simp; done) | (simp; omega))) ?_
    refine secK_has g1 g2 ?_
    (repeat (first | refine hgetK_last ?_ | refine hgetK_set ?_ | refine needK_has rfl ?_ | refine getK_has rfl ?_ | refine secK_has rfl (of_decide_eq_true rfl) ?_ | refine eqK_has ?_))
    refine boolK_has_eq (c := decide (c.name = name)) (str_beq _ _) ?_
    by_cases hn : c.name = name
    · rw [decide_eq_true hn]
      rw [if_pos hn] at he
      refine Has.intro (Has.intro (Has.intro ?_))
      rw [he]
    · rw [decide_eq_false hn]
      rw [if_neg hn] at he
      refine eqK_has_eq _ (i64_succ (by omega)) ?_
      exact Has.intro ⟨i + 1, ⟨hlt, he⟩, by omega, ⟨rfl, rfl, rfl, rfl, trivial⟩, _, rfl⟩
  · have : i = p.l.length := by omega
    subst this
    rw [List.drop_length] at he
    refine Has.intro (Has.intro (Has.intro ?_))
    rw [he]; rfl
end Go.Proofs.Ytnnhkkocdgegfaa
