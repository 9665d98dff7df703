/-
  Containers that are found by their names.
-/
import Derived.Test.YtnnhkkocdgegfaaSpC
set_option linter.all false
set_option linter.unusedVariables false
set_option linter.unusedSimpArgs false
set_option linter.unusedSectionVars false
namespace Go.Proofs.Ytnnhkkocdgegfaa
open Go Go.VM

/-- A list of containers, as a slice. -/
def SL (v : AV) (H : Heap) (l : List Ct) : Prop := (∃ x, v = .pv (.sl x l.length (flat ct l))) ∨ (∃ id cap, v = .hs 10 id 0 l.length cap ∧ hget H id = .pcells (flat ct l))
theorem SL.grow {v : AV} {H : Heap} {l : List Ct} (h : SL v H l) (J : Heap) : SL v (H ++ J) l := by
  rcases h with h | ⟨id, cap, h1, h2⟩
  · exact .inl h
  · exact .inr ⟨id, cap, h1, (hget_app J (hget_lt h2 ((by intro h; cases h)))).trans h2⟩
def findF (name : List UInt8) : Nat → List Ct → Int
  | _, [] => -1
  | i, c :: l => if c.name = name then (i : Int) else findF name (i + 1) l
def findI (name : List UInt8) (l : List Ct) : Int := findF name 0 l
theorem findF_step {name : List UInt8} {l : List Ct} {i : Nat} {c : Ct} (h : l[i]? = some c) : findF name i (l.drop i) = if c.name = name then (i : Int) else findF name (i + 1) (l.drop (i + 1)) := by
  rw [drop_of h]; rfl
theorem str_beq (a b : List UInt8) : ((⟨a.toArray⟩ : ByteArray).toList == (⟨b.toArray⟩ : ByteArray).toList) = decide (a = b) := by
  rw [Bool.eq_iff_iff]; simp
theorem at10 (i : Nat) : addO 0 (mulE ((i : Nat) : Int).toNat 10) = i * 10 := by
  show mulE i 10 = _
  rw [mulE_eq]
theorem is_ok (c : Ct) (name : List UInt8) (q : Nat) (H : Heap) (hq : hget H q = .pcells [sv name]) :
    EE env (.fn 36) [.pv (.agg (ct c)), .ptr q 0] H = some (.pv (.bool (decide (c.name = name))), H ++ [.pcells (ct c)]) := by
  refine Has.eq (EE_has ?_)
  (repeat (first | refine hgetK_last ?_ | refine hgetK_set ?_ | refine needK_has rfl ?_ | refine getK_has rfl ?_ | refine secK_has rfl (of_decide_eq_true rfl) ?_ | refine eqK_has ?_))
  refine hgetK_has _ ((hget_app _ (hget_lt hq ((by intro h; cases h)))).trans hq) ?_
  refine getK_has rfl ?_
  refine boolK_has_eq (c := decide (c.name = name)) ?_ ?_
  · exact str_beq c.name name
  exact Has.intro rfl
set_option maxHeartbeats 1000000 in
theorem index_ok (v : AV) (l : List Ct) (hl : l.length ≤ maxLen) (name : List UInt8) (q : Nat) (H : Heap) (hv : SL v H l) (hq : hget H q = .pcells [sv name]) :
    Has (EE env (.fn 35) [v, .fn 36 [] [.ptr q 0]] H) (fun y => y.1 = .pv (.int .i64 (findI name l)) ∧ ∃ J, y.2 = H ++ J) := by
  rw [maxLen_eq] at hl
  refine EE_has ?_
  rcases id hv with ⟨x, rfl⟩ | ⟨id, cap, rfl, hid⟩
  · skip
    refine loopK_has ?_
    refine iterE_loopJ (σ := Nat) (fun i => l.length - i) (fun i => [(0, .pv (.sl x l.length (flat ct l))), (1, .fn 36 [] [.ptr q 0]), (6, .pv (.sl x l.length (flat ct l))), (7, .pv (.int .i64 l.length)), (8, .pv (.int .i64 i))]) (fun _ => H) (fun i => i ≤ l.length ∧ findI name l = findF name i (l.drop i)) (fun i ⟨hi, he⟩ r J => ?_) 0 ⟨Nat.zero_le _, rfl⟩ [] ⟨rfl, rfl, rfl, rfl, rfl, trivial⟩ (List.append_nil _).symm
    refine boolK_dec (fun hc => ?_) (fun hc => ?_)
    · have hlt : i < l.length := by omega
      obtain ⟨c, hcg⟩ : ∃ c, l[i]? = some c := ⟨_, List.getElem?_eq_getElem hlt⟩
      obtain ⟨g1, g2⟩ := flat_get ct_len hcg
      rw [findF_step hcg] at he
      have hq' := (hget_app J (hget_lt hq ((by intro h; cases h)))).trans hq
      refine needK_has (by (first | rfl | (simp; done) | (simp; omega))) ?_
      refine secK_has g1 g2 ?_
      refine callSK_has (is_ok c name q _ hq') ?_
      by_cases hn : c.name = name
      · rw [decide_eq_true hn]
        rw [if_pos hn] at he
        refine Has.intro (Has.intro ⟨?_, _, List.append_assoc _ _ _⟩)
        rw [he]; rfl
      · rw [decide_eq_false hn]
        rw [if_neg hn] at he
        refine eqK_has_eq _ (i64_succ (by omega)) ?_
        exact Has.intro ⟨i + 1, ⟨hlt, he⟩, by omega, ⟨rfl, rfl, rfl, rfl, rfl, trivial⟩, _, List.append_assoc _ _ _⟩
    · have : i = l.length := by omega
      subst this
      rw [List.drop_length] at he
      refine Has.intro (Has.intro ⟨?_, J, rfl⟩)
      rw [he]; rfl
  · skip
    refine loopK_has ?_
    refine iterE_loopJ (σ := Nat) (fun i => l.length - i) (fun i => [(0, .hs 10 id 0 l.length cap), (1, .fn 36 [] [.ptr q 0]), (6, .hs 10 id 0 l.length cap), (7, .pv (.int .i64 l.length)), (8, .pv (.int .i64 i))]) (fun _ => H) (fun i => i ≤ l.length ∧ findI name l = findF name i (l.drop i)) (fun i ⟨hi, he⟩ r J => ?_) 0 ⟨Nat.zero_le _, rfl⟩ [] ⟨rfl, rfl, rfl, rfl, rfl, trivial⟩ (List.append_nil _).symm
    refine boolK_dec (fun hc => ?_) (fun hc => ?_)
    · have hlt : i < l.length := by omega
      obtain ⟨c, hcg⟩ : ∃ c, l[i]? = some c := ⟨_, List.getElem?_eq_getElem hlt⟩
      obtain ⟨g1, g2⟩ := flat_get ct_len hcg
      rw [findF_step hcg] at he
      have hq' := (hget_app J (hget_lt hq ((by intro h; cases h)))).trans hq
      refine needK_has (by (first | rfl | (simp; done) | (simp; omega))) ?_
      refine hgetK_has _ ((hget_app J (hget_lt hid ((by intro h; cases h)))).trans hid) ?_
      refine secK_has (v := ct c) (by rw [at10]; exact g1) (by rw [at10]; exact g2) ?_
      refine callSK_has (is_ok c name q _ hq') ?_
      by_cases hn : c.name = name
      · rw [decide_eq_true hn]
        rw [if_pos hn] at he
        refine Has.intro (Has.intro ⟨?_, _, List.append_assoc _ _ _⟩)
        rw [he]; rfl
      · rw [decide_eq_false hn]
        rw [if_neg hn] at he
        refine eqK_has_eq _ (i64_succ (by omega)) ?_
        exact Has.intro ⟨i + 1, ⟨hlt, he⟩, by omega, ⟨rfl, rfl, rfl, rfl, rfl, trivial⟩, _, List.append_assoc _ _ _⟩
    · have : i = l.length := by omega
      subst this
      rw [List.drop_length] at he
      refine Has.intro (Has.intro ⟨?_, J, rfl⟩)
      rw [he]; rfl
end Go.Proofs.Ytnnhkkocdgegfaa
