/-
  A mask's text; what must be answered ahead of everything else; MaskOnce.
-/
import Derived.Test.YteflibnmicehcaaMkE
import Derived.Test.YteflibnmicehcaaV7
set_option linter.all false
set_option linter.unusedVariables false
set_option linter.unusedSimpArgs false
set_option linter.unusedSectionVars false
namespace Go.Proofs.Yteflibnmicehcaa
open Go Go.VM

/-- Nodes, with commas between. -/
def txStep (acc : List UInt8) (x : Nat) : List UInt8 := (if acc = [] then [] else acc ++ [44]) ++ [UInt8.ofNat (48 + x)]
def tx (l : List Nat) : List UInt8 := l.foldl txStep []
def textOf (u : Nat) : List UInt8 := if tx (nds u) = [] then [45] else tx (nds u)
theorem tx_succ {l : List Nat} {i x : Nat} (h : l[i]? = some x) : tx (l.take (i + 1)) = txStep (tx (l.take i)) x := by
  unfold tx; rw [List.take_add_one, h]; simp
theorem tx_len (l : List Nat) : (tx l).length ≤ 2 * l.length := by
  unfold tx
  have : ∀ (l : List Nat) (a : List UInt8), (l.foldl txStep a).length ≤ a.length + 2 * l.length := by
    intro l
    induction l with
    | nil => intro a; simp
    | cons x l ih =>
      intro a
      have h1 := ih (txStep a x)
      have h2 : (txStep a x).length ≤ a.length + 2 := by
        unfold txStep
        split
        · simp
        · simp
      simp only [List.foldl_cons, List.length_cons]
      omega
  have := this l []
  simpa using this

def txBody : VCode := .block 1 (.seq (.seq (.ops [⟨some 8, none, .load1 (.t 3)⟩, ⟨some 9, none, .bin .num .neq (.t 8) (.c (.str ⟨#[]⟩))⟩])
  (.cond (.t 9) (.ops [⟨some 10, none, .load1 (.t 3)⟩, ⟨some 11, none, .bin .num .add (.t 10) (.c (.str ⟨#[44]⟩))⟩, ⟨none, none, .store1 (.t 3) (.t 11)⟩]) .skip))
  (.ops [⟨some 12, none, .load1 (.t 3)⟩, ⟨some 13, none, .mov (.t 4)⟩, ⟨some 14, none, .conv .u8 (.t 13)⟩, ⟨some 15, none, .bin .num .add (.c (.int .u8 48)) (.t 14)⟩, ⟨some 16, none, .buildSlice false 1 1 [.int .u8 0] [(0, 1, .t 15)]⟩, ⟨some 17, none, .strOf (.t 16)⟩, ⟨some 18, none, .bin .num .add (.t 12) (.t 17)⟩, ⟨none, none, .store1 (.t 3) (.t 18)⟩]))
def txLo (r : Regs) : HObj := .loop ⟨.ready, r, [7], .ops [⟨some 4, none, .mov (.t 7)⟩], txBody⟩
def txH (m : Int) (r : Regs) (s : List UInt8) : Heap := [.pcells [sv s], .pcells [.int .i64 m], txLo r]

theorem tx_yd (m : Int) (r : Regs) (hA : Agr r [(3, .ptr 0 0)]) (s : List UInt8) (hs : s.length ≤ 1000) (x : Nat) (hx : x < 8) :
    EE env (.yield 2) [.pv (.int .i64 (x : Int))] (txH m r s) = some (.pv (.bool true), txH m r (txStep s x)) := by
  obtain ⟨r0, hr0⟩ : ∃ r0, r = setL r0 [(3, .ptr 0 0)] := ⟨r, hA.eq.symm⟩
  clear hA
  subst hr0
  refine Has.eq (EE_has ?_)
  refine hgetK_has _ rfl ?_
  refine hgetK_has _ rfl ?_
  refine hgetK_has _ rfl ?_
  refine getK_has rfl ?_
  refine boolK_sne (b := []) (fun h => ?_) (fun h => ?_)
  · refine hgetK_has _ rfl ?_
    refine getK_has rfl ?_
    refine needK_has (decide_eq_true (by rw [sv_size]; show s.length + 1 ≤ _; omega)) ?_
    refine eqK_has_eq _ (sv_app s [44]) ?_
    refine hgetK_has _ rfl ?_
    refine needK_has rfl ?_
    refine eqK_has_eq [sv (s ++ [44])] rfl ?_
    refine hgetK_has _ rfl ?_
    refine getK_has rfl ?_
    refine eqK_has_eq ((x : Nat) : Int) (u8_nat (by omega)) ?_
    refine eqK_has_eq ((48 + x : Nat) : Int) (u8_nat (n := 48 + x) (by omega)) ?_
    refine needK_has rfl ?_
    refine bindK_has (v := [UInt8.ofNat (48 + x)]) rfl ?_
    refine needK_has (decide_eq_true (by rw [sv_size, sv_size]; simp; omega)) ?_
    refine eqK_has_eq _ (sv_app (s ++ [44]) [UInt8.ofNat (48 + x)]) ?_
    refine hgetK_has _ rfl ?_
    refine needK_has rfl ?_
    refine eqK_has_eq [sv (s ++ [44] ++ [UInt8.ofNat (48 + x)])] rfl ?_
    refine hgetK_has _ rfl ?_
    refine Has.intro ?_
    unfold txStep
    rw [if_neg h]; rfl
  · subst h
    refine hgetK_has _ rfl ?_
    refine getK_has rfl ?_
    refine eqK_has_eq ((x : Nat) : Int) (u8_nat (by omega)) ?_
    refine eqK_has_eq ((48 + x : Nat) : Int) (u8_nat (n := 48 + x) (by omega)) ?_
    refine needK_has rfl ?_
    refine bindK_has (v := [UInt8.ofNat (48 + x)]) rfl ?_
    refine needK_has (decide_eq_true (by rw [sv_size, sv_size]; simp)) ?_
    refine eqK_has_eq _ (sv_app [] [UInt8.ofNat (48 + x)]) ?_
    refine hgetK_has _ rfl ?_
    refine needK_has rfl ?_
    refine eqK_has_eq [sv ([] ++ [UInt8.ofNat (48 + x)])] rfl ?_
    refine hgetK_has _ rfl ?_
    exact Has.intro rfl

theorem nds_small {u i x : Nat} (h : (nds u)[i]? = some x) : x < 8 := by
  have := List.mem_of_getElem? h
  unfold nds at this
  exact List.mem_range.1 (List.mem_filter.1 this).1
theorem text_ok (m : Int) : EP (EE env) 24 [.int .i64 m] = some (sv (textOf (m8 m))) := by
  have hcnt := cnt_le _ (m8_lt m)
  have key : ∀ R0 : Regs, Agr R0 [(3, .ptr 0 0)] → Has (EE env (.fn 29) [.yield 2, .ptr 1 0] (txH m R0 []))
      (fun x => x.2 = txH m R0 (tx (nds (m8 m)))) := by
    intro R0 hA
    refine (nodes_iter 2 1 m (fun i H => i ≤ cnt (m8 m) ∧ H = txH m R0 (tx ((nds (m8 m)).take i))) (fun _ => False) (fun i H x ⟨h2, h3⟩ hx => ?_) _ ⟨Nat.zero_le _, rfl⟩ rfl).mono fun x hx => ?_
    · have hlt := (List.getElem?_eq_some_iff.1 hx).1
      subst h3
      have hl := tx_len ((nds (m8 m)).take i)
      rw [List.length_take] at hl
      refine Has.of_eq (tx_yd m R0 hA _ (by omega) x (nds_small hx)) (.inl ⟨rfl, hlt, ?_⟩)
      rw [tx_succ hx]
    · rcases hx with ⟨_, h3⟩ | h
      · rw [h3]; unfold cnt; rw [List.take_length]
      · exact h.elim
  refine Has.eq (EP_has ?_)
  refine hgetK_has _ rfl ?_
  refine needK_has rfl ?_
  refine eqK_has_eq [sv []] rfl ?_
  refine callSK_has (show EE env (.fn 26) [.pv (.int .i64 m)] [.pcells [sv []]] = some (.fn 29 [] [.ptr 1 0], [.pcells [sv []], .pcells [.int .i64 m]]) from EE_intro rfl) ?_
  refine callSK_has' ((key _ ⟨rfl, trivial⟩).mono fun x hx => ?_)
  obtain ⟨w, J⟩ := x
  dsimp only at hx ⊢
  subst hx
  refine hgetK_has _ rfl ?_
  refine hgetK_has _ rfl ?_
  refine getK_has rfl ?_
  unfold textOf
  refine boolK_seq (b := []) (fun h => ?_) (fun h => ?_)
  · rw [if_pos h]
    exact Has.intro (Has.intro rfl)
  · rw [if_neg h]
    refine hgetK_has _ rfl ?_
    refine getK_has rfl ?_
    exact Has.intro (Has.intro rfl)

theorem first_ok : EP (EE env) 7 [] = some (.bool true) := by
  have h1 : EP (EE env) 12 [.int .i64 2, .int .i64 9] = some (slv [1, 2, 3]) := (masks_ok 2 9).trans (congrArg (fun z => some (slv z)) (by decide))
  have h2 : EP (EE env) 16 [.int .i64 6] = some (.tup [.int .i64 1, .bool true]) := least_ok 6
  have h3 : ∀ x, EP (EE env) 9 [.sl x 3 [.int .i64 1, .int .i64 2, .int .i64 9]] = some (.int .i64 6) := fun x => of_ok x [1, 2, 9] (by decide)
  have h4 : EP (EE env) 20 [.int .i64 255] = some (.int .i64 8) := count_ok 255
  have h5 : EP (EE env) 24 [.int .i64 6] = some (sv [49, 44, 50]) := (text_ok 6).trans (congrArg (fun z => some (sv z)) (by decide))
  have h6 : EP (EE env) 21 [.int .i64 2, .int .i64 6] = some (.bool true) := under_ok 2 6
  have h7 : EP (EE env) 22 [.int .i64 4, .int .i64 3] = some (.bool true) := ahead_ok 4 3
  have h8 : EP (EE env) 13 [.int .i64 5, .int .i64 9] = some (slv [0, 2]) := (nodes_ok 5 9).trans (congrArg (fun z => some (slv z)) (by decide))
  refine Has.eq (EP_has ?_)
  refine callPK_has h1 ?_
  refine callPK_has h2 ?_
  refine boolK_has_true rfl ?_
  refine needK_has rfl ?_
  refine getK_has rfl ?_
  refine boolK_has_true rfl ?_
  refine needK_has rfl ?_
  refine getK_has rfl ?_
  refine boolK_has_true rfl ?_
  refine needK_has rfl ?_
  refine getK_has rfl ?_
  refine boolK_has_true rfl ?_
  refine callPK_has (h3 _) ?_
  refine boolK_has_true rfl ?_
  refine boolK_has_true rfl ?_
  refine callPK_has h4 ?_
  refine boolK_has_true rfl ?_
  refine callPK_has h5 ?_
  refine boolK_seq (a := [49, 44, 50]) (b := [49, 44, 50]) (fun _ => ?_) (fun h => absurd rfl h)
  refine callPK_has h6 ?_
  refine callPK_has h7 ?_
  refine callPK_has h8 ?_
  refine boolK_has_true rfl ?_
  exact Has.intro (Has.intro rfl)
end Go.Proofs.Yteflibnmicehcaa
