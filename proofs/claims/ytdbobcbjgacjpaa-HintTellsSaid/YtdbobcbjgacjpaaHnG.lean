/-
  Over.
-/
import Derived.Test.YtdbobcbjgacjpaaHnF
set_option linter.all false
set_option linter.unusedVariables false
set_option linter.unusedSimpArgs false
set_option linter.unusedSectionVars false
namespace Go.Proofs.Ytdbobcbjgacjpaa
open Go Go.VM

def pad8 (f : Nat → Int) : Nat → Int := fun j => bif Nat.blt j 8 then f j else 0
def pad1 (n : Int) : Nat → Int
  | 0 => n
  | _ + 1 => 0
def oBody : VCode := .block 1 (.seq (.ops [⟨some 21, none, .mov (.t 9)⟩, ⟨some 22, none, .load1 (.t 5)⟩, ⟨some 23, none, .mov (.t 9)⟩, ⟨some 24, none, .idxAddrA 8 1 (.t 3) (.t 23)⟩, ⟨some 25, none, .load1 (.t 24)⟩, ⟨some 26, none, .minmax false [.t 22, .t 25]⟩, ⟨some 27, none, .idxAddrA 8 1 (.t 8) (.t 21)⟩, ⟨none, none, .store1 (.t 27) (.t 26)⟩])
  (.ops [⟨some 28, none, .load1 (.t 5)⟩, ⟨some 29, none, .mov (.t 9)⟩, ⟨some 30, none, .idxAddrA 8 1 (.t 8) (.t 29)⟩, ⟨some 31, none, .load1 (.t 30)⟩, ⟨some 32, none, .bin .num .sub (.t 28) (.t 31)⟩, ⟨none, none, .store1 (.t 5) (.t 32)⟩]))
def oLo (r : Regs) : HObj := .loop ⟨.ready, r, [20], .ops [⟨some 9, none, .mov (.t 20)⟩], oBody⟩
def oH (f : Nat → Int) (m : Int) (r : Regs) (p : Int × (Nat → Int)) : Heap := [.pcells (tab 8 (iv f)), .pcells [.int .i64 p.1], .pcells (tab 8 (iv fun _ => 0)), .pcells (tab 8 (iv p.2)), .pcells [.int .i64 m], oLo r]
theorem o_yd (f : Nat → Int) (m : Int) (r : Regs) (hA : Agr r [(3, .ptr 0 0), (5, .ptr 1 0), (8, .ptr 3 0)]) (p : Int × (Nat → Int)) (x : Nat) (hx : x < 8) (hp : cb p.1) (hf : cb (f x)) :
    EE env (.yield 5) [.pv (.int .i64 (x : Int))] (oH f m r p) = some (.pv (.bool true), oH f m r (stp f p x)) := by
  obtain ⟨r0, hr0⟩ : ∃ r0, r = setL r0 [(3, .ptr 0 0), (5, .ptr 1 0), (8, .ptr 3 0)] := ⟨r, hA.eq.symm⟩
  clear hA
  subst hr0
  obtain ⟨q, g⟩ := p
  unfold cb at hp hf
  dsimp only at hp
  refine Has.eq (EE_has ?_)
  refine hgetK_has _ rfl ?_
  refine hgetK_has _ rfl ?_
  refine hgetK_has _ rfl ?_
  refine getK_has rfl ?_
  refine needK_has (by simp; omega) ?_
  refine hgetK_has _ rfl ?_
  refine getK_has (v := .int .i64 (f x)) (tab_get _ hx) ?_
  refine eqK_has_eq (min q (f x)) (by show (if f x < q then f x else q) = _; split <;> omega) ?_
  refine needK_has (by simp; omega) ?_
  refine hgetK_has _ rfl ?_
  refine needK_has (tab_blt _ hx) ?_
  refine eqK_has_eq (tab 8 (iv fun j => if j = x then min q (f x) else g j)) (by
    refine tab_set_eq (i := x) ?_ fun j _ hj => ?_
    · show PV.int .i64 (if x = x then min q (f x) else g x) = _
      rw [if_pos rfl]
    · show PV.int .i64 (g j) = .int .i64 (if j = x then min q (f x) else g j)
      rw [if_neg hj]) ?_
  refine hgetK_has _ rfl ?_
  refine getK_has rfl ?_
  refine needK_has (by simp; omega) ?_
  refine hgetK_has _ rfl ?_
  refine getK_has (v := .int .i64 (min q (f x))) ((tab_get _ hx).trans (by show some (PV.int .i64 (if x = x then min q (f x) else g x)) = _; rw [if_pos rfl])) ?_
  refine eqK_has_eq (q - min q (f x)) (wrap_i64 (by omega) (by omega)) ?_
  refine hgetK_has _ rfl ?_
  refine needK_has rfl ?_
  refine eqK_has_eq [.int .i64 (q - min q (f x))] rfl ?_
  refine hgetK_has _ rfl ?_
  exact Has.intro rfl

def ovP (f : Nat → Int) (m need : Int) : PV := if Right (pad8 f) (pad1 need) m then .tup [.agg (tab 8 (iv (ovn f (m8 m) need 8).2)), .bool true] else .tup [.agg (tab 8 (iv fun _ => 0)), .bool false]
theorem over_ok (f : Nat → Int) (m need : Int) : EP (EE env) 9 [.agg (tab 8 (iv f)), .int .i64 m, .int .i64 need] = some (ovP f m need) := by
  refine Has.eq (EP_has ?_)
  refine hgetK_has _ rfl ?_
  refine secK_has (v := tab 8 (iv f)) (tab_sec _).1 (tab_sec _).2 ?_
  refine hgetK_has _ rfl ?_
  refine getK_has rfl ?_
  refine callPK_dec (Enough_ok (pad8 f) (pad1 need) m) (fun h => ?_) (fun h => ?_)
  · have hf : ∀ i, i < 8 → cb (f i) := fun i hi => by
      have := (h.1 0 (by decide)).1 i hi
      rw [Nat.mul_zero, Nat.zero_add] at this
      unfold pad8 at this
      rwa [show Nat.blt i 8 = true from Nat.ble_eq_true_of_le hi] at this
    have hn : cb need := (h.1 0 (by decide)).2
    have key : ∀ R0 : Regs, Agr R0 [(3, .ptr 0 0), (5, .ptr 1 0), (8, .ptr 3 0)] → Has (EE env (.fn 26) [.yield 5, .ptr 4 0] (oH f m R0 (need, fun _ => 0)))
        (fun x => x.2 = oH f m R0 (ovn f (m8 m) need 8)) := by
      intro R0 hA
      refine (nodes_iter 5 4 m (fun i H => i ≤ cnt (m8 m) ∧ H = oH f m R0 (ovl f need ((nds (m8 m)).take i))) (fun _ => False) (fun i H x ⟨h2, h3⟩ hx => ?_) _ ⟨Nat.zero_le _, rfl⟩ rfl).mono fun x hx => ?_
      · have hlt := (List.getElem?_eq_some_iff.1 hx).1
        subst h3
        have hb := ovl_bd hf hn (m8 m) i
        have hx8 := nds_small hx
        refine Has.of_eq (o_yd f m R0 hA _ x hx8 hb (hf x hx8)) (.inl ⟨rfl, hlt, ?_⟩)
        rw [ovl_succ hx]
      · rcases hx with ⟨_, h3⟩ | h
        · rw [h3, ← ovl_ovn]; unfold cnt; rw [List.take_length]
        · exact h.elim
    refine callSK_has (show EE env (.fn 20) [.pv (.int .i64 m)] [.pcells (tab 8 (iv f)), .pcells [.int .i64 need], .pcells (tab 8 (iv fun _ => 0)), .pcells (tab 8 (iv fun _ => 0))] = some (.fn 26 [] [.ptr 4 0], [.pcells (tab 8 (iv f)), .pcells [.int .i64 need], .pcells (tab 8 (iv fun _ => 0)), .pcells (tab 8 (iv fun _ => 0)), .pcells [.int .i64 m]]) from EE_intro rfl) ?_
    refine callSK_has' ((key _ ⟨rfl, rfl, rfl, trivial⟩).mono fun x hx => ?_)
    obtain ⟨w, J⟩ := x
    dsimp only at hx ⊢
    subst hx
    refine hgetK_has _ rfl ?_
    refine hgetK_has _ rfl ?_
    refine secK_has (v := tab 8 (iv (ovn f (m8 m) need 8).2)) (tab_sec _).1 (tab_sec _).2 ?_
    refine hgetK_has _ rfl ?_
    refine needK_has (by rw [tab_len]; rfl) ?_
    refine eqK_has_eq (tab 8 (iv (ovn f (m8 m) need 8).2)) rfl ?_
    refine hgetK_has _ rfl ?_
    refine secK_has (v := tab 8 (iv (ovn f (m8 m) need 8).2)) (tab_sec _).1 (tab_sec _).2 ?_
    refine Has.intro (Has.intro ?_)
    unfold ovP; rw [if_pos h]
  · refine hgetK_has _ rfl ?_
    refine needK_has rfl ?_
    refine eqK_has_eq (tab 8 (iv fun _ => 0)) rfl ?_
    refine hgetK_has _ rfl ?_
    refine secK_has (v := tab 8 (iv fun _ => 0)) (tab_sec _).1 (tab_sec _).2 ?_
    refine Has.intro (Has.intro ?_)
    unfold ovP; rw [if_neg h]
end Go.Proofs.Ytdbobcbjgacjpaa
