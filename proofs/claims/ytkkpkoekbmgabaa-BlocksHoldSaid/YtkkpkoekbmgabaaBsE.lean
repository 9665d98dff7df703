/-
  Blocks: what an owner holds; what is free everywhere.
-/
import Derived.Test.YtkkpkoekbmgabaaBsD
set_option linter.all false
set_option linter.unusedVariables false
set_option linter.unusedSimpArgs false
set_option linter.unusedSectionVars false
namespace Go.Proofs.Ytkkpkoekbmgabaa
open Go Go.VM
variable {H : Heap} {p m : Nat} {zs : List Zn} {L : List Rw}

structure Tb (H : Heap) (p : Nat) (zs : List Zn) (m : Nat) (L : List Rw) : Prop where
  z : TbZ H p zs m
  map : MapOf H m L
  keys : Keys L
  fair : Fair zs L
theorem Tb.kp (h : Tb H p zs m L) {H' : Heap} {l : List Nat} (hk : Kp l H H') (hp : p ∉ l) (hm : m ∉ l) : Tb H' p zs m L := ⟨h.z.kp hk hp, h.map.kp hk hm, h.keys, h.fair⟩
theorem Tb.lt (h : Tb H p zs m L) : p < H.length := by
  obtain ⟨x, hx⟩ := h.z.obj
  exact hget_lt hx (by intro h; cases h)
theorem Tb.mlt (h : Tb H p zs m L) : m < H.length := by
  obtain ⟨clk, E, hm, _⟩ := h.map
  exact hget_lt hm (by intro h; cases h)
theorem Tb.ne (h : Tb H p zs m L) : p ≠ m := by
  intro e
  obtain ⟨x, hx⟩ := h.z.obj
  obtain ⟨clk, E, hm, _⟩ := h.map
  rw [e, hm] at hx
  cases hx
theorem Tb.free (h : Tb H p zs m L) (i k : Int) : ∃ H', EE env (.fn 13) [.ptr p 0, .pv (iv i), .pv (iv k)] H = some (.pv (iv (freeF zs L i k)), H') ∧ Kp [] H H' := free_ok h.z h.map h.fair i k
theorem Has.sh {x : Option (AV × Heap)} {v : AV} {P : Heap → Prop} (h : Has x fun y => y.1 = v ∧ P y.2) : ∃ H', x = some (v, H') ∧ P H' := by
  obtain ⟨⟨w, H'⟩, h1, h2, h3⟩ := h
  exact ⟨H', by rw [h1, show w = v from h2], h3⟩

theorem held_ok (h : Tb H p zs m L) (o : Ow) : ∃ H', EE env (.fn 15) [.ptr p 0, .pv (.agg (oc o))] H = some (.pv (.agg (sc (heldF L o))), H') ∧ Kp [] H H' := by
  refine Has.sh (EE_has ?_)
  have hk : ∀ a b, Kp [] H (H ++ [a] ++ [b]) := fun a b => ((Kp.refl _ _).app _).app _
  obtain ⟨x, hx⟩ := h.z.obj
  obtain ⟨clk, E, hm, hst, hpm⟩ := h.map
  obtain ⟨f, hf, hl⟩ := look_row h.keys hpm o
  refine hgetK_has _ ((hk _ _).get hx (by intro h; cases h) (by simp)) ?_
  refine hgetK_two1 ?_
  refine secK_has (v := oc o) rfl (Nat.le_refl _) ?_
  refine hgetK_has _ ((hk _ _).get hm (by intro h; cases h) (by simp)) ?_
  refine bindK_has hf ?_
  rw [hl]
  (repeat (first | refine hgetK_last ?_ | refine hgetK_set ?_ | refine hgetK_two1 ?_ | refine hgetK_two2 ?_ | refine hgetK_two3 ?_ | refine hgetK_two4 ?_ | refine hgetK_two5 ?_ | refine needK_has rfl ?_ | refine getK_has rfl ?_ | refine secK_has rfl (by first | exact Nat.le_refl _ | decide | exact Nat.le_of_ble_eq_true rfl) ?_ | refine eqK_has ?_))
  exact Has.intro ⟨rfl, (((Kp.refl _ _).app _).app _).set _ _ (.inr (by simp))⟩
end Go.Proofs.Ytkkpkoekbmgabaa
