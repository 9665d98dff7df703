/-
  Part 10 of an abstract machine that answers as the model does.
  Objects that are kept while others grow; a row of bytes that grows in an object of one cell.
  Arguments of plain data that are not longer than a bound, by what their readings are of bulk; a law's statement where that bound is its condition.
-/
import Derived.Test.YtflfdglnelbbiaaGreatV9
import Derived.JoinedCond
set_option linter.all false
set_option linter.unusedVariables false
set_option linter.unusedSimpArgs false
set_option linter.unusedSectionVars false
namespace Go.VM
open Go
theorem AppV_grow {H:Heap} {v:AV} {e:Ext} {es n:Nat} {cs:List PV} (h:AppV H v e es n cs) (L:Heap):AppV (H++L) v e es n cs:=by
 rcases h with h | ⟨h1,h2,t,h3,h4⟩
 ·exact .inl h
 ·exact .inr ⟨h1,h2,t,h3,(aA L (ap h4 (by intro h; cases h))).trans h4⟩
theorem b9 {H:Heap} {v:AV} {e:Ext} {es n:Nat} {cs:List PV} (h:AppV H v e es n cs) {i:Nat} {o:HObj} (o':HObj) (hi:hget H i=o) (ho:∀ n es,o ≠ .tok n es):AppV (hset H i o') v e es n cs:=by
 rcases h with h | ⟨h1,h2,t,h3,h4⟩
 ·exact .inl h
 ·refine .inr ⟨h1,h2,t,h3,(an _ _ (fun e=>?_)).trans h4⟩
  rw [e,hi] at h4
  exact ho _ _ h4
theorem keep2 {H:Heap} {i:Nat} {o:HObj} (z o':HObj) (h:hget H i=o) (ho:o ≠ .dead):hget (hset (H++[z]) H.length o') i=o:=by
 have:=ap h ho
 exact (an _ _ (by omega)).trans ((aA _ this).trans h)
def cellOf (v:AV):HObj:=match v with
 | .pv p=>.pcells [p]
 | v=>.cells [v]
theorem cellOf_ne {v:AV}:cellOf v ≠ .dead ∧ ∀ n es,cellOf v ≠ .tok n es:=by
 cases v<;>exact ⟨(by intro h; cases h),(by intro n es h; cases h)⟩
def Keep (p:Nat) (H H':Heap):Prop:=H.length≤H'.length ∧ ∀ i o,i≠p→hget H i=o→o ≠ .dead→(∀ n es,o ≠ .tok n es)→hget H' i=o
theorem Keep.refl (p:Nat) (H:Heap):Keep p H H:=⟨Nat.le_refl _,fun _ _ _ h _ _=>h⟩
theorem Keep.trans {p:Nat} {H H1 H2:Heap} (h1:Keep p H H1) (h2:Keep p H1 H2):Keep p H H2:=
 ⟨Nat.le_trans h1.1 h2.1,fun i o hi h hd ht=>h2.2 i o hi (h1.2 i o hi h hd ht) hd ht⟩
theorem Keep.set {p:Nat} {H H1:Heap} (h1:Keep p H H1) (o:HObj):Keep p H (hset H1 p o):=
 ⟨by rw [br]; exact h1.1,fun i o' hi h hd ht=>(an _ _ hi).trans (h1.2 i o' hi h hd ht)⟩
theorem Keep.of_fr {H H1:Heap} {v:AV} {e:Ext} {es n:Nat} {cs:List PV} (hv:AppV H v e es n cs) (hf:Fr v H H1) (p:Nat):Keep p H H1:=
 ⟨hf.1,fun _ _ _ h hd ht=>Fr.obj hv hf h hd ht⟩
def TP (H:Heap) (p:Nat) (bs:List UInt8):Prop:=∃ v,hget H p=cellOf v∧AppV H v .nil 1 bs.length (bc bs)
theorem TP.out {H:Heap} {p:Nat} {bs:List UInt8} (h:TP H p bs):(hget H p = .pcells [.sl .nil 0 []]∧bs=[])∨(bs≠[] ∧ ∃ t,hget H p = .cells [.tsl t bs.length (bc bs)]∧hget H t = .tok bs.length 1):=by
 obtain ⟨v,h1,h2⟩:=h
 rcases h2 with ⟨h3,_,rfl,_⟩ | ⟨h3,_,t,rfl,h4⟩
 ·exact .inl ⟨h1,List.eq_nil_of_length_eq_zero h3⟩
 ·exact .inr ⟨fun h=>by rw [h] at h3; exact h3 rfl,t,h1,h4⟩
end Go.VM
namespace Go.VM
open Go Go.RowKit Go.ChangeShapes Go.WideShapes
section
variable {H:Type} {enc:TypeId × Value→H} {P:Program} {w:World} {sp:Nat→Bool} {hd:Bool} {B:Nat} {bk:DataW H→Nat}
end
section
variable {H:Type} {enc:TypeId × Value→H} {P:Program} {W:World} {B:Nat} {bk:DataW H→Nat}
end
end Go.VM
