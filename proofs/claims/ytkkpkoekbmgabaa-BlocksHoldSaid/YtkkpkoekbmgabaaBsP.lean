/-
  r08: what is known of maps.Clone and slices.SortFunc (the library's contracts), as functions known by what they do over the heap.
-/
import Derived.Test.YtkkpkoekbmgabaaVs2
import Derived.Test.YtkkpkoekbmgabaaBsS
import Derived.Test.YtkkpkoekbmgabaaChecked
set_option linter.all false
set_option linter.unusedVariables false
set_option linter.unusedSimpArgs false
set_option linter.unusedSectionVars false
namespace Go.Proofs.Ytkkpkoekbmgabaa
open Go Go.VM Go.Proofs

def pr : FuncId → Option (List PV → Option PV) := fun _ => none
def gi : Imm := fun _ => none
def gn : Addr → Bool := fun _ => false
def prH : FuncId → Option PrimH := fun f => bif f == 34 then some .clone else bif f == 46 then some (.sort 3) else none
theorem prOK (md : FuncId → VM.Mode) : ∀ f g, pr f = some g → FnOK Try.prog f ∧ ∀ ps p, g ps = some p → ∀ base κ H w vs, SRel ⟨Try.prog, md, gi, gn⟩ base κ H w → PRels κ.imm ps vs → CallsIn Fence.wide 0 Try.prog f vs.toArray w (Out ⟨Try.prog, md, gi, gn⟩ base κ H w (.pv p) H) := fun f g h => by cases h
theorem prHOK (md : FuncId → VM.Mode) : ∀ f p, prH f = some p → PrimOK ⟨Try.prog, md, gi, gn⟩ f p := fun f p h => by
  unfold prH at h
  rcases hf : f == 34 with _ | _
  · rw [hf, cond_false] at h
    rcases hg : f == 46 with _ | _
    · rw [hg] at h; cases h
    · rw [hg, cond_true] at h
      obtain rfl := beq_iff_eq.1 hg
      cases h
      refine sort_prim ⟨_, Try.func46, by kernel_rfl, by kernel_rfl⟩ ⟨fun p cap fv w => AnyF.slices_SortFunc_none Try.sortOw p cap fv w, ?_⟩
      intro α _ enc hk h1 cf hO g cb blk off cap d w eg hcmp hH hblk hsz
      exact AnyQ.slices_SortFunc Try.sortOw 3 Try.isAgg31 Try.sizeOf31 enc hk h1 cf hO g cb blk off cap d w eg hcmp hH hblk hsz
  · rw [hf, cond_true] at h
    obtain rfl := beq_iff_eq.1 hf
    cases h
    exact clone_prim ⟨_, Try.func34, by kernel_rfl, by kernel_rfl⟩ (fun b es clk w hb => AnyW.maps_Clone Try.cloneOw b es clk w hb) (fun w => AnyW.maps_Clone_nil Try.cloneOw w)
end Go.Proofs.Ytkkpkoekbmgabaa
