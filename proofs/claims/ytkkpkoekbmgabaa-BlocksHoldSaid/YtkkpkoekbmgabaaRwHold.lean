/-
  BlocksHold: for every input the law answers true, and each argument reads as it did.
-/
import Derived.Test.YtkkpkoekbmgabaaBsX
import Derived.Test.YtkkpkoekbmgabaaRows
set_option linter.all false
set_option linter.unusedVariables false
set_option linter.unusedSimpArgs false
set_option linter.unusedSectionVars false
namespace Go.Proofs.Ytkkpkoekbmgabaa
open Go Go.VM

theorem Try.own : ownKnob Try.prog.godebug = none := by kernel_rfl
theorem Try.laidOut : laidOutB Try.prog = true := by kernel_rfl

set_option maxRecDepth 100000 in
theorem blocksHold_lifted (os : Os) (started : os.Started) (H : Type) (enc : TypeId × Value → H) :
    ReturnsInHanded {} Try.checked os 3 .any (Rows.blocksHoldSpec.pre6 enc Try.prog Try.f3 Rows.blocksHoldRow.domain false) (Rows.blocksHoldSpec.post enc Try.prog Try.f3 false true false false) :=
  law_lifted (C := Try.checked) (md := md) (env := env) (tb := Try.f3.resultTypes[0]!) (Ts := [.sl 4 TZ, .sl 13 TOp]) envOK Try.own started (by kernel_rfl) Try.func3
    (ChangeSpec.witness6 (enc := enc) (C := Try.checked) false ⟨#[], #[.slice none 0 0, .slice none 0 0], []⟩ 8 (by kernel_rfl) (by kernel_rfl) (by kernel_rfl) (by kernel_rfl))
    Try.laidOut (by kernel_rfl) rfl (by kernel_rfl) (by kernel_rfl)
    (fun ds hl => by
      have hl' : ds.length = 2 := hl
      match ds, hl' with
      | [d1, d2], _ => rfl) (by kernel_rfl) hold_law

theorem blocksHold_holds : Rows.BlocksHoldSaid :=
  OpenClaim.holds_of_wide 3 Try.f3 rfl rfl rfl rfl rfl rfl rfl ⟨rfl, rfl, rfl, rfl, rfl⟩ rfl rfl rfl rfl rfl (by kernel_rfl) Try.func3 (by kernel_rfl)
    (of_decide_eq_true (by kernel_rfl)) (by unfold Func.isWrapper; first | (rw [if_pos (by decide +kernel)]; kernel_rfl) | (rw [if_neg (by decide +kernel)]; exact ⟨rfl, rfl⟩))
    (fun os started H enc _ => blocksHold_lifted os started H enc)
end Go.Proofs.Ytkkpkoekbmgabaa
