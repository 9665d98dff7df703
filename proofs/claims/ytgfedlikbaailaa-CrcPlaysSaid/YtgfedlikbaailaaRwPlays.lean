/-
  CrcPlays: for every input the law answers true, and each argument reads as it did.
-/
import Derived.Test.YtgfedlikbaailaaCrcL
import Derived.Test.YtgfedlikbaailaaRows
set_option linter.all false
set_option linter.unusedVariables false
set_option linter.unusedSimpArgs false
set_option linter.unusedSectionVars false
namespace Go.Proofs.Ytgfedlikbaailaa
open Go Go.VM

theorem Try.own : ownKnob Try.prog.godebug = none := by kernel_rfl
theorem Try.laidOut : laidOutB Try.prog = true := by kernel_rfl

set_option maxRecDepth 100000 in
theorem crcPlays_lifted (os : Os) (started : os.Started) (H : Type) (enc : TypeId × Value → H) :
    ReturnsInHanded {} Try.checked os 6 .any (Rows.crcPlaysSpec.pre6 enc Try.prog Try.f6 Rows.crcPlaysRow.domain false) (Rows.crcPlaysSpec.post enc Try.prog Try.f6 false true false false) :=
  law_lifted (C := Try.checked) (md := md) (env := env) (tb := Try.f6.resultTypes[0]!) (Ts := [.sl 3 TOp]) envOK Try.own started (by kernel_rfl) Try.func6
    (ChangeSpec.witness6 (enc := enc) (C := Try.checked) false ⟨#[], #[.slice none 0 0], []⟩ 8 (by kernel_rfl) (by kernel_rfl) (by kernel_rfl) (by kernel_rfl))
    Try.laidOut (by kernel_rfl) rfl (by kernel_rfl) (by kernel_rfl)
    (fun ds hl => by
      have hl' : ds.length = 1 := hl
      match ds, hl' with
      | [d1], _ => rfl) (by kernel_rfl) plays_ok

theorem crcPlays_holds : Rows.CrcPlaysSaid :=
  OpenClaim.holds_of_wide 6 Try.f6 rfl rfl rfl rfl rfl rfl rfl ⟨rfl, rfl, rfl, rfl, rfl⟩ rfl rfl rfl rfl rfl (by kernel_rfl) Try.func6 (by kernel_rfl)
    (of_decide_eq_true (by kernel_rfl)) (by unfold Func.isWrapper; first | (rw [if_pos (by decide +kernel)]; kernel_rfl) | (rw [if_neg (by decide +kernel)]; exact ⟨rfl, rfl⟩))
    (fun os started H enc _ => crcPlays_lifted os started H enc)
end Go.Proofs.Ytgfedlikbaailaa
