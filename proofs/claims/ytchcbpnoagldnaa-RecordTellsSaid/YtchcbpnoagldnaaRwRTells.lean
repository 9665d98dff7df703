/-
  RecordTells: for every input the law answers true, and each argument reads as it did.
-/
import Derived.Test.YtchcbpnoagldnaaP7
import Derived.Test.YtchcbpnoagldnaaRows
set_option linter.all false
set_option linter.unusedVariables false
set_option linter.unusedSimpArgs false
set_option linter.unusedSectionVars false
namespace Go.Proofs.Ytchcbpnoagldnaa
open Go Go.VM

theorem Try.own : ownKnob Try.prog.godebug = none := by kernel_rfl
theorem Try.laidOut : laidOutB Try.prog = true := by kernel_rfl

set_option maxRecDepth 100000 in
theorem recordTells_lifted (os : Os) (started : os.Started) (H : Type) (enc : TypeId × Value → H) :
    ReturnsInHanded {} Try.checked os 3 .any (Rows.recordTellsSpec.pre6 enc Try.prog Try.f3 Rows.recordTellsRow.domain false) (Rows.recordTellsSpec.post enc Try.prog Try.f3 false true false false) :=
  law_lifted (C := Try.checked) (md := md) (env := env) (tb := Try.f3.resultTypes[0]!) (Ts := [TSt, TSt, .str]) envOK Try.own started (by kernel_rfl) Try.func3
    (ChangeSpec.witness6 (enc := enc) (C := Try.checked) false ⟨#[], #[.agg #[.int .i64 0, .slice none 0 0, .slice none 0 0], .agg #[.int .i64 0, .slice none 0 0, .slice none 0 0], .string ⟨#[]⟩], []⟩ 8 (by kernel_rfl) (by kernel_rfl) (by kernel_rfl) (by kernel_rfl))
    Try.laidOut (by kernel_rfl) rfl (by kernel_rfl) (by kernel_rfl)
    (fun ds hl => by
      have hl' : ds.length = 3 := hl
      match ds, hl' with
      | [d1, d2, d3], _ => rfl) (by kernel_rfl) tells_law

theorem recordTells_holds : Rows.RecordTellsSaid :=
  OpenClaim.holds_of_wide 3 Try.f3 rfl rfl rfl rfl rfl rfl rfl ⟨rfl, rfl, rfl, rfl, rfl⟩ rfl rfl rfl rfl rfl (by kernel_rfl) Try.func3 (by kernel_rfl)
    (of_decide_eq_true (by kernel_rfl)) (by unfold Func.isWrapper; first | (rw [if_pos (by decide +kernel)]; kernel_rfl) | (rw [if_neg (by decide +kernel)]; exact ⟨rfl, rfl⟩))
    (fun os started H enc _ => recordTells_lifted os started H enc)
end Go.Proofs.Ytchcbpnoagldnaa
