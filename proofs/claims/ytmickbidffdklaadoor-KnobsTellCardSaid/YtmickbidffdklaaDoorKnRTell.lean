/-
  KnobsTell: for every input the law answers true, and each argument reads as it did; its card.
-/
import Derived.Test.YtmickbidffdklaaDoorP6
import Derived.Test.YtmickbidffdklaaDoorP5
set_option linter.all false
set_option linter.unusedVariables false
set_option linter.unusedSimpArgs false
set_option linter.unusedSectionVars false
namespace Go.Proofs.YtmickbidffdklaaDoor
open Go Go.VM

theorem Tryd.own : ownKnob Tryd.prog.godebug = none := by kernel_rfl
theorem Tryd.laidOut : laidOutB Tryd.prog = true := by kernel_rfl

set_option maxRecDepth 100000 in
theorem knobsTell_lifted (os : Os) (started : os.Started) (H : Type) (enc : TypeId × Value → H) :
    ReturnsInHanded {} Tryd.checked os 4 .any (fun w args => (Rows.knobsTellSpec.pre enc Tryd.prog Tryd.f4 Rows.knobsTellRow.domain false w args ∧ laidMetH Tryd.prog laidL w) ∧ sizedMet enc Tryd.prog Tryd.f4 (OpenSpec.ofChange Rows.knobsTellSpec) false w args) (Rows.knobsTellSpec.post enc Tryd.prog Tryd.f4 false true false false) :=
  law_laid (C := Tryd.checked) (md := md) (env := env) (gi := gi) (gn := gn) envOK (X := fun w => laidMetH Tryd.prog laidL w) (fun _ _ hh h => h.of_heap hh) (fun _ h => laid_gi h) (fun _ h => laid_gn h) (tb := Tryd.f4.resultTypes[0]!) (Ts := [TCase]) Tryd.own started (by kernel_rfl) Tryd.func4
    (ChangeSpec.witness_at (enc := enc) (C := Tryd.checked) (os := os) (X := fun w _ => laidMetH Tryd.prog laidL w) false (laidWorld os) #[.agg #[.int .i64 0, .int .i64 0, .int .i64 0, .int .i64 0, .int .i64 0, .int .i64 0, .int .i64 0, .int .i64 0]] 8 rfl (by kernel_rfl) (by kernel_rfl) (by kernel_rfl) (by kernel_rfl) (by kernel_rfl) (laid_met os _))
    Tryd.laidOut (by kernel_rfl) rfl (by kernel_rfl) (by kernel_rfl)
    (fun ds hl => by
      have hl' : ds.length = 1 := hl
      match ds, hl' with
      | [d1], _ => rfl) (by kernel_rfl) tell_law

theorem knobsTell_row : Rows.KnobsTellSaid :=
  OpenClaim.holds_of_wide 4 Tryd.f4 rfl rfl rfl rfl rfl rfl rfl ⟨rfl, rfl, rfl, rfl, rfl⟩ rfl rfl rfl rfl rfl (by kernel_rfl) Tryd.func4 (by kernel_rfl)
    (of_decide_eq_true (by kernel_rfl)) (by unfold Func.isWrapper; first | (rw [if_pos (by decide +kernel)]; kernel_rfl) | (rw [if_neg (by decide +kernel)]; exact ⟨rfl, rfl⟩))
    (fun os started H enc _ => knobsTell_lifted os started H enc)

theorem knobsTell_holds : Rows.KnobsTellCardSaid :=
  Claim7.holds_tied_plain_at .later [] [.data, .data, .data] true (true, "c12f06a2762c76d2399ed16e18d4a41da7e1757daf96130e46bbe9ad5d85c2d8") false
    knobsTell_row (fun _ h => by cases h) (by kernel_rfl) (fun _ h => by cases h) knobsTell_row_tie rfl ⟨rfl, rfl⟩ (by kernel_rfl) rfl
    (fun f fn hf hfn => by
      obtain rfl : f = 4 := Option.some.inj ((show Tryd.prog.funcNamed "berthing/berthinglaw06.KnobsTell" = some 4 by kernel_rfl).symm.trans hf) |>.symm
      obtain rfl : fn = Tryd.f4 := (Option.some.inj (Tryd.func4.symm.trans hfn)).symm
      have hall : Tryd.f4.params.toList.all (fun t => !Tryd.prog.wantsStandIn t) = true := by kernel_rfl
      exact ⟨by kernel_rfl, fun j t ht => by
        have hm : t ∈ Tryd.f4.params.toList := List.mem_of_getElem? (i := j) (by rw [Array.getElem?_toList]; exact ht)
        have := List.all_eq_true.1 hall t hm
        exact (show Tryd.prog.wantsStandIn t = false by simpa using this)⟩)
    (by kernel_rfl)
end Go.Proofs.YtmickbidffdklaaDoor
