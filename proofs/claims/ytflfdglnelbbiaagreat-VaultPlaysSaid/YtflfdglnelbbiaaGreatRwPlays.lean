/-
  VaultPlays: for every input the law answers true, and each argument reads as it did.
-/
import Derived.Test.YtflfdglnelbbiaaGreatP10
import Derived.Test.YtflfdglnelbbiaaGreatRows
set_option linter.all false
set_option linter.unusedVariables false
set_option linter.unusedSimpArgs false
set_option linter.unusedSectionVars false
namespace Go.Proofs.YtflfdglnelbbiaaGreat
open Go Go.VM
theorem Tryz.own:ownKnob Tryz.prog.godebug=none:=by kernel_rfl
theorem Tryz.laidOut:laidOutB Tryz.prog=true:=by kernel_rfl
set_option maxRecDepth 100000 in
theorem vaultPlays_lifted (os:Os) (started:os.Started) (H:Type) (enc:TypeId × Value→H) :
 ReturnsInHanded {} Tryz.checked os 3 .any (Rows.vaultPlaysSpec.pre6 enc Tryz.prog Tryz.f3 Rows.vaultPlaysRow.domain false) (Rows.vaultPlaysSpec.post enc Tryz.prog Tryz.f3 false true false false):=
 law_lifted (C:=Tryz.checked) (md:=md) (env:=env) (tb:=Tryz.f3.resultTypes[0]!) (Ts:=[.sl 6 Di.TOp,.int .i64]) envOK Tryz.own started (by kernel_rfl) Tryz.func3
  (ChangeSpec.witness6 (enc:=enc) (C:=Tryz.checked) false ⟨#[],#[.slice none 0 0,.int .i64 0],[]⟩ 8 (by kernel_rfl) (by kernel_rfl) (by kernel_rfl) (by kernel_rfl))
  Tryz.laidOut (by kernel_rfl) rfl (by kernel_rfl) (by kernel_rfl)
  (fun ds hl=>by
    have hl':ds.length=2:=hl
    match ds,hl' with
    | [d1,d2],_=>rfl) (by kernel_rfl) Di.plays_law
theorem vaultPlays_holds:Rows.VaultPlaysSaid:=
 OpenClaim.holds_of_wide 3 Tryz.f3 rfl rfl rfl rfl rfl rfl rfl ⟨rfl,rfl,rfl,rfl,rfl⟩ rfl rfl rfl rfl rfl (by kernel_rfl) Tryz.func3 (by kernel_rfl)
  (of_decide_eq_true (by kernel_rfl)) (by unfold Func.isWrapper; first | (rw [if_pos (by decide +kernel)]; kernel_rfl) | (rw [if_neg (by decide +kernel)]; exact ⟨rfl,rfl⟩))
  (fun os started H enc _=>vaultPlays_lifted os started H enc)
end Go.Proofs.YtflfdglnelbbiaaGreat
