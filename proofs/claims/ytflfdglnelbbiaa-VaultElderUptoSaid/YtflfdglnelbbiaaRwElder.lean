/-
  VaultElder: for every input that is of bulk at most 1048576 the law answers true, and each argument reads as it did.
-/
import Derived.Test.YtflfdglnelbbiaaP7
import Derived.Test.YtflfdglnelbbiaaRows
set_option linter.all false
set_option linter.unusedVariables false
set_option linter.unusedSimpArgs false
set_option linter.unusedSectionVars false
namespace Go.Proofs.Ytflfdglnelbbiaa
open Go Go.VM

theorem Try.own : ownKnob Try.prog.godebug = none := by kernel_rfl
theorem Try.laidOut : laidOutB Try.prog = true := by kernel_rfl

theorem bulk_one {H : Type} (d : DataW H) : 1 ≤ Rows.uptoBulk d := by
  cases d with
  | lit v => cases v <;> simp [Rows.uptoBulk]
  | _ => simp [Rows.uptoBulk]
theorem bulk_mem {H : Type} : ∀ {l : List (DataW H)} {d : DataW H}, d ∈ l → Rows.uptoBulk d ≤ Rows.uptoBulkAll l := by
  intro l
  induction l with
  | nil => intro d h; cases h
  | cons a l ih =>
    intro d h
    simp only [Rows.uptoBulkAll]
    rcases List.mem_cons.1 h with rfl | h
    · omega
    · have := ih h; omega
theorem bulk_len {H : Type} : ∀ (l : List (DataW H)), l.length ≤ Rows.uptoBulkAll l := by
  intro l
  induction l with
  | nil => exact Nat.zero_le _
  | cons a l ih =>
    simp only [Rows.uptoBulkAll, List.length_cons]
    have := bulk_one a
    omega
theorem bulk_ok {H : Type} : Bulk (Rows.uptoBulk (H := H)) :=
  { str := fun l => by simp [Rows.uptoBulk]
    elem := fun elems spare d hd => by have := bulk_mem hd; simp only [Rows.uptoBulk]; omega
    len := fun elems spare => by have := bulk_len elems; simp only [Rows.uptoBulk]; omega
    part := fun parts d hd => by have := bulk_mem hd; simp only [Rows.uptoBulk]; omega }

set_option maxRecDepth 100000 in
theorem vaultElder_lifted (os : Os) (started : os.Started) (H : Type) (enc : TypeId × Value → H) (F : Stop.Interp) :
    ReturnsInHanded {} Try.checked os 3 .any ((Rows.OpenSpec.upto Rows.vaultElderSpec).pre6 enc Try.prog Try.f3 Rows.vaultElderUptoRow.domain false) (((Rows.OpenSpec.upto Rows.vaultElderSpec).at F).post enc Try.prog Try.f3 false true false false) :=
  law_cond (C := Try.checked) (md := md) (env := env) (s := Rows.OpenSpec.upto Rows.vaultElderSpec) (k := Rows.uptoSmall) (tb := Try.f3.resultTypes[0]!) (Ts := [.sl 3 Di.TSt]) envOK rfl Try.own started (by kernel_rfl) Try.func3
    (OpenSpec.witness (enc := enc) (C := Try.checked) (s := Rows.OpenSpec.upto Rows.vaultElderSpec) (k := Rows.uptoSmall) rfl false ⟨#[], #[.slice none 0 0], []⟩ 8 (by kernel_rfl) (by kernel_rfl) (by kernel_rfl) (x := ([.nil], [], [])) (by kernel_rfl) (by kernel_rfl) (by kernel_rfl))
    Try.laidOut (by kernel_rfl) rfl (by kernel_rfl) (by kernel_rfl)
    (fun ds hl => by
      have hl' : ds.length = 1 := hl
      match ds, hl' with
      | [d1], _ => rfl)
    (B := 1048576) (bk := Rows.uptoBulk) bulk_ok (fun ds hk d hd => by
      have h1 : Rows.uptoBulkAll ds ≤ 1048576 := of_decide_eq_true hk
      exact Nat.le_trans (bulk_mem hd) h1) (by kernel_rfl) Di.elder_law

theorem vaultElder_holds : Rows.VaultElderUptoSaid :=
  OpenClaim.holds_of_cond 3 Try.f3 rfl rfl rfl rfl rfl rfl rfl ⟨rfl, rfl, rfl, rfl, rfl⟩ rfl rfl rfl rfl rfl (by kernel_rfl) Try.func3 (by kernel_rfl)
    (of_decide_eq_true (by kernel_rfl)) (by unfold Func.isWrapper; first | (rw [if_pos (by decide +kernel)]; kernel_rfl) | (rw [if_neg (by decide +kernel)]; exact ⟨rfl, rfl⟩))
    (fun os started H enc _ F => vaultElder_lifted os started H enc F)
end Go.Proofs.Ytflfdglnelbbiaa
