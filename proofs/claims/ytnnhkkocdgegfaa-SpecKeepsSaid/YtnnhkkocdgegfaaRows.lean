/-
  No cell of these rows narrows 'for every input' (looked for: loops, veiled, ifaces, maps, wideKeys, modest, calm, conditions, laid).
  DERIVED. THE GIVEN ROWS OF THIS SEAT. 5 by the template 'for every input the law returns true; each argument reads behind the call as it read before'; 0 by the template 'total and deterministic' (their statements: YtnnhkkocdgegfaaTotals.lean).
  GIVEN WITH THE SEED: the statements are not yours to turn. If you find one false, say at which input.
  Laid BY PROGRAM, IN A SANDBOX (cutbox-rows.mjs): the forced cells as the released guide's own fill.sh prints them over the translation aa42379665dc3081… (all of the seat's roots in one cut). By AI agents, Wed Nov 11 2026. No macro, syntax, notation, axiom, sorry.
-/
import Derived.Test.YtnnhkkocdgegfaaChecked
import GoSem.Claim
import GoSem.ClaimJoined
import GoSem.ClaimMapViews
import Derived.JoinedTies
import Derived.KernelRfl
namespace Go.Proofs.Ytnnhkkocdgegfaa
/- THE CELL 'sum', in the pinned program and in every row, IS THE sha256 OF THE DUMP (.gsa) THAT YtnnhkkocdgegfaaProg.lean LOADS. Nothing in Lean hashes anything: it is a label: what it is worth is what the hold of that sum in a sandbox is worth. -/
noncomputable def Try.pinned : Pinned := { name := "ytnnhkkocdgegfaa", sum := "aa42379665dc30818b5adb050f9a114d14a724afb27d369427567b7014113700", checked := Try.checked }
namespace Rows
def none {H : Type} : Left H := { results := [], args := [] }

/-- 'berthinglaw05.SpecNames': WHATEVER THE INPUT: true; the input reads as it did. -/
def specNamesSpec : ChangeSpec := { name := "specNames", fn := fun _ => fun
  | [d1, d2] => { results := [.lit (.bool true)], args := [d1, d2] }
  | _ => none }
def specNamesRow : OpenClaim := { program := "ytnnhkkocdgegfaa", sum := "aa42379665dc30818b5adb050f9a114d14a724afb27d369427567b7014113700", func := "berthing/berthinglaw05.SpecNames", spec := "specNames", unfollowed := true, recurses := true, apart := false }
def SpecNamesSaid : Prop := specNamesRow.holds Try.pinned (OpenSpec.ofChange specNamesSpec)

/-- ITS FALSE NEIGHBOUR: 'it returns false'. Refute it at one input. -/
def specNamesWrong : ChangeSpec := { name := "specNames", fn := fun _ => fun
  | [d1, d2] => { results := [.lit (.bool false)], args := [d1, d2] }
  | _ => none }
def SpecNamesWrongFalsely : Prop := specNamesRow.holds Try.pinned (OpenSpec.ofChange specNamesWrong)

/-- 'berthinglaw05.SpecPods': WHATEVER THE INPUT: true; the input reads as it did. -/
def specPodsSpec : ChangeSpec := { name := "specPods", fn := fun _ => fun
  | [d1, d2, d3] => { results := [.lit (.bool true)], args := [d1, d2, d3] }
  | _ => none }
def specPodsRow : OpenClaim := { program := "ytnnhkkocdgegfaa", sum := "aa42379665dc30818b5adb050f9a114d14a724afb27d369427567b7014113700", func := "berthing/berthinglaw05.SpecPods", spec := "specPods", unfollowed := true, recurses := true, apart := false }
def SpecPodsSaid : Prop := specPodsRow.holds Try.pinned (OpenSpec.ofChange specPodsSpec)

/-- ITS FALSE NEIGHBOUR: 'it returns false'. Refute it at one input. -/
def specPodsWrong : ChangeSpec := { name := "specPods", fn := fun _ => fun
  | [d1, d2, d3] => { results := [.lit (.bool false)], args := [d1, d2, d3] }
  | _ => none }
def SpecPodsWrongFalsely : Prop := specPodsRow.holds Try.pinned (OpenSpec.ofChange specPodsWrong)

/-- 'berthinglaw05.SpecResizes': WHATEVER THE INPUT: true; the input reads as it did. -/
def specResizesSpec : ChangeSpec := { name := "specResizes", fn := fun _ => fun
  | [d1, d2] => { results := [.lit (.bool true)], args := [d1, d2] }
  | _ => none }
def specResizesRow : OpenClaim := { program := "ytnnhkkocdgegfaa", sum := "aa42379665dc30818b5adb050f9a114d14a724afb27d369427567b7014113700", func := "berthing/berthinglaw05.SpecResizes", spec := "specResizes", unfollowed := true, recurses := true, apart := false }
def SpecResizesSaid : Prop := specResizesRow.holds Try.pinned (OpenSpec.ofChange specResizesSpec)

/-- ITS FALSE NEIGHBOUR: 'it returns false'. Refute it at one input. -/
def specResizesWrong : ChangeSpec := { name := "specResizes", fn := fun _ => fun
  | [d1, d2] => { results := [.lit (.bool false)], args := [d1, d2] }
  | _ => none }
def SpecResizesWrongFalsely : Prop := specResizesRow.holds Try.pinned (OpenSpec.ofChange specResizesWrong)

/-- 'berthinglaw05.SpecKeeps': WHATEVER THE INPUT: true; the input reads as it did. -/
def specKeepsSpec : ChangeSpec := { name := "specKeeps", fn := fun _ => fun
  | [d1, d2] => { results := [.lit (.bool true)], args := [d1, d2] }
  | _ => none }
def specKeepsRow : OpenClaim := { program := "ytnnhkkocdgegfaa", sum := "aa42379665dc30818b5adb050f9a114d14a724afb27d369427567b7014113700", func := "berthing/berthinglaw05.SpecKeeps", spec := "specKeeps", unfollowed := true, recurses := true, apart := false }
def SpecKeepsSaid : Prop := specKeepsRow.holds Try.pinned (OpenSpec.ofChange specKeepsSpec)

/-- ITS FALSE NEIGHBOUR: 'it returns false'. Refute it at one input. -/
def specKeepsWrong : ChangeSpec := { name := "specKeeps", fn := fun _ => fun
  | [d1, d2] => { results := [.lit (.bool false)], args := [d1, d2] }
  | _ => none }
def SpecKeepsWrongFalsely : Prop := specKeepsRow.holds Try.pinned (OpenSpec.ofChange specKeepsWrong)

/-- 'berthinglaw05.SpecAgain': WHATEVER THE INPUT: true; the input reads as it did. -/
def specAgainSpec : ChangeSpec := { name := "specAgain", fn := fun _ => fun
  | [d1, d2] => { results := [.lit (.bool true)], args := [d1, d2] }
  | _ => none }
def specAgainRow : OpenClaim := { program := "ytnnhkkocdgegfaa", sum := "aa42379665dc30818b5adb050f9a114d14a724afb27d369427567b7014113700", func := "berthing/berthinglaw05.SpecAgain", spec := "specAgain", unfollowed := true, recurses := true, apart := false }
def SpecAgainSaid : Prop := specAgainRow.holds Try.pinned (OpenSpec.ofChange specAgainSpec)

/-- ITS FALSE NEIGHBOUR: 'it returns false'. Refute it at one input. -/
def specAgainWrong : ChangeSpec := { name := "specAgain", fn := fun _ => fun
  | [d1, d2] => { results := [.lit (.bool false)], args := [d1, d2] }
  | _ => none }
def SpecAgainWrongFalsely : Prop := specAgainRow.holds Try.pinned (OpenSpec.ofChange specAgainWrong)

/- THE SECOND FORM. 'bulk': how many values and letters a reading holds, each counted each time it is reached (what is shared counts as often as it is met; a slice's spare places count too). A statement '..UptoSaid' is the law's where the arguments, and the package variables that the reading takes, are together of bulk at most 1048576: NARROWER than '..Said'. Prove '..Said' where nothing that the law and all that it calls make is longer than what came in: it says more and counts as full. Else prove '..UptoSaid'. A law counts once. -/
mutual
def uptoBulk {H : Type} : DataW H → Nat
  | .lit (.string bytes) => bytes.length + 1
  | .lit _ => 1
  | .nil => 1
  | .ptr d => uptoBulk d + 1
  | .slice elems spare => uptoBulkAll elems + uptoBulkAll spare + 1
  | .agg parts => uptoBulkAll parts + 1
  | .iface _ d => uptoBulk d + 1
  | .map entries => uptoBulkEntries entries + 1
  | .held _ => 1
def uptoBulkAll {H : Type} : List (DataW H) → Nat
  | [] => 0
  | d :: r => uptoBulk d + uptoBulkAll r
def uptoBulkEntries {H : Type} : List (Lit × DataW H) → Nat
  | [] => 0
  | x :: r => uptoBulkEntry x + uptoBulkEntries r
def uptoBulkEntry {H : Type} : Lit × DataW H → Nat
  | (.string bytes, d) => bytes.length + uptoBulk d + 1
  | (_, d) => uptoBulk d + 1
 end
def uptoSmall : (H : Type) → List (DataW H) → Bool := fun _ ds => decide (uptoBulkAll ds ≤ 1048576)
def OpenSpec.upto (s : _root_.Go.ChangeSpec) : _root_.Go.OpenSpec := { _root_.Go.OpenSpec.ofChange s with cond := some uptoSmall }

/-- 'berthinglaw05.SpecNames', WHERE WHAT IT READS IS OF BULK AT MOST 1048576: true; the input reads as it did. -/
def specNamesUptoRow : OpenClaim := { program := "ytnnhkkocdgegfaa", sum := "aa42379665dc30818b5adb050f9a114d14a724afb27d369427567b7014113700", func := "berthing/berthinglaw05.SpecNames", spec := "specNames", unfollowed := true, recurses := true, apart := false, narrowed := true }
def SpecNamesUptoSaid : Prop := specNamesUptoRow.holds Try.pinned (OpenSpec.upto specNamesSpec)

/-- 'berthinglaw05.SpecPods', WHERE WHAT IT READS IS OF BULK AT MOST 1048576: true; the input reads as it did. -/
def specPodsUptoRow : OpenClaim := { program := "ytnnhkkocdgegfaa", sum := "aa42379665dc30818b5adb050f9a114d14a724afb27d369427567b7014113700", func := "berthing/berthinglaw05.SpecPods", spec := "specPods", unfollowed := true, recurses := true, apart := false, narrowed := true }
def SpecPodsUptoSaid : Prop := specPodsUptoRow.holds Try.pinned (OpenSpec.upto specPodsSpec)

/-- 'berthinglaw05.SpecResizes', WHERE WHAT IT READS IS OF BULK AT MOST 1048576: true; the input reads as it did. -/
def specResizesUptoRow : OpenClaim := { program := "ytnnhkkocdgegfaa", sum := "aa42379665dc30818b5adb050f9a114d14a724afb27d369427567b7014113700", func := "berthing/berthinglaw05.SpecResizes", spec := "specResizes", unfollowed := true, recurses := true, apart := false, narrowed := true }
def SpecResizesUptoSaid : Prop := specResizesUptoRow.holds Try.pinned (OpenSpec.upto specResizesSpec)

/-- 'berthinglaw05.SpecKeeps', WHERE WHAT IT READS IS OF BULK AT MOST 1048576: true; the input reads as it did. -/
def specKeepsUptoRow : OpenClaim := { program := "ytnnhkkocdgegfaa", sum := "aa42379665dc30818b5adb050f9a114d14a724afb27d369427567b7014113700", func := "berthing/berthinglaw05.SpecKeeps", spec := "specKeeps", unfollowed := true, recurses := true, apart := false, narrowed := true }
def SpecKeepsUptoSaid : Prop := specKeepsUptoRow.holds Try.pinned (OpenSpec.upto specKeepsSpec)

/-- 'berthinglaw05.SpecAgain', WHERE WHAT IT READS IS OF BULK AT MOST 1048576: true; the input reads as it did. -/
def specAgainUptoRow : OpenClaim := { program := "ytnnhkkocdgegfaa", sum := "aa42379665dc30818b5adb050f9a114d14a724afb27d369427567b7014113700", func := "berthing/berthinglaw05.SpecAgain", spec := "specAgain", unfollowed := true, recurses := true, apart := false, narrowed := true }
def SpecAgainUptoSaid : Prop := specAgainUptoRow.holds Try.pinned (OpenSpec.upto specAgainSpec)

end Rows
end Go.Proofs.Ytnnhkkocdgegfaa
