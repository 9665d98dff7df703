/-
  No cell of these rows narrows 'for every input' (looked for: loops, veiled, ifaces, maps, wideKeys, modest, calm, conditions, laid).
  DERIVED. THE GIVEN ROWS OF THIS SEAT. 4 by the template 'for every input the law returns true; each argument reads behind the call as it read before'; 0 by the template 'total and deterministic' (their statements: YteflibnmicehcaaTotals.lean).
  GIVEN WITH THE SEED: the statements are not yours to turn. If you find one false, say at which input.
  Laid BY PROGRAM, IN A SANDBOX (cutbox-rows.mjs): the forced cells as the released guide's own fill.sh prints them over the translation 72512ce19545fb38… (all of the seat's roots in one cut). By AI agents, Wed Nov 11 2026. No macro, syntax, notation, axiom, sorry.
-/
import Derived.Test.YteflibnmicehcaaChecked
import GoSem.Claim
import GoSem.ClaimJoined
import GoSem.ClaimMapViews
import Derived.JoinedTies
import Derived.KernelRfl
namespace Go.Proofs.Yteflibnmicehcaa
/- THE CELL 'sum', in the pinned program and in every row, IS THE sha256 OF THE DUMP (.gsa) THAT YteflibnmicehcaaProg.lean LOADS. Nothing in Lean hashes anything: it is a label: what it is worth is what the hold of that sum in a sandbox is worth. -/
noncomputable def Try.pinned : Pinned := { name := "yteflibnmicehcaa", sum := "72512ce19545fb386102209d2896896e1a2793f0dd6b8b41fbfe9996a44136d6", checked := Try.checked }
namespace Rows
def none {H : Type} : Left H := { results := [], args := [] }

/-- 'berthinglaw07.MaskLists': WHATEVER THE INPUT: true; the input reads as it did. -/
def maskListsSpec : ChangeSpec := { name := "maskLists", fn := fun _ => fun
  | [d1, d2, d3] => { results := [.lit (.bool true)], args := [d1, d2, d3] }
  | _ => none }
def maskListsRow : OpenClaim := { program := "yteflibnmicehcaa", sum := "72512ce19545fb386102209d2896896e1a2793f0dd6b8b41fbfe9996a44136d6", func := "berthing/berthinglaw07.MaskLists", spec := "maskLists", unfollowed := true, recurses := true, apart := false }
def MaskListsSaid : Prop := maskListsRow.holds Try.pinned (OpenSpec.ofChange maskListsSpec)

/-- ITS FALSE NEIGHBOUR: 'it returns false'. Refute it at one input. -/
def maskListsWrong : ChangeSpec := { name := "maskLists", fn := fun _ => fun
  | [d1, d2, d3] => { results := [.lit (.bool false)], args := [d1, d2, d3] }
  | _ => none }
def MaskListsWrongFalsely : Prop := maskListsRow.holds Try.pinned (OpenSpec.ofChange maskListsWrong)

/-- 'berthinglaw07.MaskTells': WHATEVER THE INPUT: true; the input reads as it did. -/
def maskTellsSpec : ChangeSpec := { name := "maskTells", fn := fun _ => fun
  | [d1, d2, d3] => { results := [.lit (.bool true)], args := [d1, d2, d3] }
  | _ => none }
def maskTellsRow : OpenClaim := { program := "yteflibnmicehcaa", sum := "72512ce19545fb386102209d2896896e1a2793f0dd6b8b41fbfe9996a44136d6", func := "berthing/berthinglaw07.MaskTells", spec := "maskTells", unfollowed := true, recurses := true, apart := false }
def MaskTellsSaid : Prop := maskTellsRow.holds Try.pinned (OpenSpec.ofChange maskTellsSpec)

/-- ITS FALSE NEIGHBOUR: 'it returns false'. Refute it at one input. -/
def maskTellsWrong : ChangeSpec := { name := "maskTells", fn := fun _ => fun
  | [d1, d2, d3] => { results := [.lit (.bool false)], args := [d1, d2, d3] }
  | _ => none }
def MaskTellsWrongFalsely : Prop := maskTellsRow.holds Try.pinned (OpenSpec.ofChange maskTellsWrong)

/-- 'berthinglaw07.MaskOnce': WHATEVER THE INPUT: true; the input reads as it did. -/
def maskOnceSpec : ChangeSpec := { name := "maskOnce", fn := fun _ => fun
  | [d1, d2, d3] => { results := [.lit (.bool true)], args := [d1, d2, d3] }
  | _ => none }
def maskOnceRow : OpenClaim := { program := "yteflibnmicehcaa", sum := "72512ce19545fb386102209d2896896e1a2793f0dd6b8b41fbfe9996a44136d6", func := "berthing/berthinglaw07.MaskOnce", spec := "maskOnce", unfollowed := true, recurses := true, apart := false }
def MaskOnceSaid : Prop := maskOnceRow.holds Try.pinned (OpenSpec.ofChange maskOnceSpec)

/-- ITS FALSE NEIGHBOUR: 'it returns false'. Refute it at one input. -/
def maskOnceWrong : ChangeSpec := { name := "maskOnce", fn := fun _ => fun
  | [d1, d2, d3] => { results := [.lit (.bool false)], args := [d1, d2, d3] }
  | _ => none }
def MaskOnceWrongFalsely : Prop := maskOnceRow.holds Try.pinned (OpenSpec.ofChange maskOnceWrong)

/-- 'berthinglaw07.MaskParts': WHATEVER THE INPUT: true; the input reads as it did. -/
def maskPartsSpec : ChangeSpec := { name := "maskParts", fn := fun _ => fun
  | [d1, d2] => { results := [.lit (.bool true)], args := [d1, d2] }
  | _ => none }
def maskPartsRow : OpenClaim := { program := "yteflibnmicehcaa", sum := "72512ce19545fb386102209d2896896e1a2793f0dd6b8b41fbfe9996a44136d6", func := "berthing/berthinglaw07.MaskParts", spec := "maskParts", unfollowed := true, recurses := true, apart := false }
def MaskPartsSaid : Prop := maskPartsRow.holds Try.pinned (OpenSpec.ofChange maskPartsSpec)

/-- ITS FALSE NEIGHBOUR: 'it returns false'. Refute it at one input. -/
def maskPartsWrong : ChangeSpec := { name := "maskParts", fn := fun _ => fun
  | [d1, d2] => { results := [.lit (.bool false)], args := [d1, d2] }
  | _ => none }
def MaskPartsWrongFalsely : Prop := maskPartsRow.holds Try.pinned (OpenSpec.ofChange maskPartsWrong)

/- THE SECOND FORM. 'bulk': how many values and letters a reading holds, each counted each time it is reached (what is shared counts as often as it is met; a slice's spare places count too). A statement '..UptoSaid' is the law's where the arguments, and the package variables that the reading takes, are together of bulk at most 1048576: NARROWER than '..Said'. Prove '..Said' where nothing that the law and all that it calls make is longer than what came in: it says more and counts as full. Else prove '..UptoSaid'. A law counts once. -/
mutual
def uptoBulk {H : Type} : DataW H → Nat
  | .lit (.string bytes) => bytes.length + 1
  | .lit _ => 1
  | .nil => 1
  | .ptr d => uptoBulk d + 1
  | .slice elems spare => uptoBulkAll elems + uptoBulkAll spare + 1
  | .agg parts => uptoBulkAll parts + 1
  | .iface _ d => uptoBulk d + 1
  | .map entries => uptoBulkEntries entries + 1
  | .held _ => 1
def uptoBulkAll {H : Type} : List (DataW H) → Nat
  | [] => 0
  | d :: r => uptoBulk d + uptoBulkAll r
def uptoBulkEntries {H : Type} : List (Lit × DataW H) → Nat
  | [] => 0
  | x :: r => uptoBulkEntry x + uptoBulkEntries r
def uptoBulkEntry {H : Type} : Lit × DataW H → Nat
  | (.string bytes, d) => bytes.length + uptoBulk d + 1
  | (_, d) => uptoBulk d + 1
 end
def uptoSmall : (H : Type) → List (DataW H) → Bool := fun _ ds => decide (uptoBulkAll ds ≤ 1048576)
def OpenSpec.upto (s : _root_.Go.ChangeSpec) : _root_.Go.OpenSpec := { _root_.Go.OpenSpec.ofChange s with cond := some uptoSmall }

/-- 'berthinglaw07.MaskLists', WHERE WHAT IT READS IS OF BULK AT MOST 1048576: true; the input reads as it did. -/
def maskListsUptoRow : OpenClaim := { program := "yteflibnmicehcaa", sum := "72512ce19545fb386102209d2896896e1a2793f0dd6b8b41fbfe9996a44136d6", func := "berthing/berthinglaw07.MaskLists", spec := "maskLists", unfollowed := true, recurses := true, apart := false, narrowed := true }
def MaskListsUptoSaid : Prop := maskListsUptoRow.holds Try.pinned (OpenSpec.upto maskListsSpec)

/-- 'berthinglaw07.MaskTells', WHERE WHAT IT READS IS OF BULK AT MOST 1048576: true; the input reads as it did. -/
def maskTellsUptoRow : OpenClaim := { program := "yteflibnmicehcaa", sum := "72512ce19545fb386102209d2896896e1a2793f0dd6b8b41fbfe9996a44136d6", func := "berthing/berthinglaw07.MaskTells", spec := "maskTells", unfollowed := true, recurses := true, apart := false, narrowed := true }
def MaskTellsUptoSaid : Prop := maskTellsUptoRow.holds Try.pinned (OpenSpec.upto maskTellsSpec)

/-- 'berthinglaw07.MaskOnce', WHERE WHAT IT READS IS OF BULK AT MOST 1048576: true; the input reads as it did. -/
def maskOnceUptoRow : OpenClaim := { program := "yteflibnmicehcaa", sum := "72512ce19545fb386102209d2896896e1a2793f0dd6b8b41fbfe9996a44136d6", func := "berthing/berthinglaw07.MaskOnce", spec := "maskOnce", unfollowed := true, recurses := true, apart := false, narrowed := true }
def MaskOnceUptoSaid : Prop := maskOnceUptoRow.holds Try.pinned (OpenSpec.upto maskOnceSpec)

/-- 'berthinglaw07.MaskParts', WHERE WHAT IT READS IS OF BULK AT MOST 1048576: true; the input reads as it did. -/
def maskPartsUptoRow : OpenClaim := { program := "yteflibnmicehcaa", sum := "72512ce19545fb386102209d2896896e1a2793f0dd6b8b41fbfe9996a44136d6", func := "berthing/berthinglaw07.MaskParts", spec := "maskParts", unfollowed := true, recurses := true, apart := false, narrowed := true }
def MaskPartsUptoSaid : Prop := maskPartsUptoRow.holds Try.pinned (OpenSpec.upto maskPartsSpec)

end Rows
end Go.Proofs.Yteflibnmicehcaa
