/-
  No cell of these rows narrows 'for every input' (looked for: loops, veiled, ifaces, maps, wideKeys, modest, calm, conditions, laid).
  DERIVED. THE GIVEN ROWS OF THIS SEAT. 4 by the template 'for every input the law returns true; each argument reads behind the call as it read before'; 0 by the template 'total and deterministic' (their statements: YtnkdddlkghkpjaaTotals.lean).
  GIVEN WITH THE SEED: the statements are not yours to turn. If you find one false, say at which input.
  Laid BY PROGRAM, IN A SANDBOX (cutbox-rows.mjs): the forced cells as the released guide's own fill.sh prints them over the translation 3d8530f6c379bb89… (all of the seat's roots in one cut). By AI agents, Wed Nov 11 2026. No macro, syntax, notation, axiom, sorry.
-/
import Derived.Test.YtnkdddlkghkpjaaChecked
import GoSem.Claim
import GoSem.ClaimJoined
import GoSem.ClaimMapViews
import Derived.JoinedTies
import Derived.KernelRfl
namespace Go.Proofs.Ytnkdddlkghkpjaa
/- THE CELL 'sum', in the pinned program and in every row, IS THE sha256 OF THE DUMP (.gsa) THAT YtnkdddlkghkpjaaProg.lean LOADS. Nothing in Lean hashes anything: it is a label: what it is worth is what the hold of that sum in a sandbox is worth. -/
noncomputable def Try.pinned : Pinned := { name := "ytnkdddlkghkpjaa", sum := "3d8530f6c379bb89a01855512ef4dfd4df3b5dd3553241dc775b2455efaf1ef6", checked := Try.checked }
namespace Rows
def none {H : Type} : Left H := { results := [], args := [] }

/-- 'berthinglaw14.SlotReads': WHATEVER THE INPUT: true; the input reads as it did. -/
def slotReadsSpec : ChangeSpec := { name := "slotReads", fn := fun _ => fun
  | [d1, d2] => { results := [.lit (.bool true)], args := [d1, d2] }
  | _ => none }
def slotReadsRow : OpenClaim := { program := "ytnkdddlkghkpjaa", sum := "3d8530f6c379bb89a01855512ef4dfd4df3b5dd3553241dc775b2455efaf1ef6", func := "berthing/berthinglaw14.SlotReads", spec := "slotReads", apart := false }
def SlotReadsSaid : Prop := slotReadsRow.holds Try.pinned (OpenSpec.ofChange slotReadsSpec)

/-- ITS FALSE NEIGHBOUR: 'it returns false'. Refute it at one input. -/
def slotReadsWrong : ChangeSpec := { name := "slotReads", fn := fun _ => fun
  | [d1, d2] => { results := [.lit (.bool false)], args := [d1, d2] }
  | _ => none }
def SlotReadsWrongFalsely : Prop := slotReadsRow.holds Try.pinned (OpenSpec.ofChange slotReadsWrong)

/-- 'berthinglaw14.SlotPuts': WHATEVER THE INPUT: true; the input reads as it did. -/
def slotPutsSpec : ChangeSpec := { name := "slotPuts", fn := fun _ => fun
  | [d] => { results := [.lit (.bool true)], args := [d] }
  | _ => none }
def slotPutsRow : OpenClaim := { program := "ytnkdddlkghkpjaa", sum := "3d8530f6c379bb89a01855512ef4dfd4df3b5dd3553241dc775b2455efaf1ef6", func := "berthing/berthinglaw14.SlotPuts", spec := "slotPuts", apart := false }
def SlotPutsSaid : Prop := slotPutsRow.holds Try.pinned (OpenSpec.ofChange slotPutsSpec)

/-- ITS FALSE NEIGHBOUR: 'it returns false'. Refute it at one input. -/
def slotPutsWrong : ChangeSpec := { name := "slotPuts", fn := fun _ => fun
  | [d] => { results := [.lit (.bool false)], args := [d] }
  | _ => none }
def SlotPutsWrongFalsely : Prop := slotPutsRow.holds Try.pinned (OpenSpec.ofChange slotPutsWrong)

/-- 'berthinglaw14.SlotTears': WHATEVER THE INPUT: true; the input reads as it did. -/
def slotTearsSpec : ChangeSpec := { name := "slotTears", fn := fun _ => fun
  | [d1, d2, d3] => { results := [.lit (.bool true)], args := [d1, d2, d3] }
  | _ => none }
def slotTearsRow : OpenClaim := { program := "ytnkdddlkghkpjaa", sum := "3d8530f6c379bb89a01855512ef4dfd4df3b5dd3553241dc775b2455efaf1ef6", func := "berthing/berthinglaw14.SlotTears", spec := "slotTears", apart := false }
def SlotTearsSaid : Prop := slotTearsRow.holds Try.pinned (OpenSpec.ofChange slotTearsSpec)

/-- ITS FALSE NEIGHBOUR: 'it returns false'. Refute it at one input. -/
def slotTearsWrong : ChangeSpec := { name := "slotTears", fn := fun _ => fun
  | [d1, d2, d3] => { results := [.lit (.bool false)], args := [d1, d2, d3] }
  | _ => none }
def SlotTearsWrongFalsely : Prop := slotTearsRow.holds Try.pinned (OpenSpec.ofChange slotTearsWrong)

/-- 'berthinglaw14.SlotLatest': WHATEVER THE INPUT: true; the input reads as it did. -/
def slotLatestSpec : ChangeSpec := { name := "slotLatest", fn := fun _ => fun
  | [d1, d2, d3] => { results := [.lit (.bool true)], args := [d1, d2, d3] }
  | _ => none }
def slotLatestRow : OpenClaim := { program := "ytnkdddlkghkpjaa", sum := "3d8530f6c379bb89a01855512ef4dfd4df3b5dd3553241dc775b2455efaf1ef6", func := "berthing/berthinglaw14.SlotLatest", spec := "slotLatest", apart := false }
def SlotLatestSaid : Prop := slotLatestRow.holds Try.pinned (OpenSpec.ofChange slotLatestSpec)

/-- ITS FALSE NEIGHBOUR: 'it returns false'. Refute it at one input. -/
def slotLatestWrong : ChangeSpec := { name := "slotLatest", fn := fun _ => fun
  | [d1, d2, d3] => { results := [.lit (.bool false)], args := [d1, d2, d3] }
  | _ => none }
def SlotLatestWrongFalsely : Prop := slotLatestRow.holds Try.pinned (OpenSpec.ofChange slotLatestWrong)

/- THE SECOND FORM. 'bulk': how many values and letters a reading holds, each counted each time it is reached (what is shared counts as often as it is met; a slice's spare places count too). A statement '..UptoSaid' is the law's where the arguments, and the package variables that the reading takes, are together of bulk at most 1048576: NARROWER than '..Said'. Prove '..Said' where nothing that the law and all that it calls make is longer than what came in: it says more and counts as full. Else prove '..UptoSaid'. A law counts once. -/
mutual
def uptoBulk {H : Type} : DataW H → Nat
  | .lit (.string bytes) => bytes.length + 1
  | .lit _ => 1
  | .nil => 1
  | .ptr d => uptoBulk d + 1
  | .slice elems spare => uptoBulkAll elems + uptoBulkAll spare + 1
  | .agg parts => uptoBulkAll parts + 1
  | .iface _ d => uptoBulk d + 1
  | .map entries => uptoBulkEntries entries + 1
  | .held _ => 1
def uptoBulkAll {H : Type} : List (DataW H) → Nat
  | [] => 0
  | d :: r => uptoBulk d + uptoBulkAll r
def uptoBulkEntries {H : Type} : List (Lit × DataW H) → Nat
  | [] => 0
  | x :: r => uptoBulkEntry x + uptoBulkEntries r
def uptoBulkEntry {H : Type} : Lit × DataW H → Nat
  | (.string bytes, d) => bytes.length + uptoBulk d + 1
  | (_, d) => uptoBulk d + 1
 end
def uptoSmall : (H : Type) → List (DataW H) → Bool := fun _ ds => decide (uptoBulkAll ds ≤ 1048576)
def OpenSpec.upto (s : _root_.Go.ChangeSpec) : _root_.Go.OpenSpec := { _root_.Go.OpenSpec.ofChange s with cond := some uptoSmall }

/-- 'berthinglaw14.SlotReads', WHERE WHAT IT READS IS OF BULK AT MOST 1048576: true; the input reads as it did. -/
def slotReadsUptoRow : OpenClaim := { program := "ytnkdddlkghkpjaa", sum := "3d8530f6c379bb89a01855512ef4dfd4df3b5dd3553241dc775b2455efaf1ef6", func := "berthing/berthinglaw14.SlotReads", spec := "slotReads", apart := false, narrowed := true }
def SlotReadsUptoSaid : Prop := slotReadsUptoRow.holds Try.pinned (OpenSpec.upto slotReadsSpec)

/-- 'berthinglaw14.SlotPuts', WHERE WHAT IT READS IS OF BULK AT MOST 1048576: true; the input reads as it did. -/
def slotPutsUptoRow : OpenClaim := { program := "ytnkdddlkghkpjaa", sum := "3d8530f6c379bb89a01855512ef4dfd4df3b5dd3553241dc775b2455efaf1ef6", func := "berthing/berthinglaw14.SlotPuts", spec := "slotPuts", apart := false, narrowed := true }
def SlotPutsUptoSaid : Prop := slotPutsUptoRow.holds Try.pinned (OpenSpec.upto slotPutsSpec)

/-- 'berthinglaw14.SlotTears', WHERE WHAT IT READS IS OF BULK AT MOST 1048576: true; the input reads as it did. -/
def slotTearsUptoRow : OpenClaim := { program := "ytnkdddlkghkpjaa", sum := "3d8530f6c379bb89a01855512ef4dfd4df3b5dd3553241dc775b2455efaf1ef6", func := "berthing/berthinglaw14.SlotTears", spec := "slotTears", apart := false, narrowed := true }
def SlotTearsUptoSaid : Prop := slotTearsUptoRow.holds Try.pinned (OpenSpec.upto slotTearsSpec)

/-- 'berthinglaw14.SlotLatest', WHERE WHAT IT READS IS OF BULK AT MOST 1048576: true; the input reads as it did. -/
def slotLatestUptoRow : OpenClaim := { program := "ytnkdddlkghkpjaa", sum := "3d8530f6c379bb89a01855512ef4dfd4df3b5dd3553241dc775b2455efaf1ef6", func := "berthing/berthinglaw14.SlotLatest", spec := "slotLatest", apart := false, narrowed := true }
def SlotLatestUptoSaid : Prop := slotLatestUptoRow.holds Try.pinned (OpenSpec.upto slotLatestSpec)

end Rows
end Go.Proofs.Ytnkdddlkghkpjaa
