/-
  No cell of these rows narrows 'for every input' (looked for: loops, veiled, ifaces, maps, wideKeys, modest, calm, conditions, laid).
  DERIVED. THE GIVEN ROWS OF THIS SEAT. 3 by the template 'for every input the law returns true; each argument reads behind the call as it read before'; 0 by the template 'total and deterministic' (their statements: YtpebkojodmjleaaTotals.lean).
  GIVEN WITH THE SEED: the statements are not yours to turn. If you find one false, say at which input.
  Laid BY PROGRAM, IN A SANDBOX (cutbox-rows.mjs): the forced cells as the released guide's own fill.sh prints them over the translation 97e73cbc01ec5266… (all of the seat's roots in one cut). By AI agents, Wed Nov 11 2026. No macro, syntax, notation, axiom, sorry.
-/
import Derived.Test.YtpebkojodmjleaaChecked
import GoSem.Claim
import GoSem.ClaimJoined
import GoSem.ClaimMapViews
import Derived.JoinedTies
import Derived.KernelRfl
namespace Go.Proofs.Ytpebkojodmjleaa
/- THE CELL 'sum', in the pinned program and in every row, IS THE sha256 OF THE DUMP (.gsa) THAT YtpebkojodmjleaaProg.lean LOADS. Nothing in Lean hashes anything: it is a label: what it is worth is what the hold of that sum in a sandbox is worth. -/
noncomputable def Try.pinned : Pinned := { name := "ytpebkojodmjleaa", sum := "97e73cbc01ec52666d21e2e5e16a873c5e6d910133d4d5d30179b5e17166d23b", checked := Try.checked }
namespace Rows
def none {H : Type} : Left H := { results := [], args := [] }

/-- 'berthinglaw12.TapeWrites': WHATEVER THE INPUT: true; the input reads as it did. -/
def tapeWritesSpec : ChangeSpec := { name := "tapeWrites", fn := fun _ => fun
  | [d1, d2] => { results := [.lit (.bool true)], args := [d1, d2] }
  | _ => none }
def tapeWritesRow : OpenClaim := { program := "ytpebkojodmjleaa", sum := "97e73cbc01ec52666d21e2e5e16a873c5e6d910133d4d5d30179b5e17166d23b", func := "berthing/berthinglaw12.TapeWrites", spec := "tapeWrites", apart := false }
def TapeWritesSaid : Prop := tapeWritesRow.holds Try.pinned (OpenSpec.ofChange tapeWritesSpec)

/-- ITS FALSE NEIGHBOUR: 'it returns false'. Refute it at one input. -/
def tapeWritesWrong : ChangeSpec := { name := "tapeWrites", fn := fun _ => fun
  | [d1, d2] => { results := [.lit (.bool false)], args := [d1, d2] }
  | _ => none }
def TapeWritesWrongFalsely : Prop := tapeWritesRow.holds Try.pinned (OpenSpec.ofChange tapeWritesWrong)

/-- 'berthinglaw12.TapeReads': WHATEVER THE INPUT: true; the input reads as it did. -/
def tapeReadsSpec : ChangeSpec := { name := "tapeReads", fn := fun _ => fun
  | [d1, d2] => { results := [.lit (.bool true)], args := [d1, d2] }
  | _ => none }
def tapeReadsRow : OpenClaim := { program := "ytpebkojodmjleaa", sum := "97e73cbc01ec52666d21e2e5e16a873c5e6d910133d4d5d30179b5e17166d23b", func := "berthing/berthinglaw12.TapeReads", spec := "tapeReads", apart := false }
def TapeReadsSaid : Prop := tapeReadsRow.holds Try.pinned (OpenSpec.ofChange tapeReadsSpec)

/-- ITS FALSE NEIGHBOUR: 'it returns false'. Refute it at one input. -/
def tapeReadsWrong : ChangeSpec := { name := "tapeReads", fn := fun _ => fun
  | [d1, d2] => { results := [.lit (.bool false)], args := [d1, d2] }
  | _ => none }
def TapeReadsWrongFalsely : Prop := tapeReadsRow.holds Try.pinned (OpenSpec.ofChange tapeReadsWrong)

/-- 'berthinglaw12.TapeBack': WHATEVER THE INPUT: true; the input reads as it did. -/
def tapeBackSpec : ChangeSpec := { name := "tapeBack", fn := fun _ => fun
  | [d1, d2] => { results := [.lit (.bool true)], args := [d1, d2] }
  | _ => none }
def tapeBackRow : OpenClaim := { program := "ytpebkojodmjleaa", sum := "97e73cbc01ec52666d21e2e5e16a873c5e6d910133d4d5d30179b5e17166d23b", func := "berthing/berthinglaw12.TapeBack", spec := "tapeBack", apart := false }
def TapeBackSaid : Prop := tapeBackRow.holds Try.pinned (OpenSpec.ofChange tapeBackSpec)

/-- ITS FALSE NEIGHBOUR: 'it returns false'. Refute it at one input. -/
def tapeBackWrong : ChangeSpec := { name := "tapeBack", fn := fun _ => fun
  | [d1, d2] => { results := [.lit (.bool false)], args := [d1, d2] }
  | _ => none }
def TapeBackWrongFalsely : Prop := tapeBackRow.holds Try.pinned (OpenSpec.ofChange tapeBackWrong)

/- THE SECOND FORM. 'bulk': how many values and letters a reading holds, each counted each time it is reached (what is shared counts as often as it is met; a slice's spare places count too). A statement '..UptoSaid' is the law's where the arguments, and the package variables that the reading takes, are together of bulk at most 1048576: NARROWER than '..Said'. Prove '..Said' where nothing that the law and all that it calls make is longer than what came in: it says more and counts as full. Else prove '..UptoSaid'. A law counts once. -/
mutual
def uptoBulk {H : Type} : DataW H → Nat
  | .lit (.string bytes) => bytes.length + 1
  | .lit _ => 1
  | .nil => 1
  | .ptr d => uptoBulk d + 1
  | .slice elems spare => uptoBulkAll elems + uptoBulkAll spare + 1
  | .agg parts => uptoBulkAll parts + 1
  | .iface _ d => uptoBulk d + 1
  | .map entries => uptoBulkEntries entries + 1
  | .held _ => 1
def uptoBulkAll {H : Type} : List (DataW H) → Nat
  | [] => 0
  | d :: r => uptoBulk d + uptoBulkAll r
def uptoBulkEntries {H : Type} : List (Lit × DataW H) → Nat
  | [] => 0
  | x :: r => uptoBulkEntry x + uptoBulkEntries r
def uptoBulkEntry {H : Type} : Lit × DataW H → Nat
  | (.string bytes, d) => bytes.length + uptoBulk d + 1
  | (_, d) => uptoBulk d + 1
 end
def uptoSmall : (H : Type) → List (DataW H) → Bool := fun _ ds => decide (uptoBulkAll ds ≤ 1048576)
def OpenSpec.upto (s : _root_.Go.ChangeSpec) : _root_.Go.OpenSpec := { _root_.Go.OpenSpec.ofChange s with cond := some uptoSmall }

/-- 'berthinglaw12.TapeWrites', WHERE WHAT IT READS IS OF BULK AT MOST 1048576: true; the input reads as it did. -/
def tapeWritesUptoRow : OpenClaim := { program := "ytpebkojodmjleaa", sum := "97e73cbc01ec52666d21e2e5e16a873c5e6d910133d4d5d30179b5e17166d23b", func := "berthing/berthinglaw12.TapeWrites", spec := "tapeWrites", apart := false, narrowed := true }
def TapeWritesUptoSaid : Prop := tapeWritesUptoRow.holds Try.pinned (OpenSpec.upto tapeWritesSpec)

/-- 'berthinglaw12.TapeReads', WHERE WHAT IT READS IS OF BULK AT MOST 1048576: true; the input reads as it did. -/
def tapeReadsUptoRow : OpenClaim := { program := "ytpebkojodmjleaa", sum := "97e73cbc01ec52666d21e2e5e16a873c5e6d910133d4d5d30179b5e17166d23b", func := "berthing/berthinglaw12.TapeReads", spec := "tapeReads", apart := false, narrowed := true }
def TapeReadsUptoSaid : Prop := tapeReadsUptoRow.holds Try.pinned (OpenSpec.upto tapeReadsSpec)

/-- 'berthinglaw12.TapeBack', WHERE WHAT IT READS IS OF BULK AT MOST 1048576: true; the input reads as it did. -/
def tapeBackUptoRow : OpenClaim := { program := "ytpebkojodmjleaa", sum := "97e73cbc01ec52666d21e2e5e16a873c5e6d910133d4d5d30179b5e17166d23b", func := "berthing/berthinglaw12.TapeBack", spec := "tapeBack", apart := false, narrowed := true }
def TapeBackUptoSaid : Prop := tapeBackUptoRow.holds Try.pinned (OpenSpec.upto tapeBackSpec)

end Rows
end Go.Proofs.Ytpebkojodmjleaa
