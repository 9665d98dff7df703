/-
  No cell of these rows narrows 'for every input' (looked for: loops, veiled, ifaces, maps, wideKeys, modest, calm, conditions, laid).
  DERIVED. THE GIVEN ROWS OF THIS SEAT. 4 by the template 'for every input the law returns true; each argument reads behind the call as it read before'; 0 by the template 'total and deterministic' (their statements: YtilfmfnngkangaaTotals.lean).
  GIVEN WITH THE SEED: the statements are not yours to turn. If you find one false, say at which input.
  Laid BY PROGRAM, IN A SANDBOX (cutbox-rows.mjs): the forced cells as the released guide's own fill.sh prints them over the translation 2d69d050fd0566ec… (all of the seat's roots in one cut). By AI agents, Wed Nov 11 2026. No macro, syntax, notation, axiom, sorry.
-/
import Derived.Test.YtilfmfnngkangaaChecked
import GoSem.Claim
import GoSem.ClaimJoined
import GoSem.ClaimMapViews
import Derived.JoinedTies
import Derived.KernelRfl
namespace Go.Proofs.Ytilfmfnngkangaa
/- THE CELL 'sum', in the pinned program and in every row, IS THE sha256 OF THE DUMP (.gsa) THAT YtilfmfnngkangaaProg.lean LOADS. Nothing in Lean hashes anything: it is a label: what it is worth is what the hold of that sum in a sandbox is worth. -/
noncomputable def Try.pinned : Pinned := { name := "ytilfmfnngkangaa", sum := "2d69d050fd0566ecbc428c9d7d1a39b623b09c4d7a3bc9d4ad099d45bf3b6c74", checked := Try.checked }
namespace Rows
def none {H : Type} : Left H := { results := [], args := [] }

/-- 'berthinglaw03.CheckedAll': WHATEVER THE INPUT: true; the input reads as it did. -/
def checkedAllSpec : ChangeSpec := { name := "checkedAll", fn := fun _ => fun
  | [d] => { results := [.lit (.bool true)], args := [d] }
  | _ => none }
def checkedAllRow : OpenClaim := { program := "ytilfmfnngkangaa", sum := "2d69d050fd0566ecbc428c9d7d1a39b623b09c4d7a3bc9d4ad099d45bf3b6c74", func := "berthing/berthinglaw03.CheckedAll", spec := "checkedAll", apart := false }
def CheckedAllSaid : Prop := checkedAllRow.holds Try.pinned (OpenSpec.ofChange checkedAllSpec)

/-- ITS FALSE NEIGHBOUR: 'it returns false'. Refute it at one input. -/
def checkedAllWrong : ChangeSpec := { name := "checkedAll", fn := fun _ => fun
  | [d] => { results := [.lit (.bool false)], args := [d] }
  | _ => none }
def CheckedAllWrongFalsely : Prop := checkedAllRow.holds Try.pinned (OpenSpec.ofChange checkedAllWrong)

/-- 'berthinglaw03.CheckedSums': WHATEVER THE INPUT: true; the input reads as it did. -/
def checkedSumsSpec : ChangeSpec := { name := "checkedSums", fn := fun _ => fun
  | [d1, d2] => { results := [.lit (.bool true)], args := [d1, d2] }
  | _ => none }
def checkedSumsRow : OpenClaim := { program := "ytilfmfnngkangaa", sum := "2d69d050fd0566ecbc428c9d7d1a39b623b09c4d7a3bc9d4ad099d45bf3b6c74", func := "berthing/berthinglaw03.CheckedSums", spec := "checkedSums", apart := false }
def CheckedSumsSaid : Prop := checkedSumsRow.holds Try.pinned (OpenSpec.ofChange checkedSumsSpec)

/-- ITS FALSE NEIGHBOUR: 'it returns false'. Refute it at one input. -/
def checkedSumsWrong : ChangeSpec := { name := "checkedSums", fn := fun _ => fun
  | [d1, d2] => { results := [.lit (.bool false)], args := [d1, d2] }
  | _ => none }
def CheckedSumsWrongFalsely : Prop := checkedSumsRow.holds Try.pinned (OpenSpec.ofChange checkedSumsWrong)

/-- 'berthinglaw03.CheckedBack': WHATEVER THE INPUT: true; the input reads as it did. -/
def checkedBackSpec : ChangeSpec := { name := "checkedBack", fn := fun _ => fun
  | [d1, d2, d3] => { results := [.lit (.bool true)], args := [d1, d2, d3] }
  | _ => none }
def checkedBackRow : OpenClaim := { program := "ytilfmfnngkangaa", sum := "2d69d050fd0566ecbc428c9d7d1a39b623b09c4d7a3bc9d4ad099d45bf3b6c74", func := "berthing/berthinglaw03.CheckedBack", spec := "checkedBack", apart := false }
def CheckedBackSaid : Prop := checkedBackRow.holds Try.pinned (OpenSpec.ofChange checkedBackSpec)

/-- ITS FALSE NEIGHBOUR: 'it returns false'. Refute it at one input. -/
def checkedBackWrong : ChangeSpec := { name := "checkedBack", fn := fun _ => fun
  | [d1, d2, d3] => { results := [.lit (.bool false)], args := [d1, d2, d3] }
  | _ => none }
def CheckedBackWrongFalsely : Prop := checkedBackRow.holds Try.pinned (OpenSpec.ofChange checkedBackWrong)

/-- 'berthinglaw03.CheckedNarrows': WHATEVER THE INPUT: true; the input reads as it did. -/
def checkedNarrowsSpec : ChangeSpec := { name := "checkedNarrows", fn := fun _ => fun
  | [d] => { results := [.lit (.bool true)], args := [d] }
  | _ => none }
def checkedNarrowsRow : OpenClaim := { program := "ytilfmfnngkangaa", sum := "2d69d050fd0566ecbc428c9d7d1a39b623b09c4d7a3bc9d4ad099d45bf3b6c74", func := "berthing/berthinglaw03.CheckedNarrows", spec := "checkedNarrows", apart := false }
def CheckedNarrowsSaid : Prop := checkedNarrowsRow.holds Try.pinned (OpenSpec.ofChange checkedNarrowsSpec)

/-- ITS FALSE NEIGHBOUR: 'it returns false'. Refute it at one input. -/
def checkedNarrowsWrong : ChangeSpec := { name := "checkedNarrows", fn := fun _ => fun
  | [d] => { results := [.lit (.bool false)], args := [d] }
  | _ => none }
def CheckedNarrowsWrongFalsely : Prop := checkedNarrowsRow.holds Try.pinned (OpenSpec.ofChange checkedNarrowsWrong)

/- THE SECOND FORM. 'bulk': how many values and letters a reading holds, each counted each time it is reached (what is shared counts as often as it is met; a slice's spare places count too). A statement '..UptoSaid' is the law's where the arguments, and the package variables that the reading takes, are together of bulk at most 1048576: NARROWER than '..Said'. Prove '..Said' where nothing that the law and all that it calls make is longer than what came in: it says more and counts as full. Else prove '..UptoSaid'. A law counts once. -/
mutual
def uptoBulk {H : Type} : DataW H → Nat
  | .lit (.string bytes) => bytes.length + 1
  | .lit _ => 1
  | .nil => 1
  | .ptr d => uptoBulk d + 1
  | .slice elems spare => uptoBulkAll elems + uptoBulkAll spare + 1
  | .agg parts => uptoBulkAll parts + 1
  | .iface _ d => uptoBulk d + 1
  | .map entries => uptoBulkEntries entries + 1
  | .held _ => 1
def uptoBulkAll {H : Type} : List (DataW H) → Nat
  | [] => 0
  | d :: r => uptoBulk d + uptoBulkAll r
def uptoBulkEntries {H : Type} : List (Lit × DataW H) → Nat
  | [] => 0
  | x :: r => uptoBulkEntry x + uptoBulkEntries r
def uptoBulkEntry {H : Type} : Lit × DataW H → Nat
  | (.string bytes, d) => bytes.length + uptoBulk d + 1
  | (_, d) => uptoBulk d + 1
 end
def uptoSmall : (H : Type) → List (DataW H) → Bool := fun _ ds => decide (uptoBulkAll ds ≤ 1048576)
def OpenSpec.upto (s : _root_.Go.ChangeSpec) : _root_.Go.OpenSpec := { _root_.Go.OpenSpec.ofChange s with cond := some uptoSmall }

/-- 'berthinglaw03.CheckedAll', WHERE WHAT IT READS IS OF BULK AT MOST 1048576: true; the input reads as it did. -/
def checkedAllUptoRow : OpenClaim := { program := "ytilfmfnngkangaa", sum := "2d69d050fd0566ecbc428c9d7d1a39b623b09c4d7a3bc9d4ad099d45bf3b6c74", func := "berthing/berthinglaw03.CheckedAll", spec := "checkedAll", apart := false, narrowed := true }
def CheckedAllUptoSaid : Prop := checkedAllUptoRow.holds Try.pinned (OpenSpec.upto checkedAllSpec)

/-- 'berthinglaw03.CheckedSums', WHERE WHAT IT READS IS OF BULK AT MOST 1048576: true; the input reads as it did. -/
def checkedSumsUptoRow : OpenClaim := { program := "ytilfmfnngkangaa", sum := "2d69d050fd0566ecbc428c9d7d1a39b623b09c4d7a3bc9d4ad099d45bf3b6c74", func := "berthing/berthinglaw03.CheckedSums", spec := "checkedSums", apart := false, narrowed := true }
def CheckedSumsUptoSaid : Prop := checkedSumsUptoRow.holds Try.pinned (OpenSpec.upto checkedSumsSpec)

/-- 'berthinglaw03.CheckedBack', WHERE WHAT IT READS IS OF BULK AT MOST 1048576: true; the input reads as it did. -/
def checkedBackUptoRow : OpenClaim := { program := "ytilfmfnngkangaa", sum := "2d69d050fd0566ecbc428c9d7d1a39b623b09c4d7a3bc9d4ad099d45bf3b6c74", func := "berthing/berthinglaw03.CheckedBack", spec := "checkedBack", apart := false, narrowed := true }
def CheckedBackUptoSaid : Prop := checkedBackUptoRow.holds Try.pinned (OpenSpec.upto checkedBackSpec)

/-- 'berthinglaw03.CheckedNarrows', WHERE WHAT IT READS IS OF BULK AT MOST 1048576: true; the input reads as it did. -/
def checkedNarrowsUptoRow : OpenClaim := { program := "ytilfmfnngkangaa", sum := "2d69d050fd0566ecbc428c9d7d1a39b623b09c4d7a3bc9d4ad099d45bf3b6c74", func := "berthing/berthinglaw03.CheckedNarrows", spec := "checkedNarrows", apart := false, narrowed := true }
def CheckedNarrowsUptoSaid : Prop := checkedNarrowsUptoRow.holds Try.pinned (OpenSpec.upto checkedNarrowsSpec)

end Rows
end Go.Proofs.Ytilfmfnngkangaa
