/-
  No cell of these rows narrows 'for every input' (looked for: loops, veiled, ifaces, maps, wideKeys, modest, calm, conditions, laid).
  DERIVED. THE GIVEN ROWS OF THIS SEAT. 3 by the template 'for every input the law returns true; each argument reads behind the call as it read before'; 0 by the template 'total and deterministic' (their statements: YtkkpkoekbmgabaaTotals.lean).
  GIVEN WITH THE SEED: the statements are not yours to turn. If you find one false, say at which input.
  Laid BY PROGRAM, IN A SANDBOX (cutbox-rows.mjs): the forced cells as the released guide's own fill.sh prints them over the translation 973ebed233253269… (all of the seat's roots in one cut). By AI agents, Wed Nov 11 2026. No macro, syntax, notation, axiom, sorry.
-/
import Derived.Test.YtkkpkoekbmgabaaChecked
import GoSem.Claim
import GoSem.ClaimJoined
import GoSem.ClaimMapViews
import Derived.JoinedTies
import Derived.KernelRfl
namespace Go.Proofs.Ytkkpkoekbmgabaa
/- THE CELL 'sum', in the pinned program and in every row, IS THE sha256 OF THE DUMP (.gsa) THAT YtkkpkoekbmgabaaProg.lean LOADS. Nothing in Lean hashes anything: it is a label: what it is worth is what the hold of that sum in a sandbox is worth. -/
noncomputable def Try.pinned : Pinned := { name := "ytkkpkoekbmgabaa", sum := "973ebed233253269715326d466b5b923eb25819b65dce48764833ad00ab582aa", checked := Try.checked }
namespace Rows
def none {H : Type} : Left H := { results := [], args := [] }

/-- 'berthinglaw08.BlocksHold': WHATEVER THE INPUT: true; the input reads as it did. -/
def blocksHoldSpec : ChangeSpec := { name := "blocksHold", fn := fun _ => fun
  | [d1, d2] => { results := [.lit (.bool true)], args := [d1, d2] }
  | _ => none }
def blocksHoldRow : OpenClaim := { program := "ytkkpkoekbmgabaa", sum := "973ebed233253269715326d466b5b923eb25819b65dce48764833ad00ab582aa", func := "berthing/berthinglaw08.BlocksHold", spec := "blocksHold", inPlace := ["maps.clone"], unfollowed := true, recurses := true, plainKeys := false, apart := false }
def BlocksHoldSaid : Prop := blocksHoldRow.holds Try.pinned (OpenSpec.ofChange blocksHoldSpec)

/-- ITS FALSE NEIGHBOUR: 'it returns false'. Refute it at one input. -/
def blocksHoldWrong : ChangeSpec := { name := "blocksHold", fn := fun _ => fun
  | [d1, d2] => { results := [.lit (.bool false)], args := [d1, d2] }
  | _ => none }
def BlocksHoldWrongFalsely : Prop := blocksHoldRow.holds Try.pinned (OpenSpec.ofChange blocksHoldWrong)

/-- 'berthinglaw08.BlocksBack': WHATEVER THE INPUT: true; the input reads as it did. -/
def blocksBackSpec : ChangeSpec := { name := "blocksBack", fn := fun _ => fun
  | [d1, d2, d3] => { results := [.lit (.bool true)], args := [d1, d2, d3] }
  | _ => none }
def blocksBackRow : OpenClaim := { program := "ytkkpkoekbmgabaa", sum := "973ebed233253269715326d466b5b923eb25819b65dce48764833ad00ab582aa", func := "berthing/berthinglaw08.BlocksBack", spec := "blocksBack", inPlace := ["maps.clone"], unfollowed := true, recurses := true, plainKeys := false, apart := false }
def BlocksBackSaid : Prop := blocksBackRow.holds Try.pinned (OpenSpec.ofChange blocksBackSpec)

/-- ITS FALSE NEIGHBOUR: 'it returns false'. Refute it at one input. -/
def blocksBackWrong : ChangeSpec := { name := "blocksBack", fn := fun _ => fun
  | [d1, d2, d3] => { results := [.lit (.bool false)], args := [d1, d2, d3] }
  | _ => none }
def BlocksBackWrongFalsely : Prop := blocksBackRow.holds Try.pinned (OpenSpec.ofChange blocksBackWrong)

/-- 'berthinglaw08.BlocksPlay': WHATEVER THE INPUT: true; the input reads as it did. -/
def blocksPlaySpec : ChangeSpec := { name := "blocksPlay", fn := fun _ => fun
  | [d] => { results := [.lit (.bool true)], args := [d] }
  | _ => none }
def blocksPlayRow : OpenClaim := { program := "ytkkpkoekbmgabaa", sum := "973ebed233253269715326d466b5b923eb25819b65dce48764833ad00ab582aa", func := "berthing/berthinglaw08.BlocksPlay", spec := "blocksPlay", inPlace := ["maps.clone"], unfollowed := true, recurses := true, plainKeys := false, apart := false }
def BlocksPlaySaid : Prop := blocksPlayRow.holds Try.pinned (OpenSpec.ofChange blocksPlaySpec)

/-- ITS FALSE NEIGHBOUR: 'it returns false'. Refute it at one input. -/
def blocksPlayWrong : ChangeSpec := { name := "blocksPlay", fn := fun _ => fun
  | [d] => { results := [.lit (.bool false)], args := [d] }
  | _ => none }
def BlocksPlayWrongFalsely : Prop := blocksPlayRow.holds Try.pinned (OpenSpec.ofChange blocksPlayWrong)

/- THE SECOND FORM. 'bulk': how many values and letters a reading holds, each counted each time it is reached (what is shared counts as often as it is met; a slice's spare places count too). A statement '..UptoSaid' is the law's where the arguments, and the package variables that the reading takes, are together of bulk at most 1048576: NARROWER than '..Said'. Prove '..Said' where nothing that the law and all that it calls make is longer than what came in: it says more and counts as full. Else prove '..UptoSaid'. A law counts once. -/
mutual
def uptoBulk {H : Type} : DataW H → Nat
  | .lit (.string bytes) => bytes.length + 1
  | .lit _ => 1
  | .nil => 1
  | .ptr d => uptoBulk d + 1
  | .slice elems spare => uptoBulkAll elems + uptoBulkAll spare + 1
  | .agg parts => uptoBulkAll parts + 1
  | .iface _ d => uptoBulk d + 1
  | .map entries => uptoBulkEntries entries + 1
  | .held _ => 1
def uptoBulkAll {H : Type} : List (DataW H) → Nat
  | [] => 0
  | d :: r => uptoBulk d + uptoBulkAll r
def uptoBulkEntries {H : Type} : List (Lit × DataW H) → Nat
  | [] => 0
  | x :: r => uptoBulkEntry x + uptoBulkEntries r
def uptoBulkEntry {H : Type} : Lit × DataW H → Nat
  | (.string bytes, d) => bytes.length + uptoBulk d + 1
  | (_, d) => uptoBulk d + 1
 end
def uptoSmall : (H : Type) → List (DataW H) → Bool := fun _ ds => decide (uptoBulkAll ds ≤ 1048576)
def OpenSpec.upto (s : _root_.Go.ChangeSpec) : _root_.Go.OpenSpec := { _root_.Go.OpenSpec.ofChange s with cond := some uptoSmall }

/-- 'berthinglaw08.BlocksHold', WHERE WHAT IT READS IS OF BULK AT MOST 1048576: true; the input reads as it did. -/
def blocksHoldUptoRow : OpenClaim := { program := "ytkkpkoekbmgabaa", sum := "973ebed233253269715326d466b5b923eb25819b65dce48764833ad00ab582aa", func := "berthing/berthinglaw08.BlocksHold", spec := "blocksHold", inPlace := ["maps.clone"], unfollowed := true, recurses := true, plainKeys := false, apart := false, narrowed := true }
def BlocksHoldUptoSaid : Prop := blocksHoldUptoRow.holds Try.pinned (OpenSpec.upto blocksHoldSpec)

/-- 'berthinglaw08.BlocksBack', WHERE WHAT IT READS IS OF BULK AT MOST 1048576: true; the input reads as it did. -/
def blocksBackUptoRow : OpenClaim := { program := "ytkkpkoekbmgabaa", sum := "973ebed233253269715326d466b5b923eb25819b65dce48764833ad00ab582aa", func := "berthing/berthinglaw08.BlocksBack", spec := "blocksBack", inPlace := ["maps.clone"], unfollowed := true, recurses := true, plainKeys := false, apart := false, narrowed := true }
def BlocksBackUptoSaid : Prop := blocksBackUptoRow.holds Try.pinned (OpenSpec.upto blocksBackSpec)

/-- 'berthinglaw08.BlocksPlay', WHERE WHAT IT READS IS OF BULK AT MOST 1048576: true; the input reads as it did. -/
def blocksPlayUptoRow : OpenClaim := { program := "ytkkpkoekbmgabaa", sum := "973ebed233253269715326d466b5b923eb25819b65dce48764833ad00ab582aa", func := "berthing/berthinglaw08.BlocksPlay", spec := "blocksPlay", inPlace := ["maps.clone"], unfollowed := true, recurses := true, plainKeys := false, apart := false, narrowed := true }
def BlocksPlayUptoSaid : Prop := blocksPlayUptoRow.holds Try.pinned (OpenSpec.upto blocksPlaySpec)

end Rows
end Go.Proofs.Ytkkpkoekbmgabaa
