/-
  DERIVED. GIVEN WITH THE SEED: THE CARDS: each row of YtmickbidffdklaaDoorRows.lean that lists a variable, with what it lists TIED to the program's text (the seventh form; the later family's looks); each row that meets fmt, with fmt's text TOLD by the authors' own Lean function (tested against real Go, not proved from fmt's source: count such statements apart). THE CARD IS WHAT COUNTS. Prove the row's statement (the work); the ties are given (YtmickbidffdklaaDoorTie.lean); close each card by the builder's one call (the guide's Derived/Test/ToyasCard.lean, 'card_holds'). Laid BY PROGRAM, IN A SANDBOX (cutbox-door.mjs). By AI agents, Wed Nov 11 2026. No macro, syntax, notation, axiom, sorry.
-/
import Derived.Test.YtmickbidffdklaaDoorRows
import GoSem.ClaimSeven
namespace Go.Proofs.YtmickbidffdklaaDoor
namespace Rows

/-- THE TIED CARD OF 'berthinglaw06.KnobsOf'. -/
def knobsOfCard : Claim7 := { stood := { row := knobsOfRow, standIns := [], harness := (true, "c12f06a2762c76d2399ed16e18d4a41da7e1757daf96130e46bbe9ad5d85c2d8"), looks := false }, kinds := [], alts := [], laidByText := true, laidKinds := [.data, .data, .data], laidTests := true, laidLooks := .later }
def KnobsOfCardSaid : Prop := Claim7.holds Tryd.pinned (.plain (OpenSpec.ofChange knobsOfSpec)) knobsOfCard

/-- THE TIED CARD OF 'berthinglaw06.KnobsTell'. -/
def knobsTellCard : Claim7 := { stood := { row := knobsTellRow, standIns := [], harness := (true, "c12f06a2762c76d2399ed16e18d4a41da7e1757daf96130e46bbe9ad5d85c2d8"), looks := false }, kinds := [], alts := [], laidByText := true, laidKinds := [.data, .data, .data], laidTests := true, laidLooks := .later }
def KnobsTellCardSaid : Prop := Claim7.holds Tryd.pinned (.plain (OpenSpec.ofChange knobsTellSpec)) knobsTellCard

/-- THE TIED CARD OF 'berthinglaw06.KnobsHold'. -/
def knobsHoldCard : Claim7 := { stood := { row := knobsHoldRow, standIns := [], harness := (true, "c12f06a2762c76d2399ed16e18d4a41da7e1757daf96130e46bbe9ad5d85c2d8"), looks := false }, kinds := [], alts := [], laidByText := true, laidKinds := [.data, .data, .data], laidTests := true, laidLooks := .later }
def KnobsHoldCardSaid : Prop := Claim7.holds Tryd.pinned (.plain (OpenSpec.ofChange knobsHoldSpec)) knobsHoldCard

/-- THE TIED CARD OF 'berthinglaw06.KnobsRise'. -/
def knobsRiseCard : Claim7 := { stood := { row := knobsRiseRow, standIns := [], harness := (true, "c12f06a2762c76d2399ed16e18d4a41da7e1757daf96130e46bbe9ad5d85c2d8"), looks := false }, kinds := [], alts := [], laidByText := true, laidKinds := [.data, .data, .data], laidTests := true, laidLooks := .later }
def KnobsRiseCardSaid : Prop := Claim7.holds Tryd.pinned (.plain (OpenSpec.ofChange knobsRiseSpec)) knobsRiseCard

/-- THE TIED CARD OF 'berthinglaw06.KnobsFiles'. -/
def knobsFilesCard : Claim7 := { stood := { row := knobsFilesRow, standIns := [], harness := (true, "c12f06a2762c76d2399ed16e18d4a41da7e1757daf96130e46bbe9ad5d85c2d8"), looks := false }, kinds := [], alts := [], laidByText := true, laidKinds := [.data, .data, .data], laidTests := true, laidLooks := .later }
def KnobsFilesCardSaid : Prop := Claim7.holds Tryd.pinned (.plain (OpenSpec.ofChange knobsFilesSpec)) knobsFilesCard

/-- THE SECOND FORM's CARD OF 'berthinglaw06.KnobsOf'. -/
def knobsOfUptoCard : Claim7 := { stood := { row := knobsOfUptoRow, standIns := [], harness := (true, "c12f06a2762c76d2399ed16e18d4a41da7e1757daf96130e46bbe9ad5d85c2d8"), looks := false }, kinds := [], alts := [], laidByText := true, laidKinds := [.data, .data, .data], laidTests := true, laidLooks := .later }
def KnobsOfUptoCardSaid : Prop := Claim7.holds Tryd.pinned (.plain (OpenSpec.upto knobsOfSpec)) knobsOfUptoCard

/-- THE SECOND FORM's CARD OF 'berthinglaw06.KnobsTell'. -/
def knobsTellUptoCard : Claim7 := { stood := { row := knobsTellUptoRow, standIns := [], harness := (true, "c12f06a2762c76d2399ed16e18d4a41da7e1757daf96130e46bbe9ad5d85c2d8"), looks := false }, kinds := [], alts := [], laidByText := true, laidKinds := [.data, .data, .data], laidTests := true, laidLooks := .later }
def KnobsTellUptoCardSaid : Prop := Claim7.holds Tryd.pinned (.plain (OpenSpec.upto knobsTellSpec)) knobsTellUptoCard

/-- THE SECOND FORM's CARD OF 'berthinglaw06.KnobsHold'. -/
def knobsHoldUptoCard : Claim7 := { stood := { row := knobsHoldUptoRow, standIns := [], harness := (true, "c12f06a2762c76d2399ed16e18d4a41da7e1757daf96130e46bbe9ad5d85c2d8"), looks := false }, kinds := [], alts := [], laidByText := true, laidKinds := [.data, .data, .data], laidTests := true, laidLooks := .later }
def KnobsHoldUptoCardSaid : Prop := Claim7.holds Tryd.pinned (.plain (OpenSpec.upto knobsHoldSpec)) knobsHoldUptoCard

/-- THE SECOND FORM's CARD OF 'berthinglaw06.KnobsRise'. -/
def knobsRiseUptoCard : Claim7 := { stood := { row := knobsRiseUptoRow, standIns := [], harness := (true, "c12f06a2762c76d2399ed16e18d4a41da7e1757daf96130e46bbe9ad5d85c2d8"), looks := false }, kinds := [], alts := [], laidByText := true, laidKinds := [.data, .data, .data], laidTests := true, laidLooks := .later }
def KnobsRiseUptoCardSaid : Prop := Claim7.holds Tryd.pinned (.plain (OpenSpec.upto knobsRiseSpec)) knobsRiseUptoCard

/-- THE SECOND FORM's CARD OF 'berthinglaw06.KnobsFiles'. -/
def knobsFilesUptoCard : Claim7 := { stood := { row := knobsFilesUptoRow, standIns := [], harness := (true, "c12f06a2762c76d2399ed16e18d4a41da7e1757daf96130e46bbe9ad5d85c2d8"), looks := false }, kinds := [], alts := [], laidByText := true, laidKinds := [.data, .data, .data], laidTests := true, laidLooks := .later }
def KnobsFilesUptoCardSaid : Prop := Claim7.holds Tryd.pinned (.plain (OpenSpec.upto knobsFilesSpec)) knobsFilesUptoCard
end Rows
end Go.Proofs.YtmickbidffdklaaDoor
