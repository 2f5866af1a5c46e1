/-
  DERIVED. GIVEN WITH THE SEED: THE CARDS: each row of YtfimhkijacamoaaGreatDoorRows.lean that lists a variable, with what it lists TIED to the program's text (the seventh form; the later family's looks); each row that meets fmt, with fmt's text TOLD by the authors' own Lean function (tested against real Go, not proved from fmt's source: count such statements apart). THE CARD IS WHAT COUNTS. Prove the row's statement (the work); the ties are given (YtfimhkijacamoaaGreatDoorTie.lean); close each card by the builder's one call (the guide's Derived/Test/ToyasCard.lean, 'card_holds'). Laid BY PROGRAM, IN A SANDBOX (cutbox-door.mjs). By AI agents, Wed Nov 11 2026. No macro, syntax, notation, axiom, sorry.
-/
import Derived.Test.YtfimhkijacamoaaGreatDoorRows
import GoSem.ClaimSeven
namespace Go.Proofs.YtfimhkijacamoaaGreatDoor
namespace Rows

/-- THE TIED CARD OF 'credenzalaw17.PickOrders'. -/
def pickOrdersCard : Claim7 := { stood := { row := pickOrdersRow, standIns := [], harness := (true, "df57bd4a258e3965bfd3b9e568c2c0ef7c3627128e0ed73aee075dc40c508561"), looks := true }, kinds := [], alts := [], laidByText := true, laidKinds := [.data, .data, .data, .data, .sentinel, .sentinel, .pinned], laidTests := true, laidLooks := .later }
def PickOrdersCardSaid : Prop := Claim7.holds Tryz.pinned (.plain (OpenSpec.ofChange pickOrdersSpec)) pickOrdersCard

/-- THE SECOND FORM's CARD OF 'credenzalaw17.PickOrders'. -/
def pickOrdersUptoCard : Claim7 := { stood := { row := pickOrdersUptoRow, standIns := [], harness := (true, "df57bd4a258e3965bfd3b9e568c2c0ef7c3627128e0ed73aee075dc40c508561"), looks := true }, kinds := [], alts := [], laidByText := true, laidKinds := [.data, .data, .data, .data, .sentinel, .sentinel, .pinned], laidTests := true, laidLooks := .later }
def PickOrdersUptoCardSaid : Prop := Claim7.holds Tryz.pinned (.plain (OpenSpec.upto pickOrdersSpec)) pickOrdersUptoCard
end Rows
end Go.Proofs.YtfimhkijacamoaaGreatDoor
