/-
  DERIVED. GIVEN WITH THE SEED: THE CARDS: each row of YtllkdoefonehoaaGreatDoorRows.lean that lists a variable, with what it lists TIED to the program's text (the seventh form; the later family's looks); each row that meets fmt, with fmt's text TOLD by the authors' own Lean function (tested against real Go, not proved from fmt's source: count such statements apart). THE CARD IS WHAT COUNTS. Prove the row's statement (the work); the ties are given (YtllkdoefonehoaaGreatDoorTie.lean); close each card by the builder's one call (the guide's Derived/Test/ToyasCard.lean, 'card_holds'). Laid BY PROGRAM, IN A SANDBOX (cutbox-door.mjs). By AI agents, Wed Nov 11 2026. No macro, syntax, notation, axiom, sorry.
-/
import Derived.Test.YtllkdoefonehoaaGreatDoorRows
import GoSem.ClaimSeven
namespace Go.Proofs.YtllkdoefonehoaaGreatDoor
namespace Rows

/-- THE TIED CARD OF 'credenzalaw17.PickTells'. -/
def pickTellsCard : Claim7 := { stood := { row := pickTellsRow, standIns := [], harness := (true, "f2dad4f82c71b83c0fd5af35573806f37fe6feacbf38d41e036ff23f53700951"), looks := true }, kinds := [], alts := [], laidByText := true, laidKinds := [.data, .data, .data, .data, .sentinel, .sentinel, .pinned], laidTests := true, laidLooks := .later }
def PickTellsCardSaid : Prop := Claim7.holds Tryz.pinned (.plain (OpenSpec.ofChange pickTellsSpec)) pickTellsCard

/-- THE TIED CARD OF 'credenzalaw17.PickOrders'. -/
def pickOrdersCard : Claim7 := { stood := { row := pickOrdersRow, standIns := [], harness := (true, "f2dad4f82c71b83c0fd5af35573806f37fe6feacbf38d41e036ff23f53700951"), looks := true }, kinds := [], alts := [], laidByText := true, laidKinds := [.data, .data, .data, .data, .sentinel, .sentinel, .pinned], laidTests := true, laidLooks := .later }
def PickOrdersCardSaid : Prop := Claim7.holds Tryz.pinned (.plain (OpenSpec.ofChange pickOrdersSpec)) pickOrdersCard

/-- THE TIED CARD OF 'credenzalaw17.PickGroups'. -/
def pickGroupsCard : Claim7 := { stood := { row := pickGroupsRow, standIns := [], harness := (true, "f2dad4f82c71b83c0fd5af35573806f37fe6feacbf38d41e036ff23f53700951"), looks := true }, kinds := [], alts := [], laidByText := true, laidKinds := [.data, .data, .data, .data, .sentinel, .sentinel, .pinned], laidTests := true, laidLooks := .later }
def PickGroupsCardSaid : Prop := Claim7.holds Tryz.pinned (.plain (OpenSpec.ofChange pickGroupsSpec)) pickGroupsCard

/-- THE SECOND FORM's CARD OF 'credenzalaw17.PickTells'. -/
def pickTellsUptoCard : Claim7 := { stood := { row := pickTellsUptoRow, standIns := [], harness := (true, "f2dad4f82c71b83c0fd5af35573806f37fe6feacbf38d41e036ff23f53700951"), looks := true }, kinds := [], alts := [], laidByText := true, laidKinds := [.data, .data, .data, .data, .sentinel, .sentinel, .pinned], laidTests := true, laidLooks := .later }
def PickTellsUptoCardSaid : Prop := Claim7.holds Tryz.pinned (.plain (OpenSpec.upto pickTellsSpec)) pickTellsUptoCard

/-- THE SECOND FORM's CARD OF 'credenzalaw17.PickOrders'. -/
def pickOrdersUptoCard : Claim7 := { stood := { row := pickOrdersUptoRow, standIns := [], harness := (true, "f2dad4f82c71b83c0fd5af35573806f37fe6feacbf38d41e036ff23f53700951"), looks := true }, kinds := [], alts := [], laidByText := true, laidKinds := [.data, .data, .data, .data, .sentinel, .sentinel, .pinned], laidTests := true, laidLooks := .later }
def PickOrdersUptoCardSaid : Prop := Claim7.holds Tryz.pinned (.plain (OpenSpec.upto pickOrdersSpec)) pickOrdersUptoCard

/-- THE SECOND FORM's CARD OF 'credenzalaw17.PickGroups'. -/
def pickGroupsUptoCard : Claim7 := { stood := { row := pickGroupsUptoRow, standIns := [], harness := (true, "f2dad4f82c71b83c0fd5af35573806f37fe6feacbf38d41e036ff23f53700951"), looks := true }, kinds := [], alts := [], laidByText := true, laidKinds := [.data, .data, .data, .data, .sentinel, .sentinel, .pinned], laidTests := true, laidLooks := .later }
def PickGroupsUptoCardSaid : Prop := Claim7.holds Tryz.pinned (.plain (OpenSpec.upto pickGroupsSpec)) pickGroupsUptoCard
end Rows
end Go.Proofs.YtllkdoefonehoaaGreatDoor
