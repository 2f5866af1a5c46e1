/-
  DERIVED. GIVEN WITH THE SEED: THE CARDS: each row of YtllkdoefonehoaaDoorRows.lean that lists a variable, with what it lists TIED to the program's text (the seventh form; the later family's looks); each row that meets fmt, with fmt's text TOLD by the authors' own Lean function (tested against real Go, not proved from fmt's source: count such statements apart). THE CARD IS WHAT COUNTS. Prove the row's statement (the work); the ties are given (YtllkdoefonehoaaDoorTie.lean); close each card by the builder's one call (the guide's Derived/Test/ToyasCard.lean, 'card_holds'). Laid BY PROGRAM, IN A SANDBOX (cutbox-door.mjs). By AI agents, Wed Nov 11 2026. No macro, syntax, notation, axiom, sorry.
-/
import Derived.Test.YtllkdoefonehoaaDoorRows
import GoSem.ClaimSeven
namespace Go.Proofs.YtllkdoefonehoaaDoor
namespace Rows

/-- THE TIED CARD OF 'credenzalaw17.PickPerms'. -/
def pickPermsCard : Claim7 := { stood := { row := pickPermsRow, standIns := [], harness := (true, "47e5a7cd3ad82a675abd4a22bd9e4e4da9ef7b14c1fbf8041df658f541c9d598"), looks := true }, kinds := [], alts := [], laidByText := true, laidKinds := [.data, .data, .data, .data, .sentinel, .sentinel, .pinned], laidTests := true, laidLooks := .later }
def PickPermsCardSaid : Prop := Claim7.holds Tryd.pinned (.plain (OpenSpec.ofChange pickPermsSpec)) pickPermsCard

/-- THE TIED CARD OF 'credenzalaw17.PickStates'. -/
def pickStatesCard : Claim7 := { stood := { row := pickStatesRow, standIns := [], harness := (true, "47e5a7cd3ad82a675abd4a22bd9e4e4da9ef7b14c1fbf8041df658f541c9d598"), looks := true }, kinds := [], alts := [], laidByText := true, laidKinds := [.data, .data, .data, .data, .sentinel, .sentinel, .pinned], laidTests := true, laidLooks := .later }
def PickStatesCardSaid : Prop := Claim7.holds Tryd.pinned (.plain (OpenSpec.ofChange pickStatesSpec)) pickStatesCard

/-- THE TIED CARD OF 'credenzalaw17.PickTotal'. -/
def pickTotalCard : Claim7 := { stood := { row := pickTotalRow, standIns := [], harness := (true, "47e5a7cd3ad82a675abd4a22bd9e4e4da9ef7b14c1fbf8041df658f541c9d598"), looks := true }, kinds := [], alts := [], laidByText := true, laidKinds := [.data, .data, .data, .data, .sentinel, .sentinel, .pinned], laidTests := true, laidLooks := .later }
def PickTotalCardSaid : Prop := Claim7.holds Tryd.pinned (.plain (OpenSpec.ofChange pickTotalSpec)) pickTotalCard

/-- THE TIED CARD OF 'credenzalaw17.PickTries'. -/
def pickTriesCard : Claim7 := { stood := { row := pickTriesRow, standIns := [], harness := (true, "47e5a7cd3ad82a675abd4a22bd9e4e4da9ef7b14c1fbf8041df658f541c9d598"), looks := true }, kinds := [], alts := [], laidByText := true, laidKinds := [.data, .data, .data, .data, .sentinel, .sentinel, .pinned], laidTests := true, laidLooks := .later }
def PickTriesCardSaid : Prop := Claim7.holds Tryd.pinned (.plain (OpenSpec.ofChange pickTriesSpec)) pickTriesCard

/-- THE SECOND FORM's CARD OF 'credenzalaw17.PickPerms'. -/
def pickPermsUptoCard : Claim7 := { stood := { row := pickPermsUptoRow, standIns := [], harness := (true, "47e5a7cd3ad82a675abd4a22bd9e4e4da9ef7b14c1fbf8041df658f541c9d598"), looks := true }, kinds := [], alts := [], laidByText := true, laidKinds := [.data, .data, .data, .data, .sentinel, .sentinel, .pinned], laidTests := true, laidLooks := .later }
def PickPermsUptoCardSaid : Prop := Claim7.holds Tryd.pinned (.plain (OpenSpec.upto pickPermsSpec)) pickPermsUptoCard

/-- THE SECOND FORM's CARD OF 'credenzalaw17.PickStates'. -/
def pickStatesUptoCard : Claim7 := { stood := { row := pickStatesUptoRow, standIns := [], harness := (true, "47e5a7cd3ad82a675abd4a22bd9e4e4da9ef7b14c1fbf8041df658f541c9d598"), looks := true }, kinds := [], alts := [], laidByText := true, laidKinds := [.data, .data, .data, .data, .sentinel, .sentinel, .pinned], laidTests := true, laidLooks := .later }
def PickStatesUptoCardSaid : Prop := Claim7.holds Tryd.pinned (.plain (OpenSpec.upto pickStatesSpec)) pickStatesUptoCard

/-- THE SECOND FORM's CARD OF 'credenzalaw17.PickTotal'. -/
def pickTotalUptoCard : Claim7 := { stood := { row := pickTotalUptoRow, standIns := [], harness := (true, "47e5a7cd3ad82a675abd4a22bd9e4e4da9ef7b14c1fbf8041df658f541c9d598"), looks := true }, kinds := [], alts := [], laidByText := true, laidKinds := [.data, .data, .data, .data, .sentinel, .sentinel, .pinned], laidTests := true, laidLooks := .later }
def PickTotalUptoCardSaid : Prop := Claim7.holds Tryd.pinned (.plain (OpenSpec.upto pickTotalSpec)) pickTotalUptoCard

/-- THE SECOND FORM's CARD OF 'credenzalaw17.PickTries'. -/
def pickTriesUptoCard : Claim7 := { stood := { row := pickTriesUptoRow, standIns := [], harness := (true, "47e5a7cd3ad82a675abd4a22bd9e4e4da9ef7b14c1fbf8041df658f541c9d598"), looks := true }, kinds := [], alts := [], laidByText := true, laidKinds := [.data, .data, .data, .data, .sentinel, .sentinel, .pinned], laidTests := true, laidLooks := .later }
def PickTriesUptoCardSaid : Prop := Claim7.holds Tryd.pinned (.plain (OpenSpec.upto pickTriesSpec)) pickTriesUptoCard
end Rows
end Go.Proofs.YtllkdoefonehoaaDoor
