/-
  DERIVED. GIVEN WITH THE SEED: THE CARDS: each row of YtfimhkijacamoaaDoorRows.lean that lists a variable, with what it lists TIED to the program's text (the seventh form; the later family's looks); each row that meets fmt, with fmt's text TOLD by the authors' own Lean function (tested against real Go, not proved from fmt's source: count such statements apart). THE CARD IS WHAT COUNTS. Prove the row's statement (the work); the ties are given (YtfimhkijacamoaaDoorTie.lean); close each card by the builder's one call (the guide's Derived/Test/ToyasCard.lean, 'card_holds'). Laid BY PROGRAM, IN A SANDBOX (cutbox-door.mjs). By AI agents, Wed Nov 11 2026. No macro, syntax, notation, axiom, sorry.
-/
import Derived.Test.YtfimhkijacamoaaDoorRows
import GoSem.ClaimSeven
namespace Go.Proofs.YtfimhkijacamoaaDoor
namespace Rows

/-- THE TIED CARD OF 'credenzalaw15.VersionSorts'. -/
def versionSortsCard : Claim7 := { stood := { row := versionSortsRow, standIns := [], harness := (true, "2c8259e6d7726510e7b1f525d7d3686798da02cb1a28456af7287916302d680e"), looks := true }, kinds := [], alts := [], laidByText := true, laidKinds := [.data, .pinned], laidTests := true, laidLooks := .later }
def VersionSortsCardSaid : Prop := Claim7.holds Tryd.pinned (.plain (OpenSpec.ofChange versionSortsSpec)) versionSortsCard

/-- THE TIED CARD OF 'credenzalaw24.CmdData'. -/
def cmdDataCard : Claim7 := { stood := { row := cmdDataRow, standIns := [], harness := (true, "2c8259e6d7726510e7b1f525d7d3686798da02cb1a28456af7287916302d680e"), looks := true }, kinds := [], alts := [], laidByText := true, laidKinds := [.data, .data, .data, .data, .sentinel, .sentinel, .pinned], laidTests := true, laidLooks := .later }
def CmdDataCardSaid : Prop := Claim7.holds Tryd.pinned (.plain (OpenSpec.ofChange cmdDataSpec)) cmdDataCard

/-- THE SECOND FORM's CARD OF 'credenzalaw15.VersionSorts'. -/
def versionSortsUptoCard : Claim7 := { stood := { row := versionSortsUptoRow, standIns := [], harness := (true, "2c8259e6d7726510e7b1f525d7d3686798da02cb1a28456af7287916302d680e"), looks := true }, kinds := [], alts := [], laidByText := true, laidKinds := [.data, .pinned], laidTests := true, laidLooks := .later }
def VersionSortsUptoCardSaid : Prop := Claim7.holds Tryd.pinned (.plain (OpenSpec.upto versionSortsSpec)) versionSortsUptoCard

/-- THE SECOND FORM's CARD OF 'credenzalaw24.CmdData'. -/
def cmdDataUptoCard : Claim7 := { stood := { row := cmdDataUptoRow, standIns := [], harness := (true, "2c8259e6d7726510e7b1f525d7d3686798da02cb1a28456af7287916302d680e"), looks := true }, kinds := [], alts := [], laidByText := true, laidKinds := [.data, .data, .data, .data, .sentinel, .sentinel, .pinned], laidTests := true, laidLooks := .later }
def CmdDataUptoCardSaid : Prop := Claim7.holds Tryd.pinned (.plain (OpenSpec.upto cmdDataSpec)) cmdDataUptoCard
end Rows
end Go.Proofs.YtfimhkijacamoaaDoor
