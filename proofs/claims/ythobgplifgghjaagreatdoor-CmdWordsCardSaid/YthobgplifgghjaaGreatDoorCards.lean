/-
  DERIVED. GIVEN WITH THE SEED: THE CARDS: each row of YthobgplifgghjaaGreatDoorRows.lean that lists a variable, with what it lists TIED to the program's text (the seventh form; the later family's looks); each row that meets fmt, with fmt's text TOLD by the authors' own Lean function (tested against real Go, not proved from fmt's source: count such statements apart). THE CARD IS WHAT COUNTS. Prove the row's statement (the work); the ties are given (YthobgplifgghjaaGreatDoorTie.lean); close each card by the builder's one call (the guide's Derived/Test/ToyasCard.lean, 'card_holds'). Laid BY PROGRAM, IN A SANDBOX (cutbox-door.mjs). By AI agents, Wed Nov 11 2026. No macro, syntax, notation, axiom, sorry.
-/
import Derived.Test.YthobgplifgghjaaGreatDoorRows
import GoSem.ClaimSeven
namespace Go.Proofs.YthobgplifgghjaaGreatDoor
namespace Rows

/-- THE TIED CARD OF 'credenzalaw24.CmdParses'. -/
def cmdParsesCard : Claim7 := { stood := { row := cmdParsesRow, standIns := [], harness := (true, "eab1317cdc3ff3d7daa651f7f656e04f43b8a42c73b405b039724c8eb57a38ab"), looks := true }, kinds := [], alts := [], laidByText := true, laidKinds := [.data, .data, .data, .data, .handle, .sentinel, .sentinel, .pinned], laidTests := true, laidLooks := .later }
def CmdParsesCardSaid : Prop := Claim7.holds Tryz.pinned (.plain (OpenSpec.ofChange cmdParsesSpec)) cmdParsesCard

/-- THE TIED CARD OF 'credenzalaw24.CmdTexts'. -/
def cmdTextsCard : Claim7 := { stood := { row := cmdTextsRow, standIns := [], harness := (true, "eab1317cdc3ff3d7daa651f7f656e04f43b8a42c73b405b039724c8eb57a38ab"), looks := true }, kinds := [], alts := [], laidByText := true, laidKinds := [.data, .data, .data, .data, .handle, .sentinel, .sentinel, .pinned], laidTests := true, laidLooks := .later }
def CmdTextsCardSaid : Prop := Claim7.holds Tryz.pinned (.plain (OpenSpec.ofChange cmdTextsSpec)) cmdTextsCard

/-- THE TIED CARD OF 'credenzalaw24.CmdWords'. -/
def cmdWordsCard : Claim7 := { stood := { row := cmdWordsRow, standIns := [], harness := (true, "eab1317cdc3ff3d7daa651f7f656e04f43b8a42c73b405b039724c8eb57a38ab"), looks := true }, kinds := [], alts := [], laidByText := true, laidKinds := [.data, .data, .data, .data, .handle, .sentinel, .sentinel, .pinned], laidTests := true, laidLooks := .later }
def CmdWordsCardSaid : Prop := Claim7.holds Tryz.pinned (.plain (OpenSpec.ofChange cmdWordsSpec)) cmdWordsCard

/-- THE SECOND FORM's CARD OF 'credenzalaw24.CmdParses'. -/
def cmdParsesUptoCard : Claim7 := { stood := { row := cmdParsesUptoRow, standIns := [], harness := (true, "eab1317cdc3ff3d7daa651f7f656e04f43b8a42c73b405b039724c8eb57a38ab"), looks := true }, kinds := [], alts := [], laidByText := true, laidKinds := [.data, .data, .data, .data, .handle, .sentinel, .sentinel, .pinned], laidTests := true, laidLooks := .later }
def CmdParsesUptoCardSaid : Prop := Claim7.holds Tryz.pinned (.plain (OpenSpec.upto cmdParsesSpec)) cmdParsesUptoCard

/-- THE SECOND FORM's CARD OF 'credenzalaw24.CmdTexts'. -/
def cmdTextsUptoCard : Claim7 := { stood := { row := cmdTextsUptoRow, standIns := [], harness := (true, "eab1317cdc3ff3d7daa651f7f656e04f43b8a42c73b405b039724c8eb57a38ab"), looks := true }, kinds := [], alts := [], laidByText := true, laidKinds := [.data, .data, .data, .data, .handle, .sentinel, .sentinel, .pinned], laidTests := true, laidLooks := .later }
def CmdTextsUptoCardSaid : Prop := Claim7.holds Tryz.pinned (.plain (OpenSpec.upto cmdTextsSpec)) cmdTextsUptoCard

/-- THE SECOND FORM's CARD OF 'credenzalaw24.CmdWords'. -/
def cmdWordsUptoCard : Claim7 := { stood := { row := cmdWordsUptoRow, standIns := [], harness := (true, "eab1317cdc3ff3d7daa651f7f656e04f43b8a42c73b405b039724c8eb57a38ab"), looks := true }, kinds := [], alts := [], laidByText := true, laidKinds := [.data, .data, .data, .data, .handle, .sentinel, .sentinel, .pinned], laidTests := true, laidLooks := .later }
def CmdWordsUptoCardSaid : Prop := Claim7.holds Tryz.pinned (.plain (OpenSpec.upto cmdWordsSpec)) cmdWordsUptoCard
end Rows
end Go.Proofs.YthobgplifgghjaaGreatDoor
