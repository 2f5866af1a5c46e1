/-
  DERIVED. GIVEN WITH THE SEED: THE CARDS: each row of YtcgkadfgojmmlaaDoorRows.lean that lists a variable, with what it lists TIED to the program's text (the seventh form; the later family's looks); each row that meets fmt, with fmt's text TOLD by the authors' own Lean function (tested against real Go, not proved from fmt's source: count such statements apart). THE CARD IS WHAT COUNTS. Prove the row's statement (the work); the ties are given (YtcgkadfgojmmlaaDoorTie.lean); close each card by the builder's one call (the guide's Derived/Test/ToyasCard.lean, 'card_holds'). Laid BY PROGRAM, IN A SANDBOX (cutbox-door.mjs). By AI agents, Wed Nov 11 2026. No macro, syntax, notation, axiom, sorry.
-/
import Derived.Test.YtcgkadfgojmmlaaDoorRows
import GoSem.ClaimSeven
namespace Go.Proofs.YtcgkadfgojmmlaaDoor
namespace Rows

/-- THE TIED CARD OF 'credenzalaw4.JournalAgain'. -/
def journalAgainCard : Claim7 := { stood := { row := journalAgainRow, standIns := [], harness := (true, "d8b8f4c69ad46401e4ba9c160204dd631469569c4b0c5532ca4b3b7ad7bd90d2"), looks := true }, kinds := [], alts := [], laidByText := true, laidKinds := [.data, .data, .data], laidTests := true, laidLooks := .later }
def JournalAgainCardSaid : Prop := Claim7.holds Tryd.pinned (.plain (OpenSpec.ofChange journalAgainSpec)) journalAgainCard

/-- THE TIED CARD OF 'credenzalaw4.JournalBounds'. -/
def journalBoundsCard : Claim7 := { stood := { row := journalBoundsRow, standIns := [], harness := (true, "d8b8f4c69ad46401e4ba9c160204dd631469569c4b0c5532ca4b3b7ad7bd90d2"), looks := true }, kinds := [], alts := [], laidByText := true, laidKinds := [.data, .data, .data, .handle], laidTests := true, laidLooks := .later }
def JournalBoundsCardSaid : Prop := Claim7.holds Tryd.pinned (.plain (OpenSpec.ofChange journalBoundsSpec)) journalBoundsCard

/-- THE TIED CARD OF 'credenzalaw4.JournalFull'. -/
def journalFullCard : Claim7 := { stood := { row := journalFullRow, standIns := [], harness := (true, "d8b8f4c69ad46401e4ba9c160204dd631469569c4b0c5532ca4b3b7ad7bd90d2"), looks := true }, kinds := [], alts := [], laidByText := true, laidKinds := [.data, .data, .data, .handle], laidTests := true, laidLooks := .later }
def JournalFullCardSaid : Prop := Claim7.holds Tryd.pinned (.plain (OpenSpec.ofChange journalFullSpec)) journalFullCard

/-- THE TIED CARD OF 'credenzalaw4.JournalPlays'. -/
def journalPlaysCard : Claim7 := { stood := { row := journalPlaysRow, standIns := [], harness := (true, "d8b8f4c69ad46401e4ba9c160204dd631469569c4b0c5532ca4b3b7ad7bd90d2"), looks := true }, kinds := [], alts := [], laidByText := true, laidKinds := [.data, .data, .data, .handle], laidTests := true, laidLooks := .later }
def JournalPlaysCardSaid : Prop := Claim7.holds Tryd.pinned (.plain (OpenSpec.ofChange journalPlaysSpec)) journalPlaysCard

/-- THE TIED CARD OF 'credenzalaw4.JournalEach'. -/
def journalEachCard : Claim7 := { stood := { row := journalEachRow, standIns := [], harness := (true, "d8b8f4c69ad46401e4ba9c160204dd631469569c4b0c5532ca4b3b7ad7bd90d2"), looks := true }, kinds := [], alts := [], laidByText := true, laidKinds := [.data, .data, .data, .handle], laidTests := true, laidLooks := .later }
def JournalEachCardSaid : Prop := Claim7.holds Tryd.pinned (.plain (OpenSpec.ofChange journalEachSpec)) journalEachCard

/-- THE SECOND FORM's CARD OF 'credenzalaw4.JournalAgain'. -/
def journalAgainUptoCard : Claim7 := { stood := { row := journalAgainUptoRow, standIns := [], harness := (true, "d8b8f4c69ad46401e4ba9c160204dd631469569c4b0c5532ca4b3b7ad7bd90d2"), looks := true }, kinds := [], alts := [], laidByText := true, laidKinds := [.data, .data, .data], laidTests := true, laidLooks := .later }
def JournalAgainUptoCardSaid : Prop := Claim7.holds Tryd.pinned (.plain (OpenSpec.upto journalAgainSpec)) journalAgainUptoCard

/-- THE SECOND FORM's CARD OF 'credenzalaw4.JournalBounds'. -/
def journalBoundsUptoCard : Claim7 := { stood := { row := journalBoundsUptoRow, standIns := [], harness := (true, "d8b8f4c69ad46401e4ba9c160204dd631469569c4b0c5532ca4b3b7ad7bd90d2"), looks := true }, kinds := [], alts := [], laidByText := true, laidKinds := [.data, .data, .data, .handle], laidTests := true, laidLooks := .later }
def JournalBoundsUptoCardSaid : Prop := Claim7.holds Tryd.pinned (.plain (OpenSpec.upto journalBoundsSpec)) journalBoundsUptoCard

/-- THE SECOND FORM's CARD OF 'credenzalaw4.JournalFull'. -/
def journalFullUptoCard : Claim7 := { stood := { row := journalFullUptoRow, standIns := [], harness := (true, "d8b8f4c69ad46401e4ba9c160204dd631469569c4b0c5532ca4b3b7ad7bd90d2"), looks := true }, kinds := [], alts := [], laidByText := true, laidKinds := [.data, .data, .data, .handle], laidTests := true, laidLooks := .later }
def JournalFullUptoCardSaid : Prop := Claim7.holds Tryd.pinned (.plain (OpenSpec.upto journalFullSpec)) journalFullUptoCard

/-- THE SECOND FORM's CARD OF 'credenzalaw4.JournalPlays'. -/
def journalPlaysUptoCard : Claim7 := { stood := { row := journalPlaysUptoRow, standIns := [], harness := (true, "d8b8f4c69ad46401e4ba9c160204dd631469569c4b0c5532ca4b3b7ad7bd90d2"), looks := true }, kinds := [], alts := [], laidByText := true, laidKinds := [.data, .data, .data, .handle], laidTests := true, laidLooks := .later }
def JournalPlaysUptoCardSaid : Prop := Claim7.holds Tryd.pinned (.plain (OpenSpec.upto journalPlaysSpec)) journalPlaysUptoCard

/-- THE SECOND FORM's CARD OF 'credenzalaw4.JournalEach'. -/
def journalEachUptoCard : Claim7 := { stood := { row := journalEachUptoRow, standIns := [], harness := (true, "d8b8f4c69ad46401e4ba9c160204dd631469569c4b0c5532ca4b3b7ad7bd90d2"), looks := true }, kinds := [], alts := [], laidByText := true, laidKinds := [.data, .data, .data, .handle], laidTests := true, laidLooks := .later }
def JournalEachUptoCardSaid : Prop := Claim7.holds Tryd.pinned (.plain (OpenSpec.upto journalEachSpec)) journalEachUptoCard
end Rows
end Go.Proofs.YtcgkadfgojmmlaaDoor
