/-
  DERIVED. GIVEN WITH THE SEED: THE CARDS: each row of YtdjlpifikeopdaaDoorRows.lean that lists a variable, with what it lists TIED to the program's text (the seventh form; the later family's looks); each row that meets fmt, with fmt's text TOLD by the authors' own Lean function (tested against real Go, not proved from fmt's source: count such statements apart). THE CARD IS WHAT COUNTS. Prove the row's statement (the work); the ties are given (YtdjlpifikeopdaaDoorTie.lean); close each card by the builder's one call (the guide's Derived/Test/ToyasCard.lean, 'card_holds'). Laid BY PROGRAM, IN A SANDBOX (cutbox-door.mjs). By AI agents, Wed Nov 11 2026. No macro, syntax, notation, axiom, sorry.
-/
import Derived.Test.YtdjlpifikeopdaaDoorRows
import GoSem.ClaimSeven
namespace Go.Proofs.YtdjlpifikeopdaaDoor
namespace Rows

/-- THE TIED CARD OF 'credenzalaw16.CountStems'. -/
def countStemsCard : Claim7 := { stood := { row := countStemsRow, standIns := [], harness := (true, "85d52e0636be4e590793c9943860912aefae41f68b48cb56a782f77cd34ec0e6"), looks := true }, kinds := [], alts := [], laidByText := true, laidKinds := [.data, .data, .data, .sentinel, .sentinel], laidTests := true, laidLooks := .later }
def CountStemsCardSaid : Prop := Claim7.holds Tryd.pinned (.plain (OpenSpec.ofChange countStemsSpec)) countStemsCard

/-- THE TIED CARD OF 'credenzalaw16.CountJoins'. -/
def countJoinsCard : Claim7 := { stood := { row := countJoinsRow, standIns := [], harness := (true, "85d52e0636be4e590793c9943860912aefae41f68b48cb56a782f77cd34ec0e6"), looks := true }, kinds := [], alts := [], laidByText := true, laidKinds := [.data, .data, .data, .sentinel, .sentinel], laidTests := true, laidLooks := .later }
def CountJoinsCardSaid : Prop := Claim7.holds Tryd.pinned (.plain (OpenSpec.ofChange countJoinsSpec)) countJoinsCard

/-- THE TIED CARD OF 'credenzalaw16.CountCanon'. -/
def countCanonCard : Claim7 := { stood := { row := countCanonRow, standIns := [], harness := (true, "85d52e0636be4e590793c9943860912aefae41f68b48cb56a782f77cd34ec0e6"), looks := true }, kinds := [], alts := [], laidByText := true, laidKinds := [.data, .data, .data, .sentinel, .sentinel], laidTests := true, laidLooks := .later }
def CountCanonCardSaid : Prop := Claim7.holds Tryd.pinned (.plain (OpenSpec.ofChange countCanonSpec)) countCanonCard

/-- THE TIED CARD OF 'credenzalaw16.CountSplits'. -/
def countSplitsCard : Claim7 := { stood := { row := countSplitsRow, standIns := [], harness := (true, "85d52e0636be4e590793c9943860912aefae41f68b48cb56a782f77cd34ec0e6"), looks := true }, kinds := [], alts := [], laidByText := true, laidKinds := [.data, .data, .data, .sentinel, .sentinel], laidTests := true, laidLooks := .later }
def CountSplitsCardSaid : Prop := Claim7.holds Tryd.pinned (.plain (OpenSpec.ofChange countSplitsSpec)) countSplitsCard

/-- THE TIED CARD OF 'credenzalaw16.CountTries'. -/
def countTriesCard : Claim7 := { stood := { row := countTriesRow, standIns := [], harness := (true, "85d52e0636be4e590793c9943860912aefae41f68b48cb56a782f77cd34ec0e6"), looks := true }, kinds := [], alts := [], laidByText := true, laidKinds := [.data, .data, .data, .sentinel, .sentinel], laidTests := true, laidLooks := .later }
def CountTriesCardSaid : Prop := Claim7.holds Tryd.pinned (.plain (OpenSpec.ofChange countTriesSpec)) countTriesCard

/-- THE TIED CARD OF 'credenzalaw16.CountBads'. -/
def countBadsCard : Claim7 := { stood := { row := countBadsRow, standIns := [], harness := (true, "85d52e0636be4e590793c9943860912aefae41f68b48cb56a782f77cd34ec0e6"), looks := true }, kinds := [], alts := [], laidByText := true, laidKinds := [.data, .data, .data, .sentinel, .sentinel], laidTests := true, laidLooks := .later }
def CountBadsCardSaid : Prop := Claim7.holds Tryd.pinned (.plain (OpenSpec.ofChange countBadsSpec)) countBadsCard

/-- THE TIED CARD OF 'credenzalaw16.CountTells'. -/
def countTellsCard : Claim7 := { stood := { row := countTellsRow, standIns := [], harness := (true, "85d52e0636be4e590793c9943860912aefae41f68b48cb56a782f77cd34ec0e6"), looks := true }, kinds := [], alts := [], laidByText := true, laidKinds := [.data, .data, .data, .sentinel, .sentinel], laidTests := true, laidLooks := .later }
def CountTellsCardSaid : Prop := Claim7.holds Tryd.pinned (.plain (OpenSpec.ofChange countTellsSpec)) countTellsCard

/-- THE SECOND FORM's CARD OF 'credenzalaw16.CountStems'. -/
def countStemsUptoCard : Claim7 := { stood := { row := countStemsUptoRow, standIns := [], harness := (true, "85d52e0636be4e590793c9943860912aefae41f68b48cb56a782f77cd34ec0e6"), looks := true }, kinds := [], alts := [], laidByText := true, laidKinds := [.data, .data, .data, .sentinel, .sentinel], laidTests := true, laidLooks := .later }
def CountStemsUptoCardSaid : Prop := Claim7.holds Tryd.pinned (.plain (OpenSpec.upto countStemsSpec)) countStemsUptoCard

/-- THE SECOND FORM's CARD OF 'credenzalaw16.CountJoins'. -/
def countJoinsUptoCard : Claim7 := { stood := { row := countJoinsUptoRow, standIns := [], harness := (true, "85d52e0636be4e590793c9943860912aefae41f68b48cb56a782f77cd34ec0e6"), looks := true }, kinds := [], alts := [], laidByText := true, laidKinds := [.data, .data, .data, .sentinel, .sentinel], laidTests := true, laidLooks := .later }
def CountJoinsUptoCardSaid : Prop := Claim7.holds Tryd.pinned (.plain (OpenSpec.upto countJoinsSpec)) countJoinsUptoCard

/-- THE SECOND FORM's CARD OF 'credenzalaw16.CountCanon'. -/
def countCanonUptoCard : Claim7 := { stood := { row := countCanonUptoRow, standIns := [], harness := (true, "85d52e0636be4e590793c9943860912aefae41f68b48cb56a782f77cd34ec0e6"), looks := true }, kinds := [], alts := [], laidByText := true, laidKinds := [.data, .data, .data, .sentinel, .sentinel], laidTests := true, laidLooks := .later }
def CountCanonUptoCardSaid : Prop := Claim7.holds Tryd.pinned (.plain (OpenSpec.upto countCanonSpec)) countCanonUptoCard

/-- THE SECOND FORM's CARD OF 'credenzalaw16.CountSplits'. -/
def countSplitsUptoCard : Claim7 := { stood := { row := countSplitsUptoRow, standIns := [], harness := (true, "85d52e0636be4e590793c9943860912aefae41f68b48cb56a782f77cd34ec0e6"), looks := true }, kinds := [], alts := [], laidByText := true, laidKinds := [.data, .data, .data, .sentinel, .sentinel], laidTests := true, laidLooks := .later }
def CountSplitsUptoCardSaid : Prop := Claim7.holds Tryd.pinned (.plain (OpenSpec.upto countSplitsSpec)) countSplitsUptoCard

/-- THE SECOND FORM's CARD OF 'credenzalaw16.CountTries'. -/
def countTriesUptoCard : Claim7 := { stood := { row := countTriesUptoRow, standIns := [], harness := (true, "85d52e0636be4e590793c9943860912aefae41f68b48cb56a782f77cd34ec0e6"), looks := true }, kinds := [], alts := [], laidByText := true, laidKinds := [.data, .data, .data, .sentinel, .sentinel], laidTests := true, laidLooks := .later }
def CountTriesUptoCardSaid : Prop := Claim7.holds Tryd.pinned (.plain (OpenSpec.upto countTriesSpec)) countTriesUptoCard

/-- THE SECOND FORM's CARD OF 'credenzalaw16.CountBads'. -/
def countBadsUptoCard : Claim7 := { stood := { row := countBadsUptoRow, standIns := [], harness := (true, "85d52e0636be4e590793c9943860912aefae41f68b48cb56a782f77cd34ec0e6"), looks := true }, kinds := [], alts := [], laidByText := true, laidKinds := [.data, .data, .data, .sentinel, .sentinel], laidTests := true, laidLooks := .later }
def CountBadsUptoCardSaid : Prop := Claim7.holds Tryd.pinned (.plain (OpenSpec.upto countBadsSpec)) countBadsUptoCard

/-- THE SECOND FORM's CARD OF 'credenzalaw16.CountTells'. -/
def countTellsUptoCard : Claim7 := { stood := { row := countTellsUptoRow, standIns := [], harness := (true, "85d52e0636be4e590793c9943860912aefae41f68b48cb56a782f77cd34ec0e6"), looks := true }, kinds := [], alts := [], laidByText := true, laidKinds := [.data, .data, .data, .sentinel, .sentinel], laidTests := true, laidLooks := .later }
def CountTellsUptoCardSaid : Prop := Claim7.holds Tryd.pinned (.plain (OpenSpec.upto countTellsSpec)) countTellsUptoCard
end Rows
end Go.Proofs.YtdjlpifikeopdaaDoor
