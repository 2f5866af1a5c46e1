/-
  DERIVED. GIVEN WITH THE SEED: THE CARDS: each row of YtinofijncbnolaaDoorRows.lean that lists a variable, with what it lists TIED to the program's text (the seventh form; the later family's looks); each row that meets fmt, with fmt's text TOLD by the authors' own Lean function (tested against real Go, not proved from fmt's source: count such statements apart). THE CARD IS WHAT COUNTS. Prove the row's statement (the work); the ties are given (YtinofijncbnolaaDoorTie.lean); close each card by the builder's one call (the guide's Derived/Test/ToyasCard.lean, 'card_holds'). Laid BY PROGRAM, IN A SANDBOX (cutbox-door.mjs). By AI agents, Wed Nov 11 2026. No macro, syntax, notation, axiom, sorry.
-/
import Derived.Test.YtinofijncbnolaaDoorRows
import GoSem.ClaimSeven
namespace Go.Proofs.YtinofijncbnolaaDoor
namespace Rows

/-- THE TIED CARD OF 'credenzalaw2.SumParts'. -/
def sumPartsCard : Claim7 := { stood := { row := sumPartsRow, standIns := [], harness := (true, "dcaada6811fe139877f5c31ac8cdbe49268be53eb0276985e33e190fed45df58"), looks := false }, kinds := [], alts := [], laidByText := true, laidKinds := [.data, .data, .data], laidTests := true, laidLooks := .later }
def SumPartsCardSaid : Prop := Claim7.holds Tryd.pinned (.plain (OpenSpec.ofChange sumPartsSpec)) sumPartsCard

/-- THE TIED CARD OF 'credenzalaw2.SumBack'. -/
def sumBackCard : Claim7 := { stood := { row := sumBackRow, standIns := [], harness := (true, "dcaada6811fe139877f5c31ac8cdbe49268be53eb0276985e33e190fed45df58"), looks := false }, kinds := [], alts := [], laidByText := true, laidKinds := [.data, .data, .data], laidTests := true, laidLooks := .later }
def SumBackCardSaid : Prop := Claim7.holds Tryd.pinned (.plain (OpenSpec.ofChange sumBackSpec)) sumBackCard

/-- THE TIED CARD OF 'credenzalaw2.SumDigits'. -/
def sumDigitsCard : Claim7 := { stood := { row := sumDigitsRow, standIns := [], harness := (true, "dcaada6811fe139877f5c31ac8cdbe49268be53eb0276985e33e190fed45df58"), looks := false }, kinds := [], alts := [], laidByText := true, laidKinds := [.data, .data, .data], laidTests := true, laidLooks := .later }
def SumDigitsCardSaid : Prop := Claim7.holds Tryd.pinned (.plain (OpenSpec.ofChange sumDigitsSpec)) sumDigitsCard

/-- THE TIED CARD OF 'credenzalaw2.SumTells'. -/
def sumTellsCard : Claim7 := { stood := { row := sumTellsRow, standIns := [], harness := (true, "dcaada6811fe139877f5c31ac8cdbe49268be53eb0276985e33e190fed45df58"), looks := false }, kinds := [], alts := [], laidByText := true, laidKinds := [.data, .data, .data], laidTests := true, laidLooks := .later }
def SumTellsCardSaid : Prop := Claim7.holds Tryd.pinned (.plain (OpenSpec.ofChange sumTellsSpec)) sumTellsCard

/-- THE TIED CARD OF 'credenzalaw2.SumHex'. -/
def sumHexCard : Claim7 := { stood := { row := sumHexRow, standIns := [], harness := (true, "dcaada6811fe139877f5c31ac8cdbe49268be53eb0276985e33e190fed45df58"), looks := false }, kinds := [], alts := [], laidByText := true, laidKinds := [.data, .data, .data], laidTests := true, laidLooks := .later }
def SumHexCardSaid : Prop := Claim7.holds Tryd.pinned (.plain (OpenSpec.ofChange sumHexSpec)) sumHexCard

/-- THE TIED CARD OF 'credenzalaw2.SumLast'. -/
def sumLastCard : Claim7 := { stood := { row := sumLastRow, standIns := [], harness := (true, "dcaada6811fe139877f5c31ac8cdbe49268be53eb0276985e33e190fed45df58"), looks := false }, kinds := [], alts := [], laidByText := true, laidKinds := [.data, .data, .data], laidTests := true, laidLooks := .later }
def SumLastCardSaid : Prop := Claim7.holds Tryd.pinned (.plain (OpenSpec.ofChange sumLastSpec)) sumLastCard

/-- THE SECOND FORM's CARD OF 'credenzalaw2.SumParts'. -/
def sumPartsUptoCard : Claim7 := { stood := { row := sumPartsUptoRow, standIns := [], harness := (true, "dcaada6811fe139877f5c31ac8cdbe49268be53eb0276985e33e190fed45df58"), looks := false }, kinds := [], alts := [], laidByText := true, laidKinds := [.data, .data, .data], laidTests := true, laidLooks := .later }
def SumPartsUptoCardSaid : Prop := Claim7.holds Tryd.pinned (.plain (OpenSpec.upto sumPartsSpec)) sumPartsUptoCard

/-- THE SECOND FORM's CARD OF 'credenzalaw2.SumBack'. -/
def sumBackUptoCard : Claim7 := { stood := { row := sumBackUptoRow, standIns := [], harness := (true, "dcaada6811fe139877f5c31ac8cdbe49268be53eb0276985e33e190fed45df58"), looks := false }, kinds := [], alts := [], laidByText := true, laidKinds := [.data, .data, .data], laidTests := true, laidLooks := .later }
def SumBackUptoCardSaid : Prop := Claim7.holds Tryd.pinned (.plain (OpenSpec.upto sumBackSpec)) sumBackUptoCard

/-- THE SECOND FORM's CARD OF 'credenzalaw2.SumDigits'. -/
def sumDigitsUptoCard : Claim7 := { stood := { row := sumDigitsUptoRow, standIns := [], harness := (true, "dcaada6811fe139877f5c31ac8cdbe49268be53eb0276985e33e190fed45df58"), looks := false }, kinds := [], alts := [], laidByText := true, laidKinds := [.data, .data, .data], laidTests := true, laidLooks := .later }
def SumDigitsUptoCardSaid : Prop := Claim7.holds Tryd.pinned (.plain (OpenSpec.upto sumDigitsSpec)) sumDigitsUptoCard

/-- THE SECOND FORM's CARD OF 'credenzalaw2.SumTells'. -/
def sumTellsUptoCard : Claim7 := { stood := { row := sumTellsUptoRow, standIns := [], harness := (true, "dcaada6811fe139877f5c31ac8cdbe49268be53eb0276985e33e190fed45df58"), looks := false }, kinds := [], alts := [], laidByText := true, laidKinds := [.data, .data, .data], laidTests := true, laidLooks := .later }
def SumTellsUptoCardSaid : Prop := Claim7.holds Tryd.pinned (.plain (OpenSpec.upto sumTellsSpec)) sumTellsUptoCard

/-- THE SECOND FORM's CARD OF 'credenzalaw2.SumHex'. -/
def sumHexUptoCard : Claim7 := { stood := { row := sumHexUptoRow, standIns := [], harness := (true, "dcaada6811fe139877f5c31ac8cdbe49268be53eb0276985e33e190fed45df58"), looks := false }, kinds := [], alts := [], laidByText := true, laidKinds := [.data, .data, .data], laidTests := true, laidLooks := .later }
def SumHexUptoCardSaid : Prop := Claim7.holds Tryd.pinned (.plain (OpenSpec.upto sumHexSpec)) sumHexUptoCard

/-- THE SECOND FORM's CARD OF 'credenzalaw2.SumLast'. -/
def sumLastUptoCard : Claim7 := { stood := { row := sumLastUptoRow, standIns := [], harness := (true, "dcaada6811fe139877f5c31ac8cdbe49268be53eb0276985e33e190fed45df58"), looks := false }, kinds := [], alts := [], laidByText := true, laidKinds := [.data, .data, .data], laidTests := true, laidLooks := .later }
def SumLastUptoCardSaid : Prop := Claim7.holds Tryd.pinned (.plain (OpenSpec.upto sumLastSpec)) sumLastUptoCard
end Rows
end Go.Proofs.YtinofijncbnolaaDoor
