/-
  DERIVED. GIVEN WITH THE SEED: THE CARDS: each row of YtpmlaaoideeafaaDoorRows.lean that lists a variable, with what it lists TIED to the program's text (the seventh form; the later family's looks); each row that meets fmt, with fmt's text TOLD by the authors' own Lean function (tested against real Go, not proved from fmt's source: count such statements apart). THE CARD IS WHAT COUNTS. Prove the row's statement (the work); the ties are given (YtpmlaaoideeafaaDoorTie.lean); close each card by the builder's one call (the guide's Derived/Test/ToyasCard.lean, 'card_holds'). Laid BY PROGRAM, IN A SANDBOX (cutbox-door.mjs). By AI agents, Wed Nov 11 2026. No macro, syntax, notation, axiom, sorry.
-/
import Derived.Test.YtpmlaaoideeafaaDoorRows
import GoSem.ClaimSeven
namespace Go.Proofs.YtpmlaaoideeafaaDoor
namespace Rows

/-- THE TIED CARD OF 'credenzalaw1.FaultIs'. -/
def faultIsCard : Claim7 := { stood := { row := faultIsRow, standIns := [], harness := (true, "ed38dc016bfcadb81864e476f892f91b9697ddef5716ce3d7c60576705a1e9e4"), looks := true }, kinds := [], alts := [], laidByText := true, laidKinds := [.data, .data, .data, .handle], laidTests := true, laidLooks := .later }
def FaultIsCardSaid : Prop := Claim7.holds Tryd.pinned (.plain (OpenSpec.ofChange faultIsSpec)) faultIsCard

/-- THE TIED CARD OF 'credenzalaw1.FaultTexts'. -/
def faultTextsCard : Claim7 := { stood := { row := faultTextsRow, standIns := [], harness := (true, "ed38dc016bfcadb81864e476f892f91b9697ddef5716ce3d7c60576705a1e9e4"), looks := true }, kinds := [], alts := [], laidByText := true, laidKinds := [.data, .data, .data, .handle], laidTests := true, laidLooks := .later }
def FaultTextsCardSaid : Prop := Claim7.holds Tryd.pinned (.plain (OpenSpec.ofChange faultTextsSpec)) faultTextsCard

/-- THE TIED CARD OF 'credenzalaw1.FaultNils'. -/
def faultNilsCard : Claim7 := { stood := { row := faultNilsRow, standIns := [], harness := (true, "ed38dc016bfcadb81864e476f892f91b9697ddef5716ce3d7c60576705a1e9e4"), looks := true }, kinds := [], alts := [], laidByText := true, laidKinds := [.data, .data, .data, .handle], laidTests := true, laidLooks := .later }
def FaultNilsCardSaid : Prop := Claim7.holds Tryd.pinned (.plain (OpenSpec.ofChange faultNilsSpec)) faultNilsCard

/-- THE TIED CARD OF 'credenzalaw1.FaultDeep'. -/
def faultDeepCard : Claim7 := { stood := { row := faultDeepRow, standIns := [], harness := (true, "ed38dc016bfcadb81864e476f892f91b9697ddef5716ce3d7c60576705a1e9e4"), looks := true }, kinds := [], alts := [], laidByText := true, laidKinds := [.data, .data, .data, .handle], laidTests := true, laidLooks := .later }
def FaultDeepCardSaid : Prop := Claim7.holds Tryd.pinned (.plain (OpenSpec.ofChange faultDeepSpec)) faultDeepCard

/-- THE TIED CARD OF 'credenzalaw1.FaultChains'. -/
def faultChainsCard : Claim7 := { stood := { row := faultChainsRow, standIns := [], harness := (true, "ed38dc016bfcadb81864e476f892f91b9697ddef5716ce3d7c60576705a1e9e4"), looks := true }, kinds := [], alts := [], laidByText := true, laidKinds := [.data, .data, .data, .handle], laidTests := true, laidLooks := .later }
def FaultChainsCardSaid : Prop := Claim7.holds Tryd.pinned (.plain (OpenSpec.ofChange faultChainsSpec)) faultChainsCard

/-- THE TIED CARD OF 'credenzalaw1.FaultRaw'. -/
def faultRawCard : Claim7 := { stood := { row := faultRawRow, standIns := [], harness := (true, "ed38dc016bfcadb81864e476f892f91b9697ddef5716ce3d7c60576705a1e9e4"), looks := true }, kinds := [], alts := [], laidByText := true, laidKinds := [.data, .data, .data, .handle], laidTests := true, laidLooks := .later }
def FaultRawCardSaid : Prop := Claim7.holds Tryd.pinned (.plain (OpenSpec.ofChange faultRawSpec)) faultRawCard

/-- THE SECOND FORM's CARD OF 'credenzalaw1.FaultIs'. -/
def faultIsUptoCard : Claim7 := { stood := { row := faultIsUptoRow, standIns := [], harness := (true, "ed38dc016bfcadb81864e476f892f91b9697ddef5716ce3d7c60576705a1e9e4"), looks := true }, kinds := [], alts := [], laidByText := true, laidKinds := [.data, .data, .data, .handle], laidTests := true, laidLooks := .later }
def FaultIsUptoCardSaid : Prop := Claim7.holds Tryd.pinned (.plain (OpenSpec.upto faultIsSpec)) faultIsUptoCard

/-- THE SECOND FORM's CARD OF 'credenzalaw1.FaultTexts'. -/
def faultTextsUptoCard : Claim7 := { stood := { row := faultTextsUptoRow, standIns := [], harness := (true, "ed38dc016bfcadb81864e476f892f91b9697ddef5716ce3d7c60576705a1e9e4"), looks := true }, kinds := [], alts := [], laidByText := true, laidKinds := [.data, .data, .data, .handle], laidTests := true, laidLooks := .later }
def FaultTextsUptoCardSaid : Prop := Claim7.holds Tryd.pinned (.plain (OpenSpec.upto faultTextsSpec)) faultTextsUptoCard

/-- THE SECOND FORM's CARD OF 'credenzalaw1.FaultNils'. -/
def faultNilsUptoCard : Claim7 := { stood := { row := faultNilsUptoRow, standIns := [], harness := (true, "ed38dc016bfcadb81864e476f892f91b9697ddef5716ce3d7c60576705a1e9e4"), looks := true }, kinds := [], alts := [], laidByText := true, laidKinds := [.data, .data, .data, .handle], laidTests := true, laidLooks := .later }
def FaultNilsUptoCardSaid : Prop := Claim7.holds Tryd.pinned (.plain (OpenSpec.upto faultNilsSpec)) faultNilsUptoCard

/-- THE SECOND FORM's CARD OF 'credenzalaw1.FaultDeep'. -/
def faultDeepUptoCard : Claim7 := { stood := { row := faultDeepUptoRow, standIns := [], harness := (true, "ed38dc016bfcadb81864e476f892f91b9697ddef5716ce3d7c60576705a1e9e4"), looks := true }, kinds := [], alts := [], laidByText := true, laidKinds := [.data, .data, .data, .handle], laidTests := true, laidLooks := .later }
def FaultDeepUptoCardSaid : Prop := Claim7.holds Tryd.pinned (.plain (OpenSpec.upto faultDeepSpec)) faultDeepUptoCard

/-- THE SECOND FORM's CARD OF 'credenzalaw1.FaultChains'. -/
def faultChainsUptoCard : Claim7 := { stood := { row := faultChainsUptoRow, standIns := [], harness := (true, "ed38dc016bfcadb81864e476f892f91b9697ddef5716ce3d7c60576705a1e9e4"), looks := true }, kinds := [], alts := [], laidByText := true, laidKinds := [.data, .data, .data, .handle], laidTests := true, laidLooks := .later }
def FaultChainsUptoCardSaid : Prop := Claim7.holds Tryd.pinned (.plain (OpenSpec.upto faultChainsSpec)) faultChainsUptoCard

/-- THE SECOND FORM's CARD OF 'credenzalaw1.FaultRaw'. -/
def faultRawUptoCard : Claim7 := { stood := { row := faultRawUptoRow, standIns := [], harness := (true, "ed38dc016bfcadb81864e476f892f91b9697ddef5716ce3d7c60576705a1e9e4"), looks := true }, kinds := [], alts := [], laidByText := true, laidKinds := [.data, .data, .data, .handle], laidTests := true, laidLooks := .later }
def FaultRawUptoCardSaid : Prop := Claim7.holds Tryd.pinned (.plain (OpenSpec.upto faultRawSpec)) faultRawUptoCard
end Rows
end Go.Proofs.YtpmlaaoideeafaaDoor
