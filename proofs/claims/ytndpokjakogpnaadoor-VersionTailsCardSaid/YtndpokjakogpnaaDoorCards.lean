/-
  DERIVED. GIVEN WITH THE SEED: THE CARDS: each row of YtndpokjakogpnaaDoorRows.lean that lists a variable, with what it lists TIED to the program's text (the seventh form; the later family's looks); each row that meets fmt, with fmt's text TOLD by the authors' own Lean function (tested against real Go, not proved from fmt's source: count such statements apart). THE CARD IS WHAT COUNTS. Prove the row's statement (the work); the ties are given (YtndpokjakogpnaaDoorTie.lean); close each card by the builder's one call (the guide's Derived/Test/ToyasCard.lean, 'card_holds'). Laid BY PROGRAM, IN A SANDBOX (cutbox-door.mjs). By AI agents, Wed Nov 11 2026. No macro, syntax, notation, axiom, sorry.
-/
import Derived.Test.YtndpokjakogpnaaDoorRows
import GoSem.ClaimSeven
namespace Go.Proofs.YtndpokjakogpnaaDoor
namespace Rows

/-- THE TIED CARD OF 'credenzalaw15.VersionDots'. -/
def versionDotsCard : Claim7 := { stood := { row := versionDotsRow, standIns := [], harness := (true, "dfa760d5761ca01f2cb51eb24c4495adeb5c6ecaeddfd5f6f8c4c7b8d825902b"), looks := false }, kinds := [], alts := [], laidByText := true, laidKinds := [.data, .pinned], laidTests := true, laidLooks := .later }
def VersionDotsCardSaid : Prop := Claim7.holds Tryd.pinned (.plain (OpenSpec.ofChange versionDotsSpec)) versionDotsCard

/-- THE TIED CARD OF 'credenzalaw15.VersionLong'. -/
def versionLongCard : Claim7 := { stood := { row := versionLongRow, standIns := [], harness := (true, "dfa760d5761ca01f2cb51eb24c4495adeb5c6ecaeddfd5f6f8c4c7b8d825902b"), looks := false }, kinds := [], alts := [], laidByText := true, laidKinds := [.data, .pinned], laidTests := true, laidLooks := .later }
def VersionLongCardSaid : Prop := Claim7.holds Tryd.pinned (.plain (OpenSpec.ofChange versionLongSpec)) versionLongCard

/-- THE TIED CARD OF 'credenzalaw15.VersionTells'. -/
def versionTellsCard : Claim7 := { stood := { row := versionTellsRow, standIns := [], harness := (true, "dfa760d5761ca01f2cb51eb24c4495adeb5c6ecaeddfd5f6f8c4c7b8d825902b"), looks := false }, kinds := [], alts := [], laidByText := true, laidKinds := [.data, .pinned], laidTests := true, laidLooks := .later }
def VersionTellsCardSaid : Prop := Claim7.holds Tryd.pinned (.plain (OpenSpec.ofChange versionTellsSpec)) versionTellsCard

/-- THE TIED CARD OF 'credenzalaw15.VersionOrders'. -/
def versionOrdersCard : Claim7 := { stood := { row := versionOrdersRow, standIns := [], harness := (true, "dfa760d5761ca01f2cb51eb24c4495adeb5c6ecaeddfd5f6f8c4c7b8d825902b"), looks := false }, kinds := [], alts := [], laidByText := true, laidKinds := [.data, .pinned], laidTests := true, laidLooks := .later }
def VersionOrdersCardSaid : Prop := Claim7.holds Tryd.pinned (.plain (OpenSpec.ofChange versionOrdersSpec)) versionOrdersCard

/-- THE TIED CARD OF 'credenzalaw15.VersionNumbers'. -/
def versionNumbersCard : Claim7 := { stood := { row := versionNumbersRow, standIns := [], harness := (true, "dfa760d5761ca01f2cb51eb24c4495adeb5c6ecaeddfd5f6f8c4c7b8d825902b"), looks := false }, kinds := [], alts := [], laidByText := true, laidKinds := [.data, .pinned], laidTests := true, laidLooks := .later }
def VersionNumbersCardSaid : Prop := Claim7.holds Tryd.pinned (.plain (OpenSpec.ofChange versionNumbersSpec)) versionNumbersCard

/-- THE TIED CARD OF 'credenzalaw15.VersionTails'. -/
def versionTailsCard : Claim7 := { stood := { row := versionTailsRow, standIns := [], harness := (true, "dfa760d5761ca01f2cb51eb24c4495adeb5c6ecaeddfd5f6f8c4c7b8d825902b"), looks := false }, kinds := [], alts := [], laidByText := true, laidKinds := [.data, .pinned], laidTests := true, laidLooks := .later }
def VersionTailsCardSaid : Prop := Claim7.holds Tryd.pinned (.plain (OpenSpec.ofChange versionTailsSpec)) versionTailsCard

/-- THE TIED CARD OF 'credenzalaw15.VersionTokens'. -/
def versionTokensCard : Claim7 := { stood := { row := versionTokensRow, standIns := [], harness := (true, "dfa760d5761ca01f2cb51eb24c4495adeb5c6ecaeddfd5f6f8c4c7b8d825902b"), looks := false }, kinds := [], alts := [], laidByText := true, laidKinds := [.data, .pinned], laidTests := true, laidLooks := .later }
def VersionTokensCardSaid : Prop := Claim7.holds Tryd.pinned (.plain (OpenSpec.ofChange versionTokensSpec)) versionTokensCard

/-- THE TIED CARD OF 'credenzalaw15.VersionSorts'. -/
def versionSortsCard : Claim7 := { stood := { row := versionSortsRow, standIns := [], harness := (true, "dfa760d5761ca01f2cb51eb24c4495adeb5c6ecaeddfd5f6f8c4c7b8d825902b"), looks := false }, kinds := [], alts := [], laidByText := true, laidKinds := [.data, .pinned], laidTests := true, laidLooks := .later }
def VersionSortsCardSaid : Prop := Claim7.holds Tryd.pinned (.plain (OpenSpec.ofChange versionSortsSpec)) versionSortsCard

/-- THE SECOND FORM's CARD OF 'credenzalaw15.VersionDots'. -/
def versionDotsUptoCard : Claim7 := { stood := { row := versionDotsUptoRow, standIns := [], harness := (true, "dfa760d5761ca01f2cb51eb24c4495adeb5c6ecaeddfd5f6f8c4c7b8d825902b"), looks := false }, kinds := [], alts := [], laidByText := true, laidKinds := [.data, .pinned], laidTests := true, laidLooks := .later }
def VersionDotsUptoCardSaid : Prop := Claim7.holds Tryd.pinned (.plain (OpenSpec.upto versionDotsSpec)) versionDotsUptoCard

/-- THE SECOND FORM's CARD OF 'credenzalaw15.VersionLong'. -/
def versionLongUptoCard : Claim7 := { stood := { row := versionLongUptoRow, standIns := [], harness := (true, "dfa760d5761ca01f2cb51eb24c4495adeb5c6ecaeddfd5f6f8c4c7b8d825902b"), looks := false }, kinds := [], alts := [], laidByText := true, laidKinds := [.data, .pinned], laidTests := true, laidLooks := .later }
def VersionLongUptoCardSaid : Prop := Claim7.holds Tryd.pinned (.plain (OpenSpec.upto versionLongSpec)) versionLongUptoCard

/-- THE SECOND FORM's CARD OF 'credenzalaw15.VersionTells'. -/
def versionTellsUptoCard : Claim7 := { stood := { row := versionTellsUptoRow, standIns := [], harness := (true, "dfa760d5761ca01f2cb51eb24c4495adeb5c6ecaeddfd5f6f8c4c7b8d825902b"), looks := false }, kinds := [], alts := [], laidByText := true, laidKinds := [.data, .pinned], laidTests := true, laidLooks := .later }
def VersionTellsUptoCardSaid : Prop := Claim7.holds Tryd.pinned (.plain (OpenSpec.upto versionTellsSpec)) versionTellsUptoCard

/-- THE SECOND FORM's CARD OF 'credenzalaw15.VersionOrders'. -/
def versionOrdersUptoCard : Claim7 := { stood := { row := versionOrdersUptoRow, standIns := [], harness := (true, "dfa760d5761ca01f2cb51eb24c4495adeb5c6ecaeddfd5f6f8c4c7b8d825902b"), looks := false }, kinds := [], alts := [], laidByText := true, laidKinds := [.data, .pinned], laidTests := true, laidLooks := .later }
def VersionOrdersUptoCardSaid : Prop := Claim7.holds Tryd.pinned (.plain (OpenSpec.upto versionOrdersSpec)) versionOrdersUptoCard

/-- THE SECOND FORM's CARD OF 'credenzalaw15.VersionNumbers'. -/
def versionNumbersUptoCard : Claim7 := { stood := { row := versionNumbersUptoRow, standIns := [], harness := (true, "dfa760d5761ca01f2cb51eb24c4495adeb5c6ecaeddfd5f6f8c4c7b8d825902b"), looks := false }, kinds := [], alts := [], laidByText := true, laidKinds := [.data, .pinned], laidTests := true, laidLooks := .later }
def VersionNumbersUptoCardSaid : Prop := Claim7.holds Tryd.pinned (.plain (OpenSpec.upto versionNumbersSpec)) versionNumbersUptoCard

/-- THE SECOND FORM's CARD OF 'credenzalaw15.VersionTails'. -/
def versionTailsUptoCard : Claim7 := { stood := { row := versionTailsUptoRow, standIns := [], harness := (true, "dfa760d5761ca01f2cb51eb24c4495adeb5c6ecaeddfd5f6f8c4c7b8d825902b"), looks := false }, kinds := [], alts := [], laidByText := true, laidKinds := [.data, .pinned], laidTests := true, laidLooks := .later }
def VersionTailsUptoCardSaid : Prop := Claim7.holds Tryd.pinned (.plain (OpenSpec.upto versionTailsSpec)) versionTailsUptoCard

/-- THE SECOND FORM's CARD OF 'credenzalaw15.VersionTokens'. -/
def versionTokensUptoCard : Claim7 := { stood := { row := versionTokensUptoRow, standIns := [], harness := (true, "dfa760d5761ca01f2cb51eb24c4495adeb5c6ecaeddfd5f6f8c4c7b8d825902b"), looks := false }, kinds := [], alts := [], laidByText := true, laidKinds := [.data, .pinned], laidTests := true, laidLooks := .later }
def VersionTokensUptoCardSaid : Prop := Claim7.holds Tryd.pinned (.plain (OpenSpec.upto versionTokensSpec)) versionTokensUptoCard

/-- THE SECOND FORM's CARD OF 'credenzalaw15.VersionSorts'. -/
def versionSortsUptoCard : Claim7 := { stood := { row := versionSortsUptoRow, standIns := [], harness := (true, "dfa760d5761ca01f2cb51eb24c4495adeb5c6ecaeddfd5f6f8c4c7b8d825902b"), looks := false }, kinds := [], alts := [], laidByText := true, laidKinds := [.data, .pinned], laidTests := true, laidLooks := .later }
def VersionSortsUptoCardSaid : Prop := Claim7.holds Tryd.pinned (.plain (OpenSpec.upto versionSortsSpec)) versionSortsUptoCard
end Rows
end Go.Proofs.YtndpokjakogpnaaDoor
