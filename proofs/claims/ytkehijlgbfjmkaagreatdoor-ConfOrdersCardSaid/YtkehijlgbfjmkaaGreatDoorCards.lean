/-
  DERIVED. GIVEN WITH THE SEED: THE CARDS: each row of YtkehijlgbfjmkaaGreatDoorRows.lean that lists a variable, with what it lists TIED to the program's text (the seventh form; the later family's looks); each row that meets fmt, with fmt's text TOLD by the authors' own Lean function (tested against real Go, not proved from fmt's source: count such statements apart). THE CARD IS WHAT COUNTS. Prove the row's statement (the work); the ties are given (YtkehijlgbfjmkaaGreatDoorTie.lean); close each card by the builder's one call (the guide's Derived/Test/ToyasCard.lean, 'card_holds'). Laid BY PROGRAM, IN A SANDBOX (cutbox-door.mjs). By AI agents, Wed Nov 11 2026. No macro, syntax, notation, axiom, sorry.
-/
import Derived.Test.YtkehijlgbfjmkaaGreatDoorRows
import GoSem.ClaimSeven
namespace Go.Proofs.YtkehijlgbfjmkaaGreatDoor
namespace Rows

/-- THE TIED CARD OF 'credenzalaw14.ConfApart'. -/
def confApartCard : Claim7 := { stood := { row := confApartRow, standIns := [], harness := (true, "b639846e224295f820a9480fc08510b9187abed63162070e77eb878ac90d7ec6"), looks := true }, kinds := [], alts := [], laidByText := true, laidKinds := [.data, .data, .data, .data, .handle, .pinned], laidTests := true, laidLooks := .later }
def ConfApartCardSaid : Prop := Claim7.holds Tryz.pinned (.plain (OpenSpec.ofChange confApartSpec)) confApartCard

/-- THE TIED CARD OF 'credenzalaw14.ConfTurned'. -/
def confTurnedCard : Claim7 := { stood := { row := confTurnedRow, standIns := [], harness := (true, "b639846e224295f820a9480fc08510b9187abed63162070e77eb878ac90d7ec6"), looks := true }, kinds := [], alts := [], laidByText := true, laidKinds := [.data, .data, .data, .data, .handle, .pinned], laidTests := true, laidLooks := .later }
def ConfTurnedCardSaid : Prop := Claim7.holds Tryz.pinned (.plain (OpenSpec.ofChange confTurnedSpec)) confTurnedCard

/-- THE TIED CARD OF 'credenzalaw14.ConfPrints'. -/
def confPrintsCard : Claim7 := { stood := { row := confPrintsRow, standIns := [], harness := (true, "b639846e224295f820a9480fc08510b9187abed63162070e77eb878ac90d7ec6"), looks := true }, kinds := [], alts := [], laidByText := true, laidKinds := [.data, .data, .data, .data, .handle, .pinned], laidTests := true, laidLooks := .later }
def ConfPrintsCardSaid : Prop := Claim7.holds Tryz.pinned (.plain (OpenSpec.ofChange confPrintsSpec)) confPrintsCard

/-- THE TIED CARD OF 'credenzalaw14.ConfParses'. -/
def confParsesCard : Claim7 := { stood := { row := confParsesRow, standIns := [], harness := (true, "b639846e224295f820a9480fc08510b9187abed63162070e77eb878ac90d7ec6"), looks := true }, kinds := [], alts := [], laidByText := true, laidKinds := [.data, .data, .data, .data, .handle, .pinned], laidTests := true, laidLooks := .later }
def ConfParsesCardSaid : Prop := Claim7.holds Tryz.pinned (.plain (OpenSpec.ofChange confParsesSpec)) confParsesCard

/-- THE TIED CARD OF 'credenzalaw14.ConfOrders'. -/
def confOrdersCard : Claim7 := { stood := { row := confOrdersRow, standIns := [], harness := (true, "b639846e224295f820a9480fc08510b9187abed63162070e77eb878ac90d7ec6"), looks := true }, kinds := [], alts := [], laidByText := true, laidKinds := [.data, .data, .data, .data, .handle, .pinned], laidTests := true, laidLooks := .later }
def ConfOrdersCardSaid : Prop := Claim7.holds Tryz.pinned (.plain (OpenSpec.ofChange confOrdersSpec)) confOrdersCard

/-- THE TIED CARD OF 'credenzalaw14.ConfFaults'. -/
def confFaultsCard : Claim7 := { stood := { row := confFaultsRow, standIns := [], harness := (true, "b639846e224295f820a9480fc08510b9187abed63162070e77eb878ac90d7ec6"), looks := true }, kinds := [], alts := [], laidByText := true, laidKinds := [.data, .data, .data, .data, .handle, .pinned], laidTests := true, laidLooks := .later }
def ConfFaultsCardSaid : Prop := Claim7.holds Tryz.pinned (.plain (OpenSpec.ofChange confFaultsSpec)) confFaultsCard

/-- THE TIED CARD OF 'credenzalaw14.ConfBounds'. -/
def confBoundsCard : Claim7 := { stood := { row := confBoundsRow, standIns := [], harness := (true, "b639846e224295f820a9480fc08510b9187abed63162070e77eb878ac90d7ec6"), looks := true }, kinds := [], alts := [], laidByText := true, laidKinds := [.data, .data, .data, .data, .handle, .pinned], laidTests := true, laidLooks := .later }
def ConfBoundsCardSaid : Prop := Claim7.holds Tryz.pinned (.plain (OpenSpec.ofChange confBoundsSpec)) confBoundsCard

/-- THE TIED CARD OF 'credenzalaw14.ConfSames'. -/
def confSamesCard : Claim7 := { stood := { row := confSamesRow, standIns := [], harness := (true, "b639846e224295f820a9480fc08510b9187abed63162070e77eb878ac90d7ec6"), looks := true }, kinds := [], alts := [], laidByText := true, laidKinds := [.data, .data, .data, .data, .handle, .pinned], laidTests := true, laidLooks := .later }
def ConfSamesCardSaid : Prop := Claim7.holds Tryz.pinned (.plain (OpenSpec.ofChange confSamesSpec)) confSamesCard

/-- THE SECOND FORM's CARD OF 'credenzalaw14.ConfApart'. -/
def confApartUptoCard : Claim7 := { stood := { row := confApartUptoRow, standIns := [], harness := (true, "b639846e224295f820a9480fc08510b9187abed63162070e77eb878ac90d7ec6"), looks := true }, kinds := [], alts := [], laidByText := true, laidKinds := [.data, .data, .data, .data, .handle, .pinned], laidTests := true, laidLooks := .later }
def ConfApartUptoCardSaid : Prop := Claim7.holds Tryz.pinned (.plain (OpenSpec.upto confApartSpec)) confApartUptoCard

/-- THE SECOND FORM's CARD OF 'credenzalaw14.ConfTurned'. -/
def confTurnedUptoCard : Claim7 := { stood := { row := confTurnedUptoRow, standIns := [], harness := (true, "b639846e224295f820a9480fc08510b9187abed63162070e77eb878ac90d7ec6"), looks := true }, kinds := [], alts := [], laidByText := true, laidKinds := [.data, .data, .data, .data, .handle, .pinned], laidTests := true, laidLooks := .later }
def ConfTurnedUptoCardSaid : Prop := Claim7.holds Tryz.pinned (.plain (OpenSpec.upto confTurnedSpec)) confTurnedUptoCard

/-- THE SECOND FORM's CARD OF 'credenzalaw14.ConfPrints'. -/
def confPrintsUptoCard : Claim7 := { stood := { row := confPrintsUptoRow, standIns := [], harness := (true, "b639846e224295f820a9480fc08510b9187abed63162070e77eb878ac90d7ec6"), looks := true }, kinds := [], alts := [], laidByText := true, laidKinds := [.data, .data, .data, .data, .handle, .pinned], laidTests := true, laidLooks := .later }
def ConfPrintsUptoCardSaid : Prop := Claim7.holds Tryz.pinned (.plain (OpenSpec.upto confPrintsSpec)) confPrintsUptoCard

/-- THE SECOND FORM's CARD OF 'credenzalaw14.ConfParses'. -/
def confParsesUptoCard : Claim7 := { stood := { row := confParsesUptoRow, standIns := [], harness := (true, "b639846e224295f820a9480fc08510b9187abed63162070e77eb878ac90d7ec6"), looks := true }, kinds := [], alts := [], laidByText := true, laidKinds := [.data, .data, .data, .data, .handle, .pinned], laidTests := true, laidLooks := .later }
def ConfParsesUptoCardSaid : Prop := Claim7.holds Tryz.pinned (.plain (OpenSpec.upto confParsesSpec)) confParsesUptoCard

/-- THE SECOND FORM's CARD OF 'credenzalaw14.ConfOrders'. -/
def confOrdersUptoCard : Claim7 := { stood := { row := confOrdersUptoRow, standIns := [], harness := (true, "b639846e224295f820a9480fc08510b9187abed63162070e77eb878ac90d7ec6"), looks := true }, kinds := [], alts := [], laidByText := true, laidKinds := [.data, .data, .data, .data, .handle, .pinned], laidTests := true, laidLooks := .later }
def ConfOrdersUptoCardSaid : Prop := Claim7.holds Tryz.pinned (.plain (OpenSpec.upto confOrdersSpec)) confOrdersUptoCard

/-- THE SECOND FORM's CARD OF 'credenzalaw14.ConfFaults'. -/
def confFaultsUptoCard : Claim7 := { stood := { row := confFaultsUptoRow, standIns := [], harness := (true, "b639846e224295f820a9480fc08510b9187abed63162070e77eb878ac90d7ec6"), looks := true }, kinds := [], alts := [], laidByText := true, laidKinds := [.data, .data, .data, .data, .handle, .pinned], laidTests := true, laidLooks := .later }
def ConfFaultsUptoCardSaid : Prop := Claim7.holds Tryz.pinned (.plain (OpenSpec.upto confFaultsSpec)) confFaultsUptoCard

/-- THE SECOND FORM's CARD OF 'credenzalaw14.ConfBounds'. -/
def confBoundsUptoCard : Claim7 := { stood := { row := confBoundsUptoRow, standIns := [], harness := (true, "b639846e224295f820a9480fc08510b9187abed63162070e77eb878ac90d7ec6"), looks := true }, kinds := [], alts := [], laidByText := true, laidKinds := [.data, .data, .data, .data, .handle, .pinned], laidTests := true, laidLooks := .later }
def ConfBoundsUptoCardSaid : Prop := Claim7.holds Tryz.pinned (.plain (OpenSpec.upto confBoundsSpec)) confBoundsUptoCard

/-- THE SECOND FORM's CARD OF 'credenzalaw14.ConfSames'. -/
def confSamesUptoCard : Claim7 := { stood := { row := confSamesUptoRow, standIns := [], harness := (true, "b639846e224295f820a9480fc08510b9187abed63162070e77eb878ac90d7ec6"), looks := true }, kinds := [], alts := [], laidByText := true, laidKinds := [.data, .data, .data, .data, .handle, .pinned], laidTests := true, laidLooks := .later }
def ConfSamesUptoCardSaid : Prop := Claim7.holds Tryz.pinned (.plain (OpenSpec.upto confSamesSpec)) confSamesUptoCard
end Rows
end Go.Proofs.YtkehijlgbfjmkaaGreatDoor
