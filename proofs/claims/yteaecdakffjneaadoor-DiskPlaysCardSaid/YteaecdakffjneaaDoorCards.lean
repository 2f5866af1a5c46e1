/-
  DERIVED. GIVEN WITH THE SEED: THE CARDS: each row of YteaecdakffjneaaDoorRows.lean that lists a variable, with what it lists TIED to the program's text (the seventh form; the later family's looks); each row that meets fmt, with fmt's text TOLD by the authors' own Lean function (tested against real Go, not proved from fmt's source: count such statements apart). THE CARD IS WHAT COUNTS. Prove the row's statement (the work); the ties are given (YteaecdakffjneaaDoorTie.lean); close each card by the builder's one call (the guide's Derived/Test/ToyasCard.lean, 'card_holds'). Laid BY PROGRAM, IN A SANDBOX (cutbox-door.mjs). By AI agents, Wed Nov 11 2026. No macro, syntax, notation, axiom, sorry.
-/
import Derived.Test.YteaecdakffjneaaDoorRows
import GoSem.ClaimSeven
namespace Go.Proofs.YteaecdakffjneaaDoor
namespace Rows

/-- THE TIED CARD OF 'credenzalaw3.DiskApart'. -/
def diskApartCard : Claim7 := { stood := { row := diskApartRow, standIns := [], harness := (true, "59d218ed1371bfcd155a6a0206a498b07fa142dcb8468ef7c759f6c036d783af"), looks := true }, kinds := [], alts := [], laidByText := true, laidKinds := [.data, .data, .data, .handle], laidTests := true, laidLooks := .later }
def DiskApartCardSaid : Prop := Claim7.holds Tryd.pinned (.plain (OpenSpec.ofChange diskApartSpec)) diskApartCard

/-- THE TIED CARD OF 'credenzalaw3.DiskFuses'. -/
def diskFusesCard : Claim7 := { stood := { row := diskFusesRow, standIns := [], harness := (true, "59d218ed1371bfcd155a6a0206a498b07fa142dcb8468ef7c759f6c036d783af"), looks := true }, kinds := [], alts := [], laidByText := true, laidKinds := [.data, .data, .data, .handle], laidTests := true, laidLooks := .later }
def DiskFusesCardSaid : Prop := Claim7.holds Tryd.pinned (.plain (OpenSpec.ofChange diskFusesSpec)) diskFusesCard

/-- THE TIED CARD OF 'credenzalaw3.DiskCuts'. -/
def diskCutsCard : Claim7 := { stood := { row := diskCutsRow, standIns := [], harness := (true, "59d218ed1371bfcd155a6a0206a498b07fa142dcb8468ef7c759f6c036d783af"), looks := true }, kinds := [], alts := [], laidByText := true, laidKinds := [.data, .data, .data, .handle], laidTests := true, laidLooks := .later }
def DiskCutsCardSaid : Prop := Claim7.holds Tryd.pinned (.plain (OpenSpec.ofChange diskCutsSpec)) diskCutsCard

/-- THE TIED CARD OF 'credenzalaw3.DiskCopies'. -/
def diskCopiesCard : Claim7 := { stood := { row := diskCopiesRow, standIns := [], harness := (true, "59d218ed1371bfcd155a6a0206a498b07fa142dcb8468ef7c759f6c036d783af"), looks := true }, kinds := [], alts := [], laidByText := true, laidKinds := [.data, .data, .data, .handle], laidTests := true, laidLooks := .later }
def DiskCopiesCardSaid : Prop := Claim7.holds Tryd.pinned (.plain (OpenSpec.ofChange diskCopiesSpec)) diskCopiesCard

/-- THE TIED CARD OF 'credenzalaw3.DiskPlays'. -/
def diskPlaysCard : Claim7 := { stood := { row := diskPlaysRow, standIns := [], harness := (true, "59d218ed1371bfcd155a6a0206a498b07fa142dcb8468ef7c759f6c036d783af"), looks := true }, kinds := [], alts := [], laidByText := true, laidKinds := [.data, .data, .data, .handle], laidTests := true, laidLooks := .later }
def DiskPlaysCardSaid : Prop := Claim7.holds Tryd.pinned (.plain (OpenSpec.ofChange diskPlaysSpec)) diskPlaysCard

/-- THE SECOND FORM's CARD OF 'credenzalaw3.DiskApart'. -/
def diskApartUptoCard : Claim7 := { stood := { row := diskApartUptoRow, standIns := [], harness := (true, "59d218ed1371bfcd155a6a0206a498b07fa142dcb8468ef7c759f6c036d783af"), looks := true }, kinds := [], alts := [], laidByText := true, laidKinds := [.data, .data, .data, .handle], laidTests := true, laidLooks := .later }
def DiskApartUptoCardSaid : Prop := Claim7.holds Tryd.pinned (.plain (OpenSpec.upto diskApartSpec)) diskApartUptoCard

/-- THE SECOND FORM's CARD OF 'credenzalaw3.DiskFuses'. -/
def diskFusesUptoCard : Claim7 := { stood := { row := diskFusesUptoRow, standIns := [], harness := (true, "59d218ed1371bfcd155a6a0206a498b07fa142dcb8468ef7c759f6c036d783af"), looks := true }, kinds := [], alts := [], laidByText := true, laidKinds := [.data, .data, .data, .handle], laidTests := true, laidLooks := .later }
def DiskFusesUptoCardSaid : Prop := Claim7.holds Tryd.pinned (.plain (OpenSpec.upto diskFusesSpec)) diskFusesUptoCard

/-- THE SECOND FORM's CARD OF 'credenzalaw3.DiskCuts'. -/
def diskCutsUptoCard : Claim7 := { stood := { row := diskCutsUptoRow, standIns := [], harness := (true, "59d218ed1371bfcd155a6a0206a498b07fa142dcb8468ef7c759f6c036d783af"), looks := true }, kinds := [], alts := [], laidByText := true, laidKinds := [.data, .data, .data, .handle], laidTests := true, laidLooks := .later }
def DiskCutsUptoCardSaid : Prop := Claim7.holds Tryd.pinned (.plain (OpenSpec.upto diskCutsSpec)) diskCutsUptoCard

/-- THE SECOND FORM's CARD OF 'credenzalaw3.DiskCopies'. -/
def diskCopiesUptoCard : Claim7 := { stood := { row := diskCopiesUptoRow, standIns := [], harness := (true, "59d218ed1371bfcd155a6a0206a498b07fa142dcb8468ef7c759f6c036d783af"), looks := true }, kinds := [], alts := [], laidByText := true, laidKinds := [.data, .data, .data, .handle], laidTests := true, laidLooks := .later }
def DiskCopiesUptoCardSaid : Prop := Claim7.holds Tryd.pinned (.plain (OpenSpec.upto diskCopiesSpec)) diskCopiesUptoCard

/-- THE SECOND FORM's CARD OF 'credenzalaw3.DiskPlays'. -/
def diskPlaysUptoCard : Claim7 := { stood := { row := diskPlaysUptoRow, standIns := [], harness := (true, "59d218ed1371bfcd155a6a0206a498b07fa142dcb8468ef7c759f6c036d783af"), looks := true }, kinds := [], alts := [], laidByText := true, laidKinds := [.data, .data, .data, .handle], laidTests := true, laidLooks := .later }
def DiskPlaysUptoCardSaid : Prop := Claim7.holds Tryd.pinned (.plain (OpenSpec.upto diskPlaysSpec)) diskPlaysUptoCard
end Rows
end Go.Proofs.YteaecdakffjneaaDoor
