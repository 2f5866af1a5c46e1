/-
  DERIVED. GIVEN WITH THE SEED: THE CARDS: each row of YtiopaoclcafkcaaDoorRows.lean that lists a variable, with what it lists TIED to the program's text (the seventh form; the later family's looks); each row that meets fmt, with fmt's text TOLD by the authors' own Lean function (tested against real Go, not proved from fmt's source: count such statements apart). THE CARD IS WHAT COUNTS. Prove the row's statement (the work); the ties are given (YtiopaoclcafkcaaDoorTie.lean); close each card by the builder's one call (the guide's Derived/Test/ToyasCard.lean, 'card_holds'). Laid BY PROGRAM, IN A SANDBOX (cutbox-door.mjs). By AI agents, Wed Nov 11 2026. No macro, syntax, notation, axiom, sorry.
-/
import Derived.Test.YtiopaoclcafkcaaDoorRows
import GoSem.ClaimSeven
namespace Go.Proofs.YtiopaoclcafkcaaDoor
namespace Rows

/-- THE TIED CARD OF 'credenzalaw19.LineWords'. -/
def lineWordsCard : Claim7 := { stood := { row := lineWordsRow, standIns := [], harness := (true, "81bc6b9ae0ec28eb0846b5c9ef1cbfdba200f022d5f2e53f6104e5fdafced355"), looks := true }, kinds := [], alts := [], laidByText := true, laidKinds := [.data, .data, .data, .data, .pinned], laidTests := true, laidLooks := .later }
def LineWordsCardSaid : Prop := Claim7.holds Tryd.pinned (.plain (OpenSpec.ofChange lineWordsSpec)) lineWordsCard

/-- THE TIED CARD OF 'credenzalaw19.LineBounds'. -/
def lineBoundsCard : Claim7 := { stood := { row := lineBoundsRow, standIns := [], harness := (true, "81bc6b9ae0ec28eb0846b5c9ef1cbfdba200f022d5f2e53f6104e5fdafced355"), looks := true }, kinds := [], alts := [], laidByText := true, laidKinds := [.data, .data, .data, .handle], laidTests := true, laidLooks := .later }
def LineBoundsCardSaid : Prop := Claim7.holds Tryd.pinned (.plain (OpenSpec.ofChange lineBoundsSpec)) lineBoundsCard

/-- THE TIED CARD OF 'credenzalaw19.LineBuilds'. -/
def lineBuildsCard : Claim7 := { stood := { row := lineBuildsRow, standIns := [], harness := (true, "81bc6b9ae0ec28eb0846b5c9ef1cbfdba200f022d5f2e53f6104e5fdafced355"), looks := true }, kinds := [], alts := [], laidByText := true, laidKinds := [.data, .data, .data, .handle], laidTests := true, laidLooks := .later }
def LineBuildsCardSaid : Prop := Claim7.holds Tryd.pinned (.plain (OpenSpec.ofChange lineBuildsSpec)) lineBuildsCard

/-- THE TIED CARD OF 'credenzalaw19.LineParts'. -/
def linePartsCard : Claim7 := { stood := { row := linePartsRow, standIns := [], harness := (true, "81bc6b9ae0ec28eb0846b5c9ef1cbfdba200f022d5f2e53f6104e5fdafced355"), looks := true }, kinds := [], alts := [], laidByText := true, laidKinds := [.data, .data, .data, .data, .handle, .pinned], laidTests := true, laidLooks := .later }
def LinePartsCardSaid : Prop := Claim7.holds Tryd.pinned (.plain (OpenSpec.ofChange linePartsSpec)) linePartsCard

/-- THE SECOND FORM's CARD OF 'credenzalaw19.LineWords'. -/
def lineWordsUptoCard : Claim7 := { stood := { row := lineWordsUptoRow, standIns := [], harness := (true, "81bc6b9ae0ec28eb0846b5c9ef1cbfdba200f022d5f2e53f6104e5fdafced355"), looks := true }, kinds := [], alts := [], laidByText := true, laidKinds := [.data, .data, .data, .data, .pinned], laidTests := true, laidLooks := .later }
def LineWordsUptoCardSaid : Prop := Claim7.holds Tryd.pinned (.plain (OpenSpec.upto lineWordsSpec)) lineWordsUptoCard

/-- THE SECOND FORM's CARD OF 'credenzalaw19.LineBounds'. -/
def lineBoundsUptoCard : Claim7 := { stood := { row := lineBoundsUptoRow, standIns := [], harness := (true, "81bc6b9ae0ec28eb0846b5c9ef1cbfdba200f022d5f2e53f6104e5fdafced355"), looks := true }, kinds := [], alts := [], laidByText := true, laidKinds := [.data, .data, .data, .handle], laidTests := true, laidLooks := .later }
def LineBoundsUptoCardSaid : Prop := Claim7.holds Tryd.pinned (.plain (OpenSpec.upto lineBoundsSpec)) lineBoundsUptoCard

/-- THE SECOND FORM's CARD OF 'credenzalaw19.LineBuilds'. -/
def lineBuildsUptoCard : Claim7 := { stood := { row := lineBuildsUptoRow, standIns := [], harness := (true, "81bc6b9ae0ec28eb0846b5c9ef1cbfdba200f022d5f2e53f6104e5fdafced355"), looks := true }, kinds := [], alts := [], laidByText := true, laidKinds := [.data, .data, .data, .handle], laidTests := true, laidLooks := .later }
def LineBuildsUptoCardSaid : Prop := Claim7.holds Tryd.pinned (.plain (OpenSpec.upto lineBuildsSpec)) lineBuildsUptoCard

/-- THE SECOND FORM's CARD OF 'credenzalaw19.LineParts'. -/
def linePartsUptoCard : Claim7 := { stood := { row := linePartsUptoRow, standIns := [], harness := (true, "81bc6b9ae0ec28eb0846b5c9ef1cbfdba200f022d5f2e53f6104e5fdafced355"), looks := true }, kinds := [], alts := [], laidByText := true, laidKinds := [.data, .data, .data, .data, .handle, .pinned], laidTests := true, laidLooks := .later }
def LinePartsUptoCardSaid : Prop := Claim7.holds Tryd.pinned (.plain (OpenSpec.upto linePartsSpec)) linePartsUptoCard
end Rows
end Go.Proofs.YtiopaoclcafkcaaDoor
