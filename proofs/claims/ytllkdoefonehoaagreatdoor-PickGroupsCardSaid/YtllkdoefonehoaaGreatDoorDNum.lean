/- The document's way to write a number. -/
import Derived.Test.YtllkdoefonehoaaGreatDoorA20
import Derived.Test.YtllkdoefonehoaaGreatDoorIc
import Derived.Lib.ItoaMem
import Derived.Lib.ItoaLen
set_option linter.unusedVariables false
set_option linter.unusedSimpArgs false
set_option maxRecDepth 10000
namespace Go.Proofs.YtllkdoefonehoaaGreatDoor.CNum
open Go Go.Proofs.YtllkdoefonehoaaGreatDoor Go.Proofs.YtllkdoefonehoaaGreatDoor.Abs Go.Proofs.YtllkdoefonehoaaGreatDoor.Ic
end Go.Proofs.YtllkdoefonehoaaGreatDoor.CNum
