/- The document's way to write a number. -/
import Derived.Test.YtfimhkijacamoaaGreatDoorA20
import Derived.Test.YtfimhkijacamoaaGreatDoorIc
import Derived.Lib.ItoaMem
import Derived.Lib.ItoaLen
set_option linter.unusedVariables false
set_option linter.unusedSimpArgs false
set_option maxRecDepth 10000
namespace Go.Proofs.YtfimhkijacamoaaGreatDoor.CNum
open Go Go.Proofs.YtfimhkijacamoaaGreatDoor Go.Proofs.YtfimhkijacamoaaGreatDoor.Abs Go.Proofs.YtfimhkijacamoaaGreatDoor.Ic
end Go.Proofs.YtfimhkijacamoaaGreatDoor.CNum
