/- The document's way to write a number. -/
import Derived.Test.YtfimhkijacamoaaDoorA20
import Derived.Test.YtfimhkijacamoaaDoorIc
import Derived.Lib.ItoaMem
import Derived.Lib.ItoaLen
set_option linter.unusedVariables false
set_option linter.unusedSimpArgs false
set_option maxRecDepth 10000
namespace Go.Proofs.YtfimhkijacamoaaDoor.CNum
open Go Go.Proofs.YtfimhkijacamoaaDoor Go.Proofs.YtfimhkijacamoaaDoor.Abs Go.Proofs.YtfimhkijacamoaaDoor.Ic
end Go.Proofs.YtfimhkijacamoaaDoor.CNum
