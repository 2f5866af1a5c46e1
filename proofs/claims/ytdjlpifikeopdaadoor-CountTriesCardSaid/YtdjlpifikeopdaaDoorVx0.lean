-- written by hprint.py (wip/tools): the kit's print with hand contracts
import Derived.Test.YtdjlpifikeopdaaDoorProg
import Derived.Below
import Derived.Deep.Draws
import Derived.Deep.AppendLies
import Derived.Maps.AppendAt
import Derived.OwnWalk
import Derived.Laws.BytesArg
import Derived.Laws.MakeOwn
import Derived.Laws.OwnMore
import Derived.Deep.OwnRows
import Derived.Tactics
import Derived.Lib.ConvBytes
import Derived.Laws.Slices
import Derived.WalkKit
import Derived.KernelRfl
import Derived.RowKit3
import Derived.Deep.LoopGhost
import Derived.Deep.QuietTactic
import Derived.BigQuiet
import Derived.WideLaws
import Derived.Deep.DeepCutAuto
import Derived.Deep.CutBlock
import Derived.Deep.RegionHeld3
import Derived.Laws.Rows
import Derived.Lib.AppendStr
import Derived.ArgAppend
import Derived.Laws.IdiomCopy
import Derived.OrdersHeld
import Derived.Laws.BitsLemmas
import Derived.RowKit
import Derived.Test.YtdjlpifikeopdaaDoorCb
import Derived.Test.YtdjlpifikeopdaaDoorShelf
import Derived.Test.YtdjlpifikeopdaaDoorWWords
import Derived.Test.YtdjlpifikeopdaaDoorWLast
import Derived.Test.YtdjlpifikeopdaaDoorWTab
import Derived.Test.YtdjlpifikeopdaaDoorWFour
import Derived.Test.YtdjlpifikeopdaaDoorWQPut
import Derived.Test.YtdjlpifikeopdaaDoorWApart
import Derived.Test.YtdjlpifikeopdaaDoorWArr
import Derived.Test.YtdjlpifikeopdaaDoorWZeros
import Derived.Test.YtdjlpifikeopdaaDoorWFoot
import Derived.Test.YtdjlpifikeopdaaDoorWKept
import Derived.Test.YtdjlpifikeopdaaDoorWShare
import Derived.Test.YtdjlpifikeopdaaDoorWN
import Derived.Test.YtdjlpifikeopdaaDoorWFootNe
import Derived.Test.YtdjlpifikeopdaaDoorWAt
import Derived.Test.YtdjlpifikeopdaaDoorWEqStruct
import Derived.Test.YtdjlpifikeopdaaDoorWRepsOne
import Derived.Test.YtdjlpifikeopdaaDoorWInv
import Derived.Test.YtdjlpifikeopdaaDoorWInvWords
import Derived.Test.YtdjlpifikeopdaaDoorWGuard
import Derived.Test.YtdjlpifikeopdaaDoorWNEv
import Derived.Test.YtdjlpifikeopdaaDoorWMore
namespace Go.Proofs.YtdjlpifikeopdaaDoor.V
open Go.RowKit Go.Proofs.YtdjlpifikeopdaaDoorW.PrintWords Go.Proofs.YtdjlpifikeopdaaDoorW.PrintLast Go.Proofs.YtdjlpifikeopdaaDoorW.PrintMore
attribute [local go_sem] max2_int min2_int max_two min_two max_three min_three max_four min_four   -- for this text's walks alone
set_option linter.unusedVariables false
set_option linter.unusedSimpArgs false



def errW : Option Int → Value
  | none => .nilIface
  | some c => .iface 0 (.int .i64 c)
theorem errW_none : errW none = .nilIface := rfl
theorem errW_some (c : Int) : errW (some c) = .iface 0 (.int .i64 c) := rfl

theorem info5 : (Tryd.prog.info? 5).map (fun i => (i.zero, i.size, i.bytes)) = some (some (.int .u8 0), 1, 1) := by kernel_rfl
theorem info9 : (Tryd.prog.info? 9).map (fun i => (i.zero, i.size, i.bytes)) = some (some (.string ⟨#[]⟩), 1, 16) := by kernel_rfl
-- the values' own types

end Go.Proofs.YtdjlpifikeopdaaDoor.V
