-- written by wip/xprint.py (the kit's print, some functions by contracts of this work)
import Derived.Test.YtomilpollhfkmaaProg
import Derived.Below
import Derived.Deep.Draws
import Derived.Deep.AppendLies
import Derived.Maps.AppendAt
import Derived.OwnWalk
import Derived.Laws.BytesArg
import Derived.Laws.MakeOwn
import Derived.Laws.OwnMore
import Derived.Deep.OwnRows
import Derived.Tactics
import Derived.Lib.ConvBytes
import Derived.Laws.Slices
import Derived.WalkKit
import Derived.KernelRfl
import Derived.RowKit3
import Derived.Deep.LoopGhost
import Derived.Deep.QuietTactic
import Derived.BigQuiet
import Derived.WideLaws
import Derived.Deep.DeepCutAuto
import Derived.Deep.CutBlock
import Derived.Deep.RegionHeld3
import Derived.Laws.Rows
import Derived.Lib.AppendStr
import Derived.ArgAppend
import Derived.Laws.IdiomCopy
import Derived.OrdersHeld
import Derived.Laws.BitsLemmas
import Derived.RowKit
import Derived.Test.YtomilpollhfkmaaShapeExt
import Derived.Test.YtomilpollhfkmaaWWords
import Derived.Test.YtomilpollhfkmaaWLast
import Derived.Test.YtomilpollhfkmaaWTab
import Derived.Test.YtomilpollhfkmaaWFour
import Derived.Test.YtomilpollhfkmaaWQPut
import Derived.Test.YtomilpollhfkmaaWApart
import Derived.Test.YtomilpollhfkmaaWArr
import Derived.Test.YtomilpollhfkmaaWZeros
import Derived.Test.YtomilpollhfkmaaWFoot
import Derived.Test.YtomilpollhfkmaaWKept
import Derived.Test.YtomilpollhfkmaaWShare
import Derived.Test.YtomilpollhfkmaaWN
import Derived.Test.YtomilpollhfkmaaWFootNe
import Derived.Test.YtomilpollhfkmaaWAt
import Derived.Test.YtomilpollhfkmaaWEqStruct
import Derived.Test.YtomilpollhfkmaaWRepsOne
import Derived.Test.YtomilpollhfkmaaWInv
import Derived.Test.YtomilpollhfkmaaWInvWords
import Derived.Test.YtomilpollhfkmaaWGuard
import Derived.Test.YtomilpollhfkmaaWNEv
import Derived.Test.YtomilpollhfkmaaWMore
namespace Go.Proofs.Ytomilpollhfkmaa.XSh
open Go.RowKit Go.Proofs.YtomilpollhfkmaaW.PrintWords Go.Proofs.YtomilpollhfkmaaW.PrintLast Go.Proofs.YtomilpollhfkmaaW.PrintMore
attribute [local go_sem] max2_int min2_int max_two min_two max_three min_three max_four min_four   -- for this text's walks alone
set_option linter.unusedVariables false
set_option linter.unusedSimpArgs false



noncomputable def errW : Option Int → Value
  | none => .nilIface
  | some c => .iface 0 (.int .i64 c)
theorem errW_none : errW none = .nilIface := rfl
theorem errW_some (c : Int) : errW (some c) = .iface 0 (.int .i64 c) := rfl

theorem info3 : (Try.prog.info? 3).map (fun i => (i.zero, i.size, i.bytes)) = some (some (.int .i64 0), 1, 8) := by kernel_rfl
-- the values' own types

end Go.Proofs.Ytomilpollhfkmaa.XSh
