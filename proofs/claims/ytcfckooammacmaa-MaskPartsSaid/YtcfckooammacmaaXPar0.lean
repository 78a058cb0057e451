-- written by wip/xprint.py (the kit's print, some functions by contracts of this work)
import Derived.Test.YtcfckooammacmaaProg
import Derived.Below
import Derived.Deep.Draws
import Derived.Deep.AppendLies
import Derived.Maps.AppendAt
import Derived.OwnWalk
import Derived.Laws.BytesArg
import Derived.Laws.MakeOwn
import Derived.Laws.OwnMore
import Derived.Deep.OwnRows
import Derived.Tactics
import Derived.Lib.ConvBytes
import Derived.Laws.Slices
import Derived.WalkKit
import Derived.KernelRfl
import Derived.RowKit3
import Derived.Deep.LoopGhost
import Derived.Deep.QuietTactic
import Derived.BigQuiet
import Derived.WideLaws
import Derived.Deep.DeepCutAuto
import Derived.Deep.CutBlock
import Derived.Deep.RegionHeld3
import Derived.Laws.Rows
import Derived.Lib.AppendStr
import Derived.ArgAppend
import Derived.Laws.IdiomCopy
import Derived.OrdersHeld
import Derived.Laws.BitsLemmas
import Derived.RowKit
import Derived.Test.YtcfckooammacmaaLowest2
import Derived.Test.YtcfckooammacmaaMaskExt
import Derived.Test.YtcfckooammacmaaWWords
import Derived.Test.YtcfckooammacmaaWLast
import Derived.Test.YtcfckooammacmaaWTab
import Derived.Test.YtcfckooammacmaaWFour
import Derived.Test.YtcfckooammacmaaWQPut
import Derived.Test.YtcfckooammacmaaWApart
import Derived.Test.YtcfckooammacmaaWArr
import Derived.Test.YtcfckooammacmaaWZeros
import Derived.Test.YtcfckooammacmaaWFoot
import Derived.Test.YtcfckooammacmaaWKept
import Derived.Test.YtcfckooammacmaaWShare
import Derived.Test.YtcfckooammacmaaWN
import Derived.Test.YtcfckooammacmaaWFootNe
import Derived.Test.YtcfckooammacmaaWAt
import Derived.Test.YtcfckooammacmaaWEqStruct
import Derived.Test.YtcfckooammacmaaWRepsOne
import Derived.Test.YtcfckooammacmaaWInv
import Derived.Test.YtcfckooammacmaaWInvWords
import Derived.Test.YtcfckooammacmaaWGuard
import Derived.Test.YtcfckooammacmaaWNEv
import Derived.Test.YtcfckooammacmaaWMore
namespace Go.Proofs.Ytcfckooammacmaa.XPar
open Go.RowKit Go.Proofs.YtcfckooammacmaaW.PrintWords Go.Proofs.YtcfckooammacmaaW.PrintLast Go.Proofs.YtcfckooammacmaaW.PrintMore
attribute [local go_sem] max2_int min2_int max_two min_two max_three min_three max_four min_four   -- for this text's walks alone
set_option linter.unusedVariables false
set_option linter.unusedSimpArgs false



noncomputable def errW : Option Int → Value
  | none => .nilIface
  | some c => .iface 0 (.int .i64 c)
theorem errW_none : errW none = .nilIface := rfl
theorem errW_some (c : Int) : errW (some c) = .iface 0 (.int .i64 c) := rfl

-- the values' own types

end Go.Proofs.Ytcfckooammacmaa.XPar
