-- Written by a program of this session (mkprint.py): a printed walk over given contracts.
import Derived.Test.YtpcccndeojbinaaProg
import Derived.Below
import Derived.Deep.Draws
import Derived.Deep.AppendLies
import Derived.Maps.AppendAt
import Derived.OwnWalk
import Derived.Laws.BytesArg
import Derived.Laws.MakeOwn
import Derived.Laws.OwnMore
import Derived.Deep.OwnRows
import Derived.Tactics
import Derived.Lib.ConvBytes
import Derived.Laws.Slices
import Derived.WalkKit
import Derived.KernelRfl
import Derived.RowKit3
import Derived.Deep.LoopGhost
import Derived.Deep.QuietTactic
import Derived.BigQuiet
import Derived.WideLaws
import Derived.Deep.DeepCutAuto
import Derived.Deep.CutBlock
import Derived.Deep.RegionHeld3
import Derived.Laws.Rows
import Derived.Lib.AppendStr
import Derived.ArgAppend
import Derived.Laws.IdiomCopy
import Derived.OrdersHeld
import Derived.Laws.BitsLemmas
import Derived.RowKit
import Derived.Test.YtpcccndeojbinaaShelf
import Derived.Test.YtpcccndeojbinaaWWords
import Derived.Test.YtpcccndeojbinaaWLast
import Derived.Test.YtpcccndeojbinaaWTab
import Derived.Test.YtpcccndeojbinaaWFour
import Derived.Test.YtpcccndeojbinaaWQPut
import Derived.Test.YtpcccndeojbinaaWApart
import Derived.Test.YtpcccndeojbinaaWArr
import Derived.Test.YtpcccndeojbinaaWZeros
import Derived.Test.YtpcccndeojbinaaWFoot
import Derived.Test.YtpcccndeojbinaaWKept
import Derived.Test.YtpcccndeojbinaaWShare
import Derived.Test.YtpcccndeojbinaaWN
import Derived.Test.YtpcccndeojbinaaWFootNe
import Derived.Test.YtpcccndeojbinaaWAt
import Derived.Test.YtpcccndeojbinaaWEqStruct
import Derived.Test.YtpcccndeojbinaaWRepsOne
import Derived.Test.YtpcccndeojbinaaWInv
import Derived.Test.YtpcccndeojbinaaWInvWords
import Derived.Test.YtpcccndeojbinaaWGuard
import Derived.Test.YtpcccndeojbinaaWNEv
import Derived.Test.YtpcccndeojbinaaWMore
namespace Go.Proofs.Ytpcccndeojbinaa.PTermKeys
open Go.RowKit Go.Proofs.YtpcccndeojbinaaW.PrintWords Go.Proofs.YtpcccndeojbinaaW.PrintLast Go.Proofs.YtpcccndeojbinaaW.PrintMore
attribute [local go_sem] max2_int min2_int max_two min_two max_three min_three max_four min_four   -- for this text's walks alone
set_option linter.unusedVariables false
set_option linter.unusedSimpArgs false



def errW : Option Int → Value
  | none => .nilIface
  | some c => .iface 0 (.int .i64 c)
theorem errW_none : errW none = .nilIface := rfl
theorem errW_some (c : Int) : errW (some c) = .iface 0 (.int .i64 c) := rfl

-- the values' own types

end Go.Proofs.Ytpcccndeojbinaa.PTermKeys
