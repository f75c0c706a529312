-- Written by a program of this session (mkprint.py): a printed walk over given contracts.
import Derived.Test.YtjfkofomhpokcaaProg
import Derived.Below
import Derived.Deep.Draws
import Derived.Deep.AppendLies
import Derived.Maps.AppendAt
import Derived.OwnWalk
import Derived.Laws.BytesArg
import Derived.Laws.MakeOwn
import Derived.Laws.OwnMore
import Derived.Deep.OwnRows
import Derived.Tactics
import Derived.Lib.ConvBytes
import Derived.Laws.Slices
import Derived.WalkKit
import Derived.KernelRfl
import Derived.RowKit3
import Derived.Deep.LoopGhost
import Derived.Deep.QuietTactic
import Derived.BigQuiet
import Derived.WideLaws
import Derived.Deep.DeepCutAuto
import Derived.Deep.CutBlock
import Derived.Deep.RegionHeld3
import Derived.Laws.Rows
import Derived.Lib.AppendStr
import Derived.ArgAppend
import Derived.Laws.IdiomCopy
import Derived.OrdersHeld
import Derived.Laws.BitsLemmas
import Derived.RowKit
import Derived.Test.YtjfkofomhpokcaaCopy
import Derived.Test.YtjfkofomhpokcaaWWords
import Derived.Test.YtjfkofomhpokcaaWLast
import Derived.Test.YtjfkofomhpokcaaWTab
import Derived.Test.YtjfkofomhpokcaaWFour
import Derived.Test.YtjfkofomhpokcaaWQPut
import Derived.Test.YtjfkofomhpokcaaWApart
import Derived.Test.YtjfkofomhpokcaaWArr
import Derived.Test.YtjfkofomhpokcaaWZeros
import Derived.Test.YtjfkofomhpokcaaWFoot
import Derived.Test.YtjfkofomhpokcaaWKept
import Derived.Test.YtjfkofomhpokcaaWShare
import Derived.Test.YtjfkofomhpokcaaWN
import Derived.Test.YtjfkofomhpokcaaWFootNe
import Derived.Test.YtjfkofomhpokcaaWAt
import Derived.Test.YtjfkofomhpokcaaWEqStruct
import Derived.Test.YtjfkofomhpokcaaWRepsOne
import Derived.Test.YtjfkofomhpokcaaWInv
import Derived.Test.YtjfkofomhpokcaaWInvWords
import Derived.Test.YtjfkofomhpokcaaWGuard
import Derived.Test.YtjfkofomhpokcaaWNEv
import Derived.Test.YtjfkofomhpokcaaWMore
namespace Go.Proofs.Ytjfkofomhpokcaa.PBlockTells
open Go.RowKit Go.Proofs.YtjfkofomhpokcaaW.PrintWords Go.Proofs.YtjfkofomhpokcaaW.PrintLast Go.Proofs.YtjfkofomhpokcaaW.PrintMore
attribute [local go_sem] max2_int min2_int max_two min_two max_three min_three max_four min_four   -- for this text's walks alone
set_option linter.unusedVariables false
set_option linter.unusedSimpArgs false



def errW : Option Int → Value
  | none => .nilIface
  | some c => .iface 0 (.int .i64 c)
theorem errW_none : errW none = .nilIface := rfl
theorem errW_some (c : Int) : errW (some c) = .iface 0 (.int .i64 c) := rfl

theorem info3 : (Try.prog.info? 3).map (fun i => (i.zero, i.size, i.bytes)) = some (some (.int .i64 0), 1, 8) := by kernel_rfl
theorem info5 : (Try.prog.info? 5).map (fun i => (i.zero, i.size, i.bytes)) = some (some (.int .u8 0), 1, 1) := by kernel_rfl
-- the values' own types

end Go.Proofs.Ytjfkofomhpokcaa.PBlockTells
