-- Written by gprint (wip/gprint), this session's program over the kit's print. Not trusted: Lean checks it.
import Derived.Test.YtamhiecepipnjaaDoorProg
import Derived.Below
import Derived.Deep.Draws
import Derived.Deep.AppendLies
import Derived.Maps.AppendAt
import Derived.OwnWalk
import Derived.Laws.BytesArg
import Derived.Laws.MakeOwn
import Derived.Laws.OwnMore
import Derived.Deep.OwnRows
import Derived.Tactics
import Derived.Lib.ConvBytes
import Derived.Laws.Slices
import Derived.WalkKit
import Derived.KernelRfl
import Derived.RowKit3
import Derived.Deep.LoopGhost
import Derived.Deep.QuietTactic
import Derived.BigQuiet
import Derived.WideLaws
import Derived.Deep.DeepCutAuto
import Derived.Deep.CutBlock
import Derived.Deep.RegionHeld3
import Derived.Laws.Rows
import Derived.Lib.AppendStr
import Derived.ArgAppend
import Derived.Laws.IdiomCopy
import Derived.OrdersHeld
import Derived.Laws.BitsLemmas
import Derived.RowKit
import Derived.Lib.SliceRun
import Derived.LoopN
import Derived.Laws.Externs
import Derived.Laws.FloatArith
import Derived.Test.YtamhiecepipnjaaDoorSq
import Derived.Test.YtamhiecepipnjaaDoorWWords
import Derived.Test.YtamhiecepipnjaaDoorWLast
import Derived.Test.YtamhiecepipnjaaDoorWTab
import Derived.Test.YtamhiecepipnjaaDoorWFour
import Derived.Test.YtamhiecepipnjaaDoorWQPut
import Derived.Test.YtamhiecepipnjaaDoorWApart
import Derived.Test.YtamhiecepipnjaaDoorWArr
import Derived.Test.YtamhiecepipnjaaDoorWZeros
import Derived.Test.YtamhiecepipnjaaDoorWFoot
import Derived.Test.YtamhiecepipnjaaDoorWKept
import Derived.Test.YtamhiecepipnjaaDoorWShare
import Derived.Test.YtamhiecepipnjaaDoorWN
import Derived.Test.YtamhiecepipnjaaDoorWFootNe
import Derived.Test.YtamhiecepipnjaaDoorWAt
import Derived.Test.YtamhiecepipnjaaDoorWEqStruct
import Derived.Test.YtamhiecepipnjaaDoorWRepsOne
import Derived.Test.YtamhiecepipnjaaDoorWInv
import Derived.Test.YtamhiecepipnjaaDoorWInvWords
import Derived.Test.YtamhiecepipnjaaDoorWGuard
import Derived.Test.YtamhiecepipnjaaDoorWNEv
import Derived.Test.YtamhiecepipnjaaDoorWMore
namespace Go.Proofs.YtamhiecepipnjaaDoor.GApproxNear
open Go.RowKit Go.Proofs.YtamhiecepipnjaaDoorW.PrintWords Go.Proofs.YtamhiecepipnjaaDoorW.PrintLast Go.Proofs.YtamhiecepipnjaaDoorW.PrintMore
attribute [local go_sem] max2_int min2_int max_two min_two max_three min_three max_four min_four   -- for this text's walks alone
set_option linter.unusedVariables false
set_option linter.unusedSimpArgs false



def errW : Option Int → Value
 | none => .nilIface
 | some c => .iface 0 (.int .i64 c)
theorem errW_none : errW none = .nilIface := rfl
theorem errW_some (c : Int) : errW (some c) = .iface 0 (.int .i64 c) := rfl

theorem info31 : (Tryd.prog.info? 31).map (fun i => (i.zero, i.size, i.bytes)) = some (some (.float .f64 0), 1, 8) := by kernel_rfl
theorem info47 : (Tryd.prog.info? 47).map (fun i => (i.zero, i.size, i.bytes)) = some (some (.int .u32 0), 1, 4) := by kernel_rfl
-- the values' own types

end Go.Proofs.YtamhiecepipnjaaDoor.GApproxNear
