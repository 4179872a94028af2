/- Functions that the laws use, each as a plain Lean function, with the proof that the Go code comes to just that; no conditions beyond those typed. -/
import Derived.Test.YtejhbmdjdbbnpaaProg
import Derived.Below
import Derived.Deep.Draws
import Derived.Deep.AppendLies
import Derived.Maps.AppendAt
import Derived.OwnWalk
import Derived.Laws.BytesArg
import Derived.Laws.MakeOwn
import Derived.Laws.OwnMore
import Derived.Deep.OwnRows
import Derived.Tactics
import Derived.Lib.ConvBytes
import Derived.Laws.Slices
import Derived.WalkKit
import Derived.KernelRfl
import Derived.RowKit3
import Derived.Deep.LoopGhost
import Derived.Deep.QuietTactic
import Derived.BigQuiet
import Derived.WideLaws
import Derived.Deep.DeepCutAuto
import Derived.Deep.CutBlock
import Derived.Deep.RegionHeld3
import Derived.Laws.Rows
import Derived.Lib.AppendStr
import Derived.ArgAppend
import Derived.Laws.IdiomCopy
import Derived.OrdersHeld
import Derived.Laws.BitsLemmas
import Derived.RowKit
import Derived.Lib.SliceRun
import Derived.Test.YtejhbmdjdbbnpaaWWords
import Derived.Test.YtejhbmdjdbbnpaaWLast
import Derived.Test.YtejhbmdjdbbnpaaWTab
import Derived.Test.YtejhbmdjdbbnpaaWFour
import Derived.Test.YtejhbmdjdbbnpaaWQPut
import Derived.Test.YtejhbmdjdbbnpaaWApart
import Derived.Test.YtejhbmdjdbbnpaaWArr
import Derived.Test.YtejhbmdjdbbnpaaWZeros
import Derived.Test.YtejhbmdjdbbnpaaWFoot
import Derived.Test.YtejhbmdjdbbnpaaWKept
import Derived.Test.YtejhbmdjdbbnpaaWShare
import Derived.Test.YtejhbmdjdbbnpaaWN
import Derived.Test.YtejhbmdjdbbnpaaWFootNe
import Derived.Test.YtejhbmdjdbbnpaaWAt
import Derived.Test.YtejhbmdjdbbnpaaWEqStruct
import Derived.Test.YtejhbmdjdbbnpaaWRepsOne
import Derived.Test.YtejhbmdjdbbnpaaWInv
import Derived.Test.YtejhbmdjdbbnpaaWInvWords
import Derived.Test.YtejhbmdjdbbnpaaWGuard
import Derived.Test.YtejhbmdjdbbnpaaWNEv
import Derived.Test.YtejhbmdjdbbnpaaWMore
namespace Go.Proofs.Ytejhbmdjdbbnpaa.MLeb
open Go.RowKit Go.Proofs.YtejhbmdjdbbnpaaW.PrintWords Go.Proofs.YtejhbmdjdbbnpaaW.PrintLast Go.Proofs.YtejhbmdjdbbnpaaW.PrintMore
attribute [local go_sem] max2_int min2_int max_two min_two max_three min_three max_four min_four   -- for this text's walks alone
set_option linter.unusedVariables false
set_option linter.unusedSimpArgs false



def errW : Option Int → Value
  | none => .nilIface
  | some c => .iface 0 (.int .i64 c)
theorem errW_none : errW none = .nilIface := rfl
theorem errW_some (c : Int) : errW (some c) = .iface 0 (.int .i64 c) := rfl

theorem info5 : (Try.prog.info? 5).map (fun i => (i.zero, i.size, i.bytes)) = some (some (.int .u8 0), 1, 1) := by kernel_rfl
theorem info22 : (Try.prog.info? 22).map (fun i => (i.zero, i.size, i.bytes)) = some (some (.int .u64 0), 1, 8) := by kernel_rfl
-- the values' own types

end Go.Proofs.Ytejhbmdjdbbnpaa.MLeb
