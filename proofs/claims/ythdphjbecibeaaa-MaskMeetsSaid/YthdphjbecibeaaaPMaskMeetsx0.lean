-- Written by wip/tools/print2.py, a program of this session, over the kit's print of the program. Lean checks it.
import Derived.Test.YthdphjbecibeaaaProg
import Derived.Below
import Derived.Deep.Draws
import Derived.Deep.AppendLies
import Derived.Maps.AppendAt
import Derived.OwnWalk
import Derived.Laws.BytesArg
import Derived.Laws.MakeOwn
import Derived.Laws.OwnMore
import Derived.Deep.OwnRows
import Derived.Tactics
import Derived.Lib.ConvBytes
import Derived.Laws.Slices
import Derived.WalkKit
import Derived.KernelRfl
import Derived.RowKit3
import Derived.Deep.LoopGhost
import Derived.Deep.QuietTactic
import Derived.BigQuiet
import Derived.WideLaws
import Derived.Deep.DeepCutAuto
import Derived.Deep.CutBlock
import Derived.Deep.RegionHeld3
import Derived.Laws.Rows
import Derived.Lib.AppendStr
import Derived.ArgAppend
import Derived.Laws.IdiomCopy
import Derived.OrdersHeld
import Derived.Laws.BitsLemmas
import Derived.RowKit
import Derived.WalkSpells
import Derived.Test.YthdphjbecibeaaaVMaskMeetsWords
import Derived.Test.YthdphjbecibeaaaVMaskMeetsLast
import Derived.Test.YthdphjbecibeaaaVMaskMeetsTab
import Derived.Test.YthdphjbecibeaaaVMaskMeetsFour
import Derived.Test.YthdphjbecibeaaaVMaskMeetsQPut
import Derived.Test.YthdphjbecibeaaaVMaskMeetsApart
import Derived.Test.YthdphjbecibeaaaVMaskMeetsArr
import Derived.Test.YthdphjbecibeaaaVMaskMeetsZeros
import Derived.Test.YthdphjbecibeaaaVMaskMeetsFoot
import Derived.Test.YthdphjbecibeaaaVMaskMeetsKept
import Derived.Test.YthdphjbecibeaaaVMaskMeetsShare
import Derived.Test.YthdphjbecibeaaaVMaskMeetsN
import Derived.Test.YthdphjbecibeaaaVMaskMeetsFootNe
import Derived.Test.YthdphjbecibeaaaVMaskMeetsAt
import Derived.Test.YthdphjbecibeaaaVMaskMeetsEqStruct
import Derived.Test.YthdphjbecibeaaaVMaskMeetsRepsOne
import Derived.Test.YthdphjbecibeaaaVMaskMeetsInv
import Derived.Test.YthdphjbecibeaaaVMaskMeetsInvWords
import Derived.Test.YthdphjbecibeaaaVMaskMeetsGuard
import Derived.Test.YthdphjbecibeaaaVMaskMeetsNEv
import Derived.Test.YthdphjbecibeaaaVMaskMeetsMore
namespace Go.Proofs.Ythdphjbecibeaaa.PMaskMeets
open Go.RowKit Go.Proofs.YthdphjbecibeaaaW.PrintWords Go.Proofs.YthdphjbecibeaaaW.PrintLast Go.Proofs.YthdphjbecibeaaaW.PrintMore
attribute [local go_sem] max2_int min2_int max_two min_two max_three min_three max_four min_four   -- for this text's walks alone
set_option linter.unusedVariables false
set_option linter.unusedSimpArgs false



def errW : Option Int → Value
  | none => .nilIface
  | some c => .iface 0 (.int .i64 c)
theorem errW_none : errW none = .nilIface := rfl
theorem errW_some (c : Int) : errW (some c) = .iface 0 (.int .i64 c) := rfl

theorem info30 : (Try.prog.info? 30).map (fun i => (i.zero, i.size, i.bytes)) = some (some (.int .u64 0), 1, 8) := by kernel_rfl
-- the values' own types

end Go.Proofs.Ythdphjbecibeaaa.PMaskMeets
