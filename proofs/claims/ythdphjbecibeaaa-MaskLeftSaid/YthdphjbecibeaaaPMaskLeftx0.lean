-- Written by wip/tools/print2.py, a program of this session, over the kit's print of the program. Lean checks it.
import Derived.Test.YthdphjbecibeaaaProg
import Derived.Below
import Derived.Deep.Draws
import Derived.Deep.AppendLies
import Derived.Maps.AppendAt
import Derived.OwnWalk
import Derived.Laws.BytesArg
import Derived.Laws.MakeOwn
import Derived.Laws.OwnMore
import Derived.Deep.OwnRows
import Derived.Tactics
import Derived.Lib.ConvBytes
import Derived.Laws.Slices
import Derived.WalkKit
import Derived.KernelRfl
import Derived.RowKit3
import Derived.Deep.LoopGhost
import Derived.Deep.QuietTactic
import Derived.BigQuiet
import Derived.WideLaws
import Derived.Deep.DeepCutAuto
import Derived.Deep.CutBlock
import Derived.Deep.RegionHeld3
import Derived.Laws.Rows
import Derived.Lib.AppendStr
import Derived.ArgAppend
import Derived.Laws.IdiomCopy
import Derived.OrdersHeld
import Derived.Laws.BitsLemmas
import Derived.RowKit
import Derived.WalkSpells
import Derived.Test.YthdphjbecibeaaaVMaskLeftWords
import Derived.Test.YthdphjbecibeaaaVMaskLeftLast
import Derived.Test.YthdphjbecibeaaaVMaskLeftTab
import Derived.Test.YthdphjbecibeaaaVMaskLeftFour
import Derived.Test.YthdphjbecibeaaaVMaskLeftQPut
import Derived.Test.YthdphjbecibeaaaVMaskLeftApart
import Derived.Test.YthdphjbecibeaaaVMaskLeftArr
import Derived.Test.YthdphjbecibeaaaVMaskLeftZeros
import Derived.Test.YthdphjbecibeaaaVMaskLeftFoot
import Derived.Test.YthdphjbecibeaaaVMaskLeftKept
import Derived.Test.YthdphjbecibeaaaVMaskLeftShare
import Derived.Test.YthdphjbecibeaaaVMaskLeftN
import Derived.Test.YthdphjbecibeaaaVMaskLeftFootNe
import Derived.Test.YthdphjbecibeaaaVMaskLeftAt
import Derived.Test.YthdphjbecibeaaaVMaskLeftEqStruct
import Derived.Test.YthdphjbecibeaaaVMaskLeftRepsOne
import Derived.Test.YthdphjbecibeaaaVMaskLeftInv
import Derived.Test.YthdphjbecibeaaaVMaskLeftInvWords
import Derived.Test.YthdphjbecibeaaaVMaskLeftGuard
import Derived.Test.YthdphjbecibeaaaVMaskLeftNEv
import Derived.Test.YthdphjbecibeaaaVMaskLeftMore
namespace Go.Proofs.Ythdphjbecibeaaa.PMaskLeft
open Go.RowKit Go.Proofs.YthdphjbecibeaaaW.PrintWords Go.Proofs.YthdphjbecibeaaaW.PrintLast Go.Proofs.YthdphjbecibeaaaW.PrintMore
attribute [local go_sem] max2_int min2_int max_two min_two max_three min_three max_four min_four   -- for this text's walks alone
set_option linter.unusedVariables false
set_option linter.unusedSimpArgs false



def errW : Option Int → Value
  | none => .nilIface
  | some c => .iface 0 (.int .i64 c)
theorem errW_none : errW none = .nilIface := rfl
theorem errW_some (c : Int) : errW (some c) = .iface 0 (.int .i64 c) := rfl

theorem info3 : (Try.prog.info? 3).map (fun i => (i.zero, i.size, i.bytes)) = some (some (.int .i64 0), 1, 8) := by kernel_rfl
theorem info30 : (Try.prog.info? 30).map (fun i => (i.zero, i.size, i.bytes)) = some (some (.int .u64 0), 1, 8) := by kernel_rfl
-- the values' own types

end Go.Proofs.Ythdphjbecibeaaa.PMaskLeft
