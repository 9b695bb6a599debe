-- Written by wip/tools/print2.py, a program of this session, over the kit's print of the program. Lean checks it.
import Derived.Test.YthdphjbecibeaaaProg
import Derived.Below
import Derived.Deep.Draws
import Derived.Deep.AppendLies
import Derived.Maps.AppendAt
import Derived.OwnWalk
import Derived.Laws.BytesArg
import Derived.Laws.MakeOwn
import Derived.Laws.OwnMore
import Derived.Deep.OwnRows
import Derived.Tactics
import Derived.Lib.ConvBytes
import Derived.Laws.Slices
import Derived.WalkKit
import Derived.KernelRfl
import Derived.RowKit3
import Derived.Deep.LoopGhost
import Derived.Deep.QuietTactic
import Derived.BigQuiet
import Derived.WideLaws
import Derived.Deep.DeepCutAuto
import Derived.Deep.CutBlock
import Derived.Deep.RegionHeld3
import Derived.Laws.Rows
import Derived.Lib.AppendStr
import Derived.ArgAppend
import Derived.Laws.IdiomCopy
import Derived.OrdersHeld
import Derived.Laws.BitsLemmas
import Derived.RowKit
import Derived.WalkSpells
import Derived.Test.YthdphjbecibeaaaVMaskWalkWords
import Derived.Test.YthdphjbecibeaaaVMaskWalkLast
import Derived.Test.YthdphjbecibeaaaVMaskWalkTab
import Derived.Test.YthdphjbecibeaaaVMaskWalkFour
import Derived.Test.YthdphjbecibeaaaVMaskWalkQPut
import Derived.Test.YthdphjbecibeaaaVMaskWalkApart
import Derived.Test.YthdphjbecibeaaaVMaskWalkArr
import Derived.Test.YthdphjbecibeaaaVMaskWalkZeros
import Derived.Test.YthdphjbecibeaaaVMaskWalkFoot
import Derived.Test.YthdphjbecibeaaaVMaskWalkKept
import Derived.Test.YthdphjbecibeaaaVMaskWalkShare
import Derived.Test.YthdphjbecibeaaaVMaskWalkN
import Derived.Test.YthdphjbecibeaaaVMaskWalkFootNe
import Derived.Test.YthdphjbecibeaaaVMaskWalkAt
import Derived.Test.YthdphjbecibeaaaVMaskWalkEqStruct
import Derived.Test.YthdphjbecibeaaaVMaskWalkRepsOne
import Derived.Test.YthdphjbecibeaaaVMaskWalkInv
import Derived.Test.YthdphjbecibeaaaVMaskWalkInvWords
import Derived.Test.YthdphjbecibeaaaVMaskWalkGuard
import Derived.Test.YthdphjbecibeaaaVMaskWalkNEv
import Derived.Test.YthdphjbecibeaaaVMaskWalkMore
namespace Go.Proofs.Ythdphjbecibeaaa.PMaskWalk
open Go.RowKit Go.Proofs.YthdphjbecibeaaaW.PrintWords Go.Proofs.YthdphjbecibeaaaW.PrintLast Go.Proofs.YthdphjbecibeaaaW.PrintMore
attribute [local go_sem] max2_int min2_int max_two min_two max_three min_three max_four min_four   -- for this text's walks alone
set_option linter.unusedVariables false
set_option linter.unusedSimpArgs false



def errW : Option Int → Value
  | none => .nilIface
  | some c => .iface 0 (.int .i64 c)
theorem errW_none : errW none = .nilIface := rfl
theorem errW_some (c : Int) : errW (some c) = .iface 0 (.int .i64 c) := rfl

theorem info30 : (Try.prog.info? 30).map (fun i => (i.zero, i.size, i.bytes)) = some (some (.int .u64 0), 1, 8) := by kernel_rfl
-- the values' own types

end Go.Proofs.Ythdphjbecibeaaa.PMaskWalk
