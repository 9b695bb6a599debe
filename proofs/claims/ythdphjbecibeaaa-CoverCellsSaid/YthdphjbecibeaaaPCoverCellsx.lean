-- packed by wip/tools/pack.py
-- Written by wip/tools/print2.py, a program of this session, over the kit's print of the program. Lean checks it.
import Derived.Test.YthdphjbecibeaaaPCoverCellsx0
import Derived.Test.YthdphjbecibeaaaPCoverCellsx1
import Derived.Test.YthdphjbecibeaaaPCoverCellsx2
import Derived.Test.YthdphjbecibeaaaPCoverCellsx3
import Derived.Test.YthdphjbecibeaaaPCoverCellsx4
import Derived.Test.YthdphjbecibeaaaPCoverCellsx5
import Derived.Test.YthdphjbecibeaaaPCoverCellsx6
import Derived.Test.YthdphjbecibeaaaPCoverCellsx7
import Derived.Test.YthdphjbecibeaaaPCoverCellsx8
import Derived.Test.YthdphjbecibeaaaPCoverCellsx9
import Derived.Test.YthdphjbecibeaaaPCoverCellsx10
import Derived.Test.YthdphjbecibeaaaPCoverCellsx11
import Derived.Test.YthdphjbecibeaaaPCoverCellsx12
namespace Go.Proofs.Ythdphjbecibeaaa.PCoverCells
open Go.RowKit Go.Proofs.YthdphjbecibeaaaW.PrintWords Go.Proofs.YthdphjbecibeaaaW.PrintLast Go.Proofs.YthdphjbecibeaaaW.PrintMore
attribute [local go_sem] max2_int min2_int max_two min_two max_three min_three max_four min_four   -- for this text's walks alone
open List renaming setIfInBounds_toArray → lsA, set_cons_zero → ls0, set_cons_succ → ls1
set_option linter.unusedVariables false
set_option linter.unusedSimpArgs false

end Go.Proofs.Ythdphjbecibeaaa.PCoverCells
