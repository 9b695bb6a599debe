-- Written by wip/tools/print2.py, a program of this session, over the kit's print of the program. Lean checks it.
import Derived.Test.YthdphjbecibeaaaPBoxAroundx0
import Derived.Test.YthdphjbecibeaaaPBoxAroundx1
import Derived.Test.YthdphjbecibeaaaPBoxAroundx2
import Derived.Test.YthdphjbecibeaaaPBoxAroundx3
import Derived.Test.YthdphjbecibeaaaPBoxAroundx4
import Derived.Test.YthdphjbecibeaaaPBoxAroundx5
namespace Go.Proofs.Ythdphjbecibeaaa.PBoxAround
open Go.RowKit Go.Proofs.YthdphjbecibeaaaW.PrintWords Go.Proofs.YthdphjbecibeaaaW.PrintLast Go.Proofs.YthdphjbecibeaaaW.PrintMore
attribute [local go_sem] max2_int min2_int max_two min_two max_three min_three max_four min_four   -- for this text's walks alone
set_option linter.unusedVariables false
set_option linter.unusedSimpArgs false

end Go.Proofs.Ythdphjbecibeaaa.PBoxAround
