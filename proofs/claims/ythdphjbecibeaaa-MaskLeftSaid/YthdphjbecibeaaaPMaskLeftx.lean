-- Written by wip/tools/print2.py, a program of this session, over the kit's print of the program. Lean checks it.
import Derived.Test.YthdphjbecibeaaaPMaskLeftx0
import Derived.Test.YthdphjbecibeaaaPMaskLeftx1
import Derived.Test.YthdphjbecibeaaaPMaskLeftx2
import Derived.Test.YthdphjbecibeaaaPMaskLeftx3
import Derived.Test.YthdphjbecibeaaaPMaskLeftx4
import Derived.Test.YthdphjbecibeaaaPMaskLeftx5
import Derived.Test.YthdphjbecibeaaaPMaskLeftx6
import Derived.Test.YthdphjbecibeaaaPMaskLeftx7
namespace Go.Proofs.Ythdphjbecibeaaa.PMaskLeft
open Go.RowKit Go.Proofs.YthdphjbecibeaaaW.PrintWords Go.Proofs.YthdphjbecibeaaaW.PrintLast Go.Proofs.YthdphjbecibeaaaW.PrintMore
attribute [local go_sem] max2_int min2_int max_two min_two max_three min_three max_four min_four   -- for this text's walks alone
set_option linter.unusedVariables false
set_option linter.unusedSimpArgs false

end Go.Proofs.Ythdphjbecibeaaa.PMaskLeft
