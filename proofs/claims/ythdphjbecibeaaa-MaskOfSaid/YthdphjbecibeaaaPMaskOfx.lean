-- Written by wip/tools/print2.py, a program of this session, over the kit's print of the program. Lean checks it.
import Derived.Test.YthdphjbecibeaaaPMaskOfx0
import Derived.Test.YthdphjbecibeaaaPMaskOfx1
import Derived.Test.YthdphjbecibeaaaPMaskOfx2
import Derived.Test.YthdphjbecibeaaaPMaskOfx3
import Derived.Test.YthdphjbecibeaaaPMaskOfx4
import Derived.Test.YthdphjbecibeaaaPMaskOfx5
import Derived.Test.YthdphjbecibeaaaPMaskOfx6
import Derived.Test.YthdphjbecibeaaaPMaskOfx7
import Derived.Test.YthdphjbecibeaaaPMaskOfx8
import Derived.Test.YthdphjbecibeaaaPMaskOfx9
namespace Go.Proofs.Ythdphjbecibeaaa.PMaskOf
open Go.RowKit Go.Proofs.YthdphjbecibeaaaW.PrintWords Go.Proofs.YthdphjbecibeaaaW.PrintLast Go.Proofs.YthdphjbecibeaaaW.PrintMore
attribute [local go_sem] max2_int min2_int max_two min_two max_three min_three max_four min_four   -- for this text's walks alone
set_option linter.unusedVariables false
set_option linter.unusedSimpArgs false

end Go.Proofs.Ythdphjbecibeaaa.PMaskOf
