-- Written by wip/tools/print2.py, a program of this session, over the kit's print of the program. Lean checks it.
import Derived.Test.YthdphjbecibeaaaPCoverWithinx0
import Derived.Test.YthdphjbecibeaaaPCoverWithinx1
import Derived.Test.YthdphjbecibeaaaPCoverWithinx2
import Derived.Test.YthdphjbecibeaaaPCoverWithinx3
import Derived.Test.YthdphjbecibeaaaPCoverWithinx4
import Derived.Test.YthdphjbecibeaaaPCoverWithinx5
import Derived.Test.YthdphjbecibeaaaPCoverWithinx6
import Derived.Test.YthdphjbecibeaaaPCoverWithinx7
import Derived.Test.YthdphjbecibeaaaPCoverWithinx8
import Derived.Test.YthdphjbecibeaaaPCoverWithinx9
import Derived.Test.YthdphjbecibeaaaPCoverWithinx10
import Derived.Test.YthdphjbecibeaaaPCoverWithinx11
namespace Go.Proofs.Ythdphjbecibeaaa.PCoverWithin
open Go.RowKit Go.Proofs.YthdphjbecibeaaaW.PrintWords Go.Proofs.YthdphjbecibeaaaW.PrintLast Go.Proofs.YthdphjbecibeaaaW.PrintMore
attribute [local go_sem] max2_int min2_int max_two min_two max_three min_three max_four min_four   -- for this text's walks alone
set_option linter.unusedVariables false
set_option linter.unusedSimpArgs false

end Go.Proofs.Ythdphjbecibeaaa.PCoverWithin
