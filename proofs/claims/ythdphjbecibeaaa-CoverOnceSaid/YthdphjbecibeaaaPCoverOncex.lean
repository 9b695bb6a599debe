-- Written by wip/tools/print2.py, a program of this session, over the kit's print of the program. Lean checks it.
import Derived.Test.YthdphjbecibeaaaPCoverOncex0
import Derived.Test.YthdphjbecibeaaaPCoverOncex1
import Derived.Test.YthdphjbecibeaaaPCoverOncex2
import Derived.Test.YthdphjbecibeaaaPCoverOncex3
import Derived.Test.YthdphjbecibeaaaPCoverOncex4
import Derived.Test.YthdphjbecibeaaaPCoverOncex5
import Derived.Test.YthdphjbecibeaaaPCoverOncex6
import Derived.Test.YthdphjbecibeaaaPCoverOncex7
import Derived.Test.YthdphjbecibeaaaPCoverOncex8
import Derived.Test.YthdphjbecibeaaaPCoverOncex9
namespace Go.Proofs.Ythdphjbecibeaaa.PCoverOnce
open Go.RowKit Go.Proofs.YthdphjbecibeaaaW.PrintWords Go.Proofs.YthdphjbecibeaaaW.PrintLast Go.Proofs.YthdphjbecibeaaaW.PrintMore
attribute [local go_sem] max2_int min2_int max_two min_two max_three min_three max_four min_four   -- for this text's walks alone
set_option linter.unusedVariables false
set_option linter.unusedSimpArgs false

end Go.Proofs.Ythdphjbecibeaaa.PCoverOnce
