/- The program's and the reference's masks of a point and a box, as printed, in plain numbers. -/
import Derived.Test.YthdphjbecibeaaaMo
import Derived.Test.YthdphjbecibeaaaFbBoxNest
namespace Go.Proofs.Ythdphjbecibeaaa.FBoxNest
open Go.RowKit Go.Proofs.Ythdphjbecibeaaa.PBoxNest Go.Proofs.YthdphjbecibeaaaW.PrintWords Go.Proofs.YthdphjbecibeaaaW.PrintLast Go.Proofs.YthdphjbecibeaaaW.PrintMore Go.Proofs.YthdphjbecibeaaaMz
set_option linter.unusedVariables false
set_option linter.unusedSimpArgs false


end Go.Proofs.Ythdphjbecibeaaa.FBoxNest
