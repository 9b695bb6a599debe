-- Written by wip/tools/trim.py: the words of the print that this claim uses.
import Derived.Test.YthdphjbecibeaaaVCoverOnceInv
import Derived.Test.YthdphjbecibeaaaVCoverOnceFootNe
namespace Go.Proofs.YthdphjbecibeaaaW.PrintWords
open Go.RowKit
end Go.Proofs.YthdphjbecibeaaaW.PrintWords
namespace Go.Proofs.YthdphjbecibeaaaW.PrintLast
section
variable {ops : Array Oper} {a : Act} {o og : Oper} {g : Nat} {t : Tmp} {u : Bool}
end
end Go.Proofs.YthdphjbecibeaaaW.PrintLast
