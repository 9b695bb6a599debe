-- Written by wip/tools/trim.py: the words of the print that this claim uses.
import Derived.Test.YthdphjbecibeaaaVCoverOnceTab
namespace Go.Proofs.YthdphjbecibeaaaW.PrintLast
section
variable {P : Program} {ops : Array Oper} {Q : Exit → Act → World → Prop} {md : Region.Mode} {S : World → Prop} {ds : List Nat} {T : Bool × List (List Nat × List Nat)}
end
end Go.Proofs.YthdphjbecibeaaaW.PrintLast
