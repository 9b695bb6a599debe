-- Written by wip/tools/trim.py: the words of the print that this claim uses.
import Derived.Test.YthdphjbecibeaaaVCoverOnceWords
import Derived.Laws.StructEq
namespace Go.Proofs.YthdphjbecibeaaaW.PrintWords
open Go.RowKit
section
variable {P : Program} {d : Nat} {xs ys : Array Value} {f : Field} {fs : List Field} {a b : Value} {r s : Bool} {w : World}
end
end Go.Proofs.YthdphjbecibeaaaW.PrintWords
