-- Written by wip/tools/trim.py: the words of the print that this claim uses.
import Derived.Test.YthdphjbecibeaaaVCoverOnceN
namespace Go.Proofs.YthdphjbecibeaaaW.PrintWords
open Go.RowKit
namespace Kd
section
variable {α : Type} {d : Kd α} {W : World} {g n : Nat} {S ok : Nat → Prop} {A : Option Addr} {ad : Addr} {xs : List α}
end
end Kd
end Go.Proofs.YthdphjbecibeaaaW.PrintWords
