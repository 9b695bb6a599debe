/- The program's and the reference's boxes, as printed, in plain numbers. -/
import Derived.Test.YthdphjbecibeaaaMb
import Derived.Test.YthdphjbecibeaaaFpMaskLeft
namespace Go.Proofs.Ythdphjbecibeaaa.FMaskLeft
open Go.RowKit Go.Proofs.Ythdphjbecibeaaa.PMaskLeft Go.Proofs.YthdphjbecibeaaaW.PrintWords Go.Proofs.YthdphjbecibeaaaW.PrintLast Go.Proofs.YthdphjbecibeaaaW.PrintMore Go.Proofs.YthdphjbecibeaaaMz
set_option linter.unusedVariables false
set_option linter.unusedSimpArgs false

theorem mx_nat (a b : Nat) : mx (a : Int) (b : Int) = ((max a b : Nat) : Int) := by unfold mx; split <;> omega
theorem mn_nat (a b : Nat) : mn (a : Int) (b : Int) = ((min a b : Nat) : Int) := by unfold mn; split <;> omega

def cellHi (p : List Int) (m : Nat) : List Int := mkL p.length (fun i => chi (nt p i) m)


end Go.Proofs.Ythdphjbecibeaaa.FMaskLeft
