/- bits.Len64, as printed, is the number of bits. -/
import Derived.Test.YthdphjbecibeaaaFzMaskLeft
namespace Go.Proofs.Ythdphjbecibeaaa.FMaskLeft
open Go.RowKit Go.Proofs.Ythdphjbecibeaaa.PMaskLeft Go.Proofs.YthdphjbecibeaaaW.PrintWords Go.Proofs.YthdphjbecibeaaaW.PrintLast Go.Proofs.YthdphjbecibeaaaW.PrintMore Go.Proofs.YthdphjbecibeaaaMz
set_option linter.unusedVariables false
set_option linter.unusedSimpArgs false

theorem Part_blen {p q : List Int} (hp : U p) (hq : U q) : partN (nt p) (nt q) p.length 64 = (blen (orxN (nt p) (nt q) p.length) : Int) - 1 :=
  partN_eq _ _ _ _ (orxN_lt (fun j _ => nt_lt' hp j) (fun j _ => nt_lt' hq j))

theorem blen_lt {n m : Nat} (h : n < 2 ^ m) : blen n ≤ m := blen_le h

end Go.Proofs.Ythdphjbecibeaaa.FMaskLeft
