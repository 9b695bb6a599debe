/- The examples of the layer zbits' statements, and the reference's Cmp, as printed. -/
import Derived.Test.YthdphjbecibeaaaFlZbitsAddr
namespace Go.Proofs.Ythdphjbecibeaaa.FZbitsAddr
open Go.RowKit Go.Proofs.Ythdphjbecibeaaa.PZbitsAddr Go.Proofs.YthdphjbecibeaaaW.PrintWords Go.Proofs.YthdphjbecibeaaaW.PrintLast Go.Proofs.YthdphjbecibeaaaW.PrintMore Go.Proofs.YthdphjbecibeaaaMz
set_option linter.unusedVariables false
set_option linter.unusedSimpArgs false

theorem U_of {p : List Int} (h : p.all (fun x => decide (0 ≤ x) && decide (x < 18446744073709551616)) = true) : U p := by
  intro x hx
  have := List.all_eq_true.1 h x hx
  simp at this
  exact wf_u64_mk this.1 this.2

theorem awake01_eq {k : Nat} (hk : 200 ≤ k) : pantilelaw01_awake.f k = some true := by
  unfold pantilelaw01_awake.f
  rw [Addr_ok (U_of (by decide)) (by decide) (by decide) (by omega), Addr_ok (U_of (by decide)) (by decide) (by decide) (by omega),
    zCmp_ok (U_of (by decide)) (U_of (by decide)) (by decide) (by omega), zPart_ok (U_of (by decide)) (U_of (by decide)) (by decide) (by omega)]
  decide +kernel

theorem cmp_same {p q : List Int} (hp : U p) (hq : U q) (hl : p.length = q.length) : cmpN (nt p) (nt q) p.length 64 = 0 ↔ p = q := by
  rw [cmpN_zero_same (fun i _ => nt_lt' hp i) (fun i _ => nt_lt' hq i), same_iff hp hq hl]

end Go.Proofs.Ythdphjbecibeaaa.FZbitsAddr
