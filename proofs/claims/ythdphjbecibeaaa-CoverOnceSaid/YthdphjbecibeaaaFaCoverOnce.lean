/- The examples of the layer zbits' statements, and the reference's Cmp, as printed. -/
import Derived.Test.YthdphjbecibeaaaFlCoverOnce
namespace Go.Proofs.Ythdphjbecibeaaa.FCoverOnce
open Go.RowKit Go.Proofs.Ythdphjbecibeaaa.PCoverOnce Go.Proofs.YthdphjbecibeaaaW.PrintWords Go.Proofs.YthdphjbecibeaaaW.PrintLast Go.Proofs.YthdphjbecibeaaaW.PrintMore Go.Proofs.YthdphjbecibeaaaMz
set_option linter.unusedVariables false
set_option linter.unusedSimpArgs false

theorem U_of {p : List Int} (h : p.all (fun x => decide (0 ≤ x) && decide (x < 18446744073709551616)) = true) : U p := by
  intro x hx
  have := List.all_eq_true.1 h x hx
  simp at this
  exact wf_u64_mk this.1 this.2

theorem refCmp_eq {p q : List Int} (hp : U p) (hq : U q) (hl : p.length = q.length) (h40 : p.length ≤ 40) {k : Nat} (hk : 130 ≤ k) :
    pantileref01_Cmp.f k p q = some (cmpN (nt p) (nt q) p.length 64) := by
  unfold pantileref01_Cmp.f
  rw [refPart_eq hp hq hl h40 hk]
  simp only [Option.bind_some]
  rw [cmpN_part]
  have hpr := partN_range (nt p) (nt q) p.length 64
  by_cases h : partN (nt p) (nt q) p.length 64 < 0
  · rw [if_pos h, if_pos h]
  · rw [if_neg h, if_neg h, refAddr_eq hp h40 (by omega) (by omega), refAddr_eq hq (by omega) (by omega) (by omega)]
    simp only [Option.bind_some]
    rw [← hl]
    by_cases h1 : addrN (nt p) (partN (nt p) (nt q) p.length 64).toNat p.length < addrN (nt q) (partN (nt p) (nt q) p.length 64).toNat p.length
    · rw [if_pos (by omega), if_pos h1]
    · rw [if_neg (by omega), if_neg h1]

theorem cmp_same {p q : List Int} (hp : U p) (hq : U q) (hl : p.length = q.length) : cmpN (nt p) (nt q) p.length 64 = 0 ↔ p = q := by
  rw [cmpN_zero_same (fun i _ => nt_lt' hp i) (fun i _ => nt_lt' hq i), same_iff hp hq hl]

end Go.Proofs.Ythdphjbecibeaaa.FCoverOnce
