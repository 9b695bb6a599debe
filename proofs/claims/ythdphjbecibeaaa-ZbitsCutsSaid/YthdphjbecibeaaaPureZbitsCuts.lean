/- pantilelaw01.ZbitsCuts answers true for every two lists of coordinates and every level; no condition beyond the row's own. -/
import Derived.Test.YthdphjbecibeaaaFaZbitsCuts
import Derived.Test.YthdphjbecibeaaaFcZbitsCuts
namespace Go.Proofs.Ythdphjbecibeaaa.Pure
open Go.RowKit Go.Proofs.Ythdphjbecibeaaa.PZbitsCuts Go.Proofs.YthdphjbecibeaaaW.PrintWords Go.Proofs.YthdphjbecibeaaaW.PrintLast Go.Proofs.Ythdphjbecibeaaa.FZbitsCuts Go.Proofs.YthdphjbecibeaaaMz
set_option linter.unusedVariables false
set_option linter.unusedSimpArgs false

theorem cuts_j0 {p q : List Int} (hp : U p) (hq : U q) (ha : 1 ≤ p.length ∧ p.length ≤ 16 ∧ p.length = q.length) {a : Int} (hl : -1 ≤ a ∧ a ≤ 63) {k : Nat} (hk : 200 ≤ k) :
    pantilelaw01_ZbitsCuts.j0 k p q a false = some true := by
  obtain ⟨k, rfl⟩ : ∃ m, k = m + 1 := ⟨k - 1, by omega⟩
  simp only [pantilelaw01_ZbitsCuts.j0]
  rw [if_neg (by simp), zPart_ok hp hq ha (by omega), Cut_ok hp (by omega) hl (by omega), Cut_ok hq (by omega) hl (by omega), zCmp_ok hp hq ha (by omega)]
  simp only [Option.bind_some]
  obtain ⟨m, hm⟩ : ∃ m : Nat, (a + 1).toNat = m := ⟨_, rfl⟩
  have ham : a = (m : Int) - 1 := by omega
  rw [hm]
  have hcl := cutL_length p m
  have hcq := cutL_length q m
  rw [zCmp_ok (cutL_U hp m) (cutL_U hq m) (by omega) (by omega), Same_eq (by omega) (by omega)]
  simp only [Option.bind_some, if_true]
  have hiff := part_le_iff hp hq ha.2.2 m
  rw [ham]
  have e : (decide (partN (nt p) (nt q) p.length 64 ≤ (m : Int) - 1) == decide (cutL p m = cutL q m)) = true := by
    rw [beq_iff_eq]
    exact decide_eq_decide.2 hiff
  rw [if_pos e]
  by_cases h : partN (nt p) (nt q) p.length 64 ≤ (m : Int) - 1
  · rw [if_pos h]
  · rw [if_neg h, hcl]
    congr 1
    rw [beq_iff_eq]
    exact (cmpN_cut (fun i _ => nt_cutL p m i) (fun i _ => nt_cutL q m i) 64 (by omega)).symm

theorem cuts_skip {p q : List Int} {a : Int} {k : Nat} (hk : 1 ≤ k) : pantilelaw01_ZbitsCuts.j0 k p q a true = some true := by
  obtain ⟨k, rfl⟩ : ∃ m, k = m + 1 := ⟨k - 1, by omega⟩
  simp only [pantilelaw01_ZbitsCuts.j0]
  rw [if_pos trivial]

theorem ZbitsCuts : pantilelaw01_ZbitsCuts.Pure := by
  intro p q a _ _ hp _ _ hq ha
  refine ⟨500, ?_⟩
  unfold pantilelaw01_ZbitsCuts.f
  rw [awake01_eq (by omega), ref_Alike_eq]
  simp only [Option.bind_some]
  rw [if_pos trivial]
  by_cases hal : 1 ≤ p.length ∧ p.length ≤ 16 ∧ p.length = q.length
  · rw [if_pos (by simpa using hal)]
    by_cases h1 : a < -1
    · rw [if_pos h1]
      exact cuts_skip (by omega)
    · rw [if_neg h1]
      by_cases h2 : a > 63
      · rw [decide_eq_true h2]
        exact cuts_skip (by omega)
      · rw [decide_eq_false h2]
        exact cuts_j0 hp hq hal (by omega) (by omega)
  · rw [if_neg (by simpa using hal)]
    exact cuts_skip (by omega)

end Go.Proofs.Ythdphjbecibeaaa.Pure
