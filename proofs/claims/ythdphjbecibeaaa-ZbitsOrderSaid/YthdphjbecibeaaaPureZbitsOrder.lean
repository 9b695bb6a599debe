/- pantilelaw01.ZbitsOrder answers true for every three lists of coordinates; no condition beyond the row's own. -/
import Derived.Test.YthdphjbecibeaaaFaZbitsOrder
namespace Go.Proofs.Ythdphjbecibeaaa.Pure
open Go.RowKit Go.Proofs.Ythdphjbecibeaaa.PZbitsOrder Go.Proofs.YthdphjbecibeaaaW.PrintWords Go.Proofs.YthdphjbecibeaaaW.PrintLast Go.Proofs.Ythdphjbecibeaaa.FZbitsOrder Go.Proofs.YthdphjbecibeaaaMz
set_option linter.unusedVariables false
set_option linter.unusedSimpArgs false

theorem order_j2 {p q r : List Int} (hp : U p) (hq : U q) (hr : U r) (ha : 1 ≤ p.length ∧ p.length ≤ 16 ∧ p.length = q.length) {k : Nat} (hk : 200 ≤ k) :
    pantilelaw01_ZbitsOrder.j2 k p q r (cmpN (nt p) (nt q) p.length 64) false = some true := by
  obtain ⟨k, rfl⟩ : ∃ m, k = m + 1 := ⟨k - 1, by omega⟩
  simp only [pantilelaw01_ZbitsOrder.j2]
  rw [if_neg (by simp), ref_Alike_eq]
  simp only [Option.bind_some]
  by_cases hqr : 1 ≤ q.length ∧ q.length ≤ 16 ∧ q.length = r.length
  · rw [if_pos (by simpa using hqr), zCmp_ok hq hr hqr (by omega), zCmp_ok hp hr (by omega) (by omega)]
    simp only [Option.bind_some]
    rw [if_pos trivial, ← ha.2.2]
    have t1 := cmpN_trans_le (nt p) (nt q) (nt r) p.length 64
    have t2 := cmpN_trans_ge (nt p) (nt q) (nt r) p.length 64
    generalize cmpN (nt p) (nt q) p.length 64 = a at *
    generalize cmpN (nt q) (nt r) p.length 64 = b at *
    generalize cmpN (nt p) (nt r) p.length 64 = c at *
    by_cases a0 : a > 0
    · rw [if_pos a0]
      by_cases a1 : a < 0
      · rw [if_pos a1]
      · rw [if_neg a1]
        by_cases b0 : b < 0
        · rw [if_pos b0]
        · rw [if_neg b0]
          have := t2 (by omega) (by omega)
          rw [decide_eq_true (by omega)]
    · rw [if_neg a0]
      by_cases b1 : b > 0
      · rw [if_pos b1]
        by_cases a1 : a < 0
        · rw [if_pos a1]
        · rw [if_neg a1, if_neg (by omega)]
          have := t2 (by omega) (by omega)
          rw [decide_eq_true (by omega)]
      · rw [if_neg b1, if_pos (t1 (by omega) (by omega))]
        by_cases a1 : a < 0
        · rw [if_pos a1]
        · rw [if_neg a1]
          by_cases b0 : b < 0
          · rw [if_pos b0]
          · rw [if_neg b0]
            have := t2 (by omega) (by omega)
            rw [decide_eq_true (by omega)]
  · rw [if_neg (by simpa using hqr)]

theorem order_j1 {p q r : List Int} (hp : U p) (hq : U q) (hr : U r) (ha : 1 ≤ p.length ∧ p.length ≤ 16 ∧ p.length = q.length) {k : Nat} (hk : 300 ≤ k) :
    pantilelaw01_ZbitsOrder.j1 k p q r (cmpN (nt p) (nt q) p.length 64) false = some true := by
  obtain ⟨k, rfl⟩ : ∃ m, k = m + 1 := ⟨k - 1, by omega⟩
  simp only [pantilelaw01_ZbitsOrder.j1]
  rw [if_neg (by simp), zCmp_ok hq hp (by omega) (by omega)]
  simp only [Option.bind_some]
  have hs := cmpN_swap (nt p) (nt q) p.length 64
  have hg := cmpN_range (nt p) (nt q) p.length 64
  rw [if_pos trivial, ← ha.2.2, if_pos (by rw [wrap64_id (by omega) (by omega)]; omega), Same_eq (by omega) (by omega)]
  simp only [Option.bind_some]
  have hc := cmp_same hp hq ha.2.2
  have e : ((cmpN (nt p) (nt q) p.length 64 == 0) != decide (p = q)) = false := by
    by_cases h : p = q
    · rw [hc.2 h, decide_eq_true h]
      rfl
    · have h0 : cmpN (nt p) (nt q) p.length 64 ≠ 0 := fun x => h (hc.1 x)
      rw [decide_eq_false h]
      simp [h0]
  rw [e]
  exact order_j2 hp hq hr ha (by omega)

theorem order_j0 {p q r : List Int} (hp : U p) (hq : U q) (hr : U r) (b : Bool) {k : Nat} (hk : 400 ≤ k) :
    pantilelaw01_ZbitsOrder.j0 k p q r b = some true := by
  obtain ⟨k, rfl⟩ : ∃ m, k = m + 1 := ⟨k - 1, by omega⟩
  simp only [pantilelaw01_ZbitsOrder.j0]
  by_cases hb : b = true
  · rw [if_pos hb]
  · rw [if_neg hb]
    by_cases ha : 1 ≤ p.length ∧ p.length ≤ 16 ∧ p.length = q.length
    · rw [zCmp_ok hp hq ha (by omega), zPart_ok hp hq ha (by omega), ref_Alike_eq]
      simp only [Option.bind_some]
      rw [if_pos (by simpa using ha), if_pos trivial, if_pos trivial, refCmp_eq hp hq ha.2.2 (by omega) (by omega)]
      simp only [Option.bind_some]
      rw [if_pos trivial, refPart_eq hp hq ha.2.2 (by omega) (by omega)]
      simp only [Option.bind_some, bne_self_eq_false]
      exact order_j1 hp hq hr ha (by omega)
    · rw [zCmp_dim ha (by omega), zPart_dim ha (by omega), ref_Alike_eq]
      simp only [Option.bind_some]
      rw [if_neg (by simpa using ha), if_pos trivial, if_pos trivial, if_pos trivial]
      rfl

theorem ZbitsOrder : pantilelaw01_ZbitsOrder.Pure := by
  intro p q r _ _ hp _ _ hq _ _ hr
  refine ⟨500, ?_⟩
  unfold pantilelaw01_ZbitsOrder.f
  rw [awake01_eq (by omega)]
  simp only [Option.bind_some]
  rw [if_pos trivial]
  split
  · exact order_j0 hp hq hr _ (by omega)
  · split <;> exact order_j0 hp hq hr _ (by omega)

end Go.Proofs.Ythdphjbecibeaaa.Pure
