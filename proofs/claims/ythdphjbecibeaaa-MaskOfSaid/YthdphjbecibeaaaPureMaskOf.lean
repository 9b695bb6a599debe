/- pantilelaw04.MaskOf answers true for every list of coordinates, level and box; no condition beyond the row's own. -/
import Derived.Test.YthdphjbecibeaaaFmMaskOf
namespace Go.Proofs.Ythdphjbecibeaaa.Pure
open Go.RowKit Go.Proofs.Ythdphjbecibeaaa.PMaskOf Go.Proofs.YthdphjbecibeaaaW.PrintWords Go.Proofs.YthdphjbecibeaaaW.PrintLast Go.Proofs.Ythdphjbecibeaaa.FMaskOf Go.Proofs.YthdphjbecibeaaaMz
set_option linter.unusedVariables false
set_option linter.unusedSimpArgs false

theorem maskof_j1 {p l h : List Int} (hp : U p) (hl : U l) (hh : U h) (hr : 1 ≤ p.length ∧ p.length ≤ 16 ∧ l.length = p.length ∧ h.length = p.length) {a : Int} (K lo hi oe : Int) (wh : Bool) (we : Int) {k : Nat} (hk : 4000 ≤ k)
    (ho : mask_Of.f (k + 1) p a l h = some (K, lo, hi, oe)) (hw : mask_Whole.f (k + 1) p a l h = some (wh, we)) :
    pantilelaw04_MaskOf.j1 (k + 1) p a oe wh we false l h K lo hi = some true := by
  obtain ⟨k, rfl⟩ : ∃ m, k = m + 1 + 1 := ⟨k - 2, by omega⟩
  simp only [pantilelaw04_MaskOf.j1]
  rw [if_neg (by simp)]
  by_cases ha : -1 ≤ a ∧ a ≤ 63
  · rw [Whole_ok hp hl hh hr ha (by omega)] at hw
    simp only [Option.some.injEq, Prod.mk.injEq] at hw
    obtain ⟨rfl, rfl⟩ := hw
    rw [if_neg (by omega), decide_eq_false (by omega)]
    simp only [pantilelaw04_MaskOf.j2]
    rw [if_neg (by simp), if_pos trivial, rWhole_ok hp hl hh hr ha (by omega)]
    simp only [Option.bind_some, bne_self_eq_false]
    simp only [pantilelaw04_MaskOf.j3]
    rw [if_neg (by simp)]
    by_cases h1 : a = -1
    · rw [Of_arg hr (by omega) (by omega)] at ho
      simp only [Option.some.injEq, Prod.mk.injEq] at ho
      obtain ⟨rfl, rfl, rfl, rfl⟩ := ho
      rw [if_pos h1, if_pos (by decide)]
      rfl
    · rw [Of_ok hp hl hh hr (by omega) (by omega)] at ho
      simp only [Option.some.injEq, Prod.mk.injEq] at ho
      obtain ⟨rfl, rfl, rfl, rfl⟩ := ho
      rw [if_neg h1, rOf_ok hp hl hh hr (by omega) (by omega)]
      simp only [Option.bind_some]
      rw [if_pos trivial]
      simp
  · rw [Whole_arg hr ha (by omega)] at hw
    rw [Of_arg hr (by omega) (by omega)] at ho
    simp only [Option.some.injEq, Prod.mk.injEq] at hw ho
    obtain ⟨rfl, rfl⟩ := hw
    obtain ⟨rfl, rfl, rfl, rfl⟩ := ho
    have key : pantilelaw04_MaskOf.j2 (k + 1 + 1) p a 3 false 3 true l h 0 0 0 = some true := by
      simp only [pantilelaw04_MaskOf.j2]
      rw [if_pos trivial, if_pos (by decide), if_pos trivial, if_neg (by simp)]
      rfl
    by_cases h1 : a < -1
    · rw [if_pos h1]
      exact key
    · rw [if_neg h1, decide_eq_true (by omega)]
      exact key

theorem maskof_j0 {p l h : List Int} (hp : U p) (hl : U l) (hh : U h) {a : Int} (b : Bool) {k : Nat} (hk : 4500 ≤ k) :
    pantilelaw04_MaskOf.j0 k p a b l h = some true := by
  obtain ⟨k, rfl⟩ : ∃ m, k = m + 1 + 1 := ⟨k - 2, by omega⟩
  simp only [pantilelaw04_MaskOf.j0]
  cases b with
  | true => rfl
  | false =>
    rw [if_neg (by simp)]
    by_cases hr : 1 ≤ p.length ∧ p.length ≤ 16 ∧ l.length = p.length ∧ h.length = p.length
    · have h2 : ∃ wh we, mask_Whole.f (k + 1) p a l h = some (wh, we) := by
        by_cases hh' : -1 ≤ a ∧ a ≤ 63
        · exact ⟨_, _, Whole_ok hp hl hh hr hh' (by omega)⟩
        · exact ⟨_, _, Whole_arg hr hh' (by omega)⟩
      have h3 : ∃ K lo hi oe, mask_Of.f (k + 1) p a l h = some (K, lo, hi, oe) := by
        by_cases hh' : 0 ≤ a ∧ a ≤ 63
        · exact ⟨_, _, _, _, Of_ok hp hl hh hr hh' (by omega)⟩
        · exact ⟨_, _, _, _, Of_arg hr hh' (by omega)⟩
      obtain ⟨wh, we, h2⟩ := h2
      obtain ⟨K, lo, hi, oe, h3⟩ := h3
      rw [h2, h3, ref3_Right_eq]
      simp only [Option.bind_some]
      rw [if_pos (by simp; omega)]
      have e : ((p.length : Int) != (l.length : Int)) = false := by rw [bne_eq_false_iff_eq]; omega
      rw [e]
      exact maskof_j1 hp hl hh hr K lo hi oe wh we (by omega) h3 h2
    · rw [Of_dim hr (by omega), Whole_dim hr (by omega), ref3_Right_eq]
      simp only [Option.bind_some]
      have key : pantilelaw04_MaskOf.j1 (k + 1) p a 2 false 2 true l h 0 0 0 = some true := by
        simp only [pantilelaw04_MaskOf.j1]
        rw [if_pos trivial, if_pos (by decide), if_pos trivial, if_neg (by simp)]
        rfl
      by_cases h1 : 1 ≤ l.length ∧ l.length ≤ 16 ∧ l.length = h.length
      · rw [if_pos (by simpa using h1)]
        have e : ((p.length : Int) != (l.length : Int)) = true := by rw [bne_iff_ne]; omega
        rw [e]
        exact key
      · rw [if_neg (by simpa using h1)]
        exact key

theorem MaskOf : pantilelaw04_MaskOf.Pure := by
  intro p a l h _ _ hp ha _ _ hl _ _ hh
  refine ⟨5000, ?_⟩
  unfold pantilelaw04_MaskOf.f
  rw [awake04_eq (by omega)]
  simp only [Option.bind_some]
  rw [if_pos trivial]
  split
  · exact maskof_j0 hp hl hh _ (by omega)
  · split <;> exact maskof_j0 hp hl hh _ (by omega)

end Go.Proofs.Ythdphjbecibeaaa.Pure
