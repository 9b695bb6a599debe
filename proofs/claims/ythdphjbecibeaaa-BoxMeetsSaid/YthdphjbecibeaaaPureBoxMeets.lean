/- pantilelaw03.BoxMeets answers true for every two boxes and a point; no condition beyond the row's own. -/
import Derived.Test.YthdphjbecibeaaaFvBoxMeets
namespace Go.Proofs.Ythdphjbecibeaaa.Pure
open Go.RowKit Go.Proofs.Ythdphjbecibeaaa.PBoxMeets Go.Proofs.YthdphjbecibeaaaW.PrintWords Go.Proofs.YthdphjbecibeaaaW.PrintLast Go.Proofs.Ythdphjbecibeaaa.FBoxMeets Go.Proofs.YthdphjbecibeaaaMz
set_option linter.unusedVariables false
set_option linter.unusedSimpArgs false

theorem inF_meet {a b c d p : List Int} (e1 : a.length = p.length) :
    inF (nt (meetLo a c)) (nt (meetHi a b d)) (nt p) 0 p.length = (inF (nt a) (nt b) (nt p) 0 p.length && inF (nt c) (nt d) (nt p) 0 p.length) := by
  rw [Bool.eq_iff_iff, Bool.and_eq_true, inF_iff, inF_iff, inF_iff]
  have key : ∀ j, j < p.length → (nt (meetLo a c) j = max (nt a j) (nt c j) ∧ nt (meetHi a b d) j = min (nt b j) (nt d j)) := fun j hj =>
    ⟨nt_mkL (by omega), nt_mkL (by omega)⟩
  constructor
  · intro h
    refine ⟨fun j h1 h2 => ?_, fun j h1 h2 => ?_⟩
    · have h3 := h j h1 h2
      rw [(key j (by omega)).1, (key j (by omega)).2] at h3
      omega
    · have h3 := h j h1 h2
      rw [(key j (by omega)).1, (key j (by omega)).2] at h3
      omega
  · intro ⟨ha, hc⟩ j h1 h2
    have h3 := ha j h1 h2
    have h4 := hc j h1 h2
    rw [(key j (by omega)).1, (key j (by omega)).2]
    omega

theorem volB_le {a b a' b' : List Int} (el : a'.length = a.length) (h : ∀ j, j < a.length → nt a j ≤ nt a' j ∧ nt b' j ≤ nt b j) : volB a' b' ≤ volB a b := by
  unfold volB
  rw [el]
  cases hE : emF (nt a') (nt b') 0 a.length with
  | true => rw [if_pos rfl]; exact Nat.zero_le _
  | false =>
    have hne : ∀ j, j < a.length → nt a' j ≤ nt b' j := fun j hj => ne_of_emF (l := a') (h := b') (by rw [el]; exact hE) j (by omega)
    have hE2 : emF (nt a) (nt b) 0 a.length = false := by
      cases hx : emF (nt a) (nt b) 0 a.length with
      | false => rfl
      | true =>
        obtain ⟨j, h1, h2, h3⟩ := (emF_iff _ _ _ _).1 hx
        have h4 := h j (by omega)
        have h5 := hne j (by omega)
        omega
    rw [hE2, if_neg (by simp), if_neg (by simp)]
    apply vol_mono
    intro j _ hj
    have h4 := h j (by omega)
    omega

theorem bmeets_j0 {a b c d p : List Int} (ha : U a) (hb : U b) (hc : U c) (hd : U d) (hp : U p) (h1 : 1 ≤ a.length ∧ a.length ≤ 16 ∧ a.length = b.length ∧ c.length = a.length) (h2 : c.length = d.length) (h3 : p.length = a.length) {k : Nat} (hk : 200 ≤ k) :
    pantilelaw03_BoxMeets.j0 k p false a b c d = some true := by
  obtain ⟨k, rfl⟩ : ∃ m, k = m + 1 := ⟨k - 1, by omega⟩
  simp only [pantilelaw03_BoxMeets.j0]
  have L1 : (meetLo a c).length = a.length := mkL_length _ _
  have L2 : (meetHi a b d).length = a.length := mkL_length _ _
  have U1 := meetLo_U ha hc
  have U2 := meetHi_U (a := a) hb hd
  rw [if_neg (by simp), Meet_ok ha hb hc hd h1 h2, Option.bind_some]
  dsimp only
  rw [In_ok U1 U2 hp ⟨by omega, by omega, by omega, by omega⟩ (by omega), Option.bind_some, bVol_ok U1 U2 ⟨by omega, by omega, by omega⟩ (by omega), Option.bind_some]
  dsimp only
  rw [if_pos rfl, if_pos rfl, if_pos rfl, rIn_ok ha hb hp (by omega) (by omega) (by omega) (by omega), Option.bind_some, inF_meet (by omega), rVol_ok ha hb (by omega) (by omega) (by omega), rVol_ok hc hd (by omega) (by omega) (by omega)]
  have key : ∀ j, j < a.length → (nt (meetLo a c) j = max (nt a j) (nt c j) ∧ nt (meetHi a b d) j = min (nt b j) (nt d j)) := fun j hj =>
    ⟨nt_mkL (by omega), nt_mkL (by omega)⟩
  have v1 : volB (meetLo a c) (meetHi a b d) ≤ volB a b := volB_le L1 fun j hj => by
    rw [(key j hj).1, (key j hj).2]
    omega
  have v2 : volB (meetLo a c) (meetHi a b d) ≤ volB c d := volB_le (by omega) fun j hj => by
    rw [(key j (by omega)).1, (key j (by omega)).2]
    omega
  cases inF (nt a) (nt b) (nt p) 0 p.length with
  | true =>
    rw [if_pos rfl, rIn_ok hc hd hp (by omega) (by omega) (by omega) (by omega), Option.bind_some, if_pos (by simp), Option.bind_some, if_pos (by omega), Option.bind_some, decide_eq_true (by omega)]
  | false =>
    rw [if_neg (by simp), if_pos (by simp), Option.bind_some, if_pos (by omega), Option.bind_some, decide_eq_true (by omega)]

theorem bmeets_j0_true (a b c d p : List Int) {k : Nat} (hk : 1 ≤ k) : pantilelaw03_BoxMeets.j0 k p true a b c d = some true := by
  obtain ⟨k, rfl⟩ : ∃ m, k = m + 1 := ⟨k - 1, by omega⟩
  simp only [pantilelaw03_BoxMeets.j0]
  rw [if_pos trivial]

theorem big_some (a b c d p : List Int) : ∃ t, pantilelaw03_big.f a b c d p = some t := by
  unfold pantilelaw03_big.f
  split
  · exact ⟨_, rfl⟩
  · split
    · exact ⟨_, rfl⟩
    · split
      · exact ⟨_, rfl⟩
      · split <;> exact ⟨_, rfl⟩

theorem bmeets_f {a b c d p : List Int} (ha : U a) (hb : U b) (hc : U c) (hd : U d) (hp : U p) {k : Nat} (hk : 200 ≤ k) :
    pantilelaw03_BoxMeets.f k a b c d p = some true := by
  unfold pantilelaw03_BoxMeets.f
  obtain ⟨t, ht⟩ := big_some a b c d p
  rw [awake03_eq (by omega), Option.bind_some, if_pos rfl, ht, Option.bind_some]
  cases t with
  | true => rw [if_pos rfl]; exact bmeets_j0_true _ _ _ _ _ (by omega)
  | false =>
    rw [if_neg (by simp), ref3_Right_eq, Option.bind_some]
    by_cases h1 : 1 ≤ a.length ∧ a.length ≤ 16 ∧ a.length = b.length
    · rw [decide_eq_true h1, if_pos rfl, ref3_Right_eq, Option.bind_some]
      by_cases h2 : 1 ≤ c.length ∧ c.length ≤ 16 ∧ c.length = d.length
      · rw [decide_eq_true h2, if_pos rfl]
        by_cases h3 : (a.length : Int) = (c.length : Int)
        · rw [if_pos h3]
          by_cases h4 : (p.length : Int) = (a.length : Int)
          · rw [bne_eq_false_iff_eq.2 h4]
            exact bmeets_j0 ha hb hc hd hp ⟨by omega, by omega, by omega, by omega⟩ (by omega) (by omega) hk
          · rw [bne_iff_ne.2 h4]
            exact bmeets_j0_true _ _ _ _ _ (by omega)
        · rw [if_neg h3]
          exact bmeets_j0_true _ _ _ _ _ (by omega)
      · rw [decide_eq_false h2, if_neg (by simp)]
        exact bmeets_j0_true _ _ _ _ _ (by omega)
    · rw [decide_eq_false h1, if_neg (by simp)]
      exact bmeets_j0_true _ _ _ _ _ (by omega)

theorem BoxMeets : pantilelaw03_BoxMeets.Pure := fun a b c d p _ _ ha _ _ hb _ _ hc _ _ hd _ _ hp => ⟨200, bmeets_f ha hb hc hd hp (Nat.le_refl _)⟩

end Go.Proofs.Ythdphjbecibeaaa.Pure
