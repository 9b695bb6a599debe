/- pantilelaw04.MaskMeets answers true for every list of coordinates, level, box and address; no condition beyond the row's own. -/
import Derived.Test.YthdphjbecibeaaaFkMaskMeets
namespace Go.Proofs.Ythdphjbecibeaaa.Pure
open Go.RowKit Go.Proofs.Ythdphjbecibeaaa.PMaskMeets Go.Proofs.YthdphjbecibeaaaW.PrintWords Go.Proofs.YthdphjbecibeaaaW.PrintLast Go.Proofs.Ythdphjbecibeaaa.FMaskMeets Go.Proofs.YthdphjbecibeaaaMz
set_option linter.unusedVariables false
set_option linter.unusedSimpArgs false

theorem meets_loop {p l h c d : List Int} (hl : U l) (hh : U h) (hc : U c) (hd : U d) (h16 : p.length ≤ 16) (e1 : l.length = p.length) (e2 : h.length = p.length) (e3 : c.length = p.length) (e4 : d.length = p.length)
    (addr K lo hi : Int) (n : Nat) : ∀ (k i : Nat) (b : Bool), i + n = p.length → n + 60 < k →
    pantilelaw04_MaskMeets.l0 k p addr 0 b (i : Int) l h K lo hi c d =
      if emF (nt l) (nt h) 0 l.length = true then (mask_Mask_None.f K lo hi) else (mask_Mask_Has.f K lo hi addr).bind fun t => some (t == (b && meF (nt l) (nt h) (nt c) (nt d) i n)) := by
  induction n with
  | zero =>
    intro k i b hi' hk
    obtain ⟨k, rfl⟩ : ∃ m, k = m + 1 := ⟨k - 1, by omega⟩
    simp only [pantilelaw04_MaskMeets.l0]
    rw [if_neg (by omega), rEmpty_ok hl hh (by omega) (by omega) (by omega)]
    simp only [Option.bind_some]
    unfold meF
    rw [Bool.and_true]
    cases emF (nt l) (nt h) 0 l.length with
    | true =>
      simp only [if_true]
      cases mask_Mask_None.f K lo hi <;> rfl
    | false =>
      simp only [Bool.false_eq_true, if_false, if_true]
  | succ n ih =>
    intro k i b hi' hk
    obtain ⟨k, rfl⟩ : ∃ m, k = m + 1 := ⟨k - 1, by omega⟩
    simp only [pantilelaw04_MaskMeets.l0]
    have ew : wrap64 ((i : Int) + 1) = ((i + 1 : Nat) : Int) := by rw [wrap64_id (by omega) (by omega)]; omega
    rw [if_pos (by omega), ew]
    cases b with
    | false =>
      rw [if_neg (by simp), ih k (i + 1) false (by omega) (by omega)]
      simp only [Bool.false_and]
    | true =>
      rw [if_pos rfl, if_pos (by omega), if_pos (by omega), if_pos (by omega), rd_nt hc, rd_nt hh]
      unfold meF
      by_cases h1 : (nt c i : Int) ≤ (nt h i : Int)
      · rw [if_pos h1, if_pos (by omega), if_pos (by omega), rd_nt hd, rd_nt hl, ih k (i + 1) _ (by omega) (by omega)]
        have e5 : decide ((nt d i : Int) ≥ (nt l i : Int)) = decide (nt l i ≤ nt d i) := by
          apply decide_eq_decide.2
          omega
        rw [e5, decide_eq_true (by omega : nt c i ≤ nt h i)]
        simp only [Bool.true_and]
      · rw [if_neg h1, ih k (i + 1) false (by omega) (by omega), decide_eq_false (by omega : ¬ nt c i ≤ nt h i)]
        simp only [Bool.false_and, Bool.true_and]

theorem meets_j0 {p l h : List Int} (hp : U p) (hl : U l) (hh : U h) (hr : 1 ≤ p.length ∧ p.length ≤ 16 ∧ l.length = p.length ∧ h.length = p.length) {a : Int} (ha : 0 ≤ a ∧ a ≤ 63) {addr : Int} (hd : 0 ≤ addr ∧ addr < ((2 ^ p.length : Nat) : Int)) {k : Nat} (hk : 4000 ≤ k) :
    pantilelaw04_MaskMeets.j0 k p a addr false l h = some true := by
  obtain ⟨k, rfl⟩ : ∃ m, k = m + 1 := ⟨k - 1, by omega⟩
  have hpw : 2 ^ p.length ≤ 2 ^ 16 := Nat.pow_le_pow_right (by decide) hr.2.1
  have hp16 : (2 : Nat) ^ 16 = 65536 := by decide
  generalize hP : 2 ^ p.length = P at hd hpw
  simp only [pantilelaw04_MaskMeets.j0]
  rw [if_neg (by simp), Of_ok hp hl hh hr ha (by omega), rPlace_ok hp (by omega) (by omega) (by omega) (by omega)]
  simp only [Option.bind_some]
  have ew : wrap64 (a - 1) = a - 1 := wrap64_id (by omega) (by omega)
  have hU := placeL_U hp (a := a.toNat) (addr := addr.toNat) (by omega)
  have hlen := placeL_length p a.toNat addr.toNat
  have em : (a - 1 + 1).toNat = a.toNat := by omega
  rw [ew, rCell_ok hU (by omega) (by omega) (by omega), rEmpty_ok hl hh (by omega) (by omega) (by omega), em]
  simp only [Option.bind_some]
  have hcl : (cutL (placeL p a.toNat addr.toNat) a.toNat).length = p.length := by rw [cutL_length, hlen]
  have hdl : (cellHi (placeL p a.toNat addr.toNat) a.toNat).length = p.length := by unfold cellHi; rw [mkL_length, hlen]
  have hdU : U (cellHi (placeL p a.toNat addr.toNat) a.toNat) := mkL_U fun i _ => chi_lt (nt_lt' hU i) (by omega)
  have key := meets_loop hl hh (cutL_U hU a.toNat) hdU hr.2.1 hr.2.2.1 hr.2.2.2 hcl hdl addr (p.length : Int) ((mlow (nt p) (nt l) (nt h) a.toNat p.length : Nat) : Int) ((mhigh (nt p) (nt l) (nt h) a.toNat p.length : Nat) : Int) p.length k 0 (!emF (nt l) (nt h) 0 l.length) (by omega) (by omega)
  refine key.trans ?_
  have hlo := mlow_lt (nt p) (nt l) (nt h) a.toNat p.length
  have hhi := mhigh_lt (nt p) (nt l) (nt h) a.toNat p.length
  cases hE : emF (nt l) (nt h) 0 l.length with
  | true =>
    rw [if_pos rfl, None_eq hr.1 hr.2.1 hlo hhi]
    obtain ⟨j, h1, h2, h3⟩ := (emF_iff _ _ _ _).1 hE
    have hn := none_of_empty (f := nt p) (m := a.toNat) (n := p.length) (by omega : j < p.length) h3
    rw [decide_eq_false]
    · rfl
    · intro h4
      exact (none_andn (by omega) hlo hhi).1 h4 hn
  | false =>
    have hne : ∀ j, j < p.length → nt l j ≤ nt h j := by
      intro j hj
      rcases Nat.lt_or_ge (nt h j) (nt l j) with h1 | h1
      · have := (emF_iff (nt l) (nt h) l.length 0).2 ⟨j, by omega, by omega, h1⟩
        rw [hE] at this
        simp at this
      · exact h1
    rw [if_neg (by simp), Has_eq hr.1 hr.2.1 hlo hhi (by omega)]
    simp only [Option.bind_some, Bool.not_false, Bool.true_and]
    congr 1
    rw [beq_iff_eq, Bool.eq_iff_iff, decide_eq_true_eq, has_of, meF_iff]
    have hc : ∀ i, i < p.length → nt (cutL (placeL p a.toNat addr.toNat) a.toNat) i = plv (nt p i) a.toNat (abit p.length addr.toNat i) := by
      intro i hi'
      rw [nt_cutL, nt_placeL hi', cut_plv]
    have hd2 : ∀ i, i < p.length → nt (cellHi (placeL p a.toNat addr.toNat) a.toNat) i = plh (nt p i) a.toNat (abit p.length addr.toNat i) := by
      intro i hi'
      unfold cellHi
      rw [nt_mkL (by omega), nt_placeL hi', chi_plv]
    constructor
    · intro ⟨_, _, h3⟩ j _ hj
      have h4 := (lvB_iff _ _ _ _ _).1 (h3 j (by omega))
      rw [hc j (by omega), hd2 j (by omega)]
      exact ⟨h4.2.1, h4.2.2⟩
    · intro h3
      refine ⟨hd.1, by omega, fun j hj => (lvB_iff _ _ _ _ _).2 ?_⟩
      have h4 := h3 j (by omega) (by omega)
      rw [hc j hj, hd2 j hj] at h4
      exact ⟨hne j hj, h4⟩

theorem meets_j0_true {p l h : List Int} {a addr : Int} {k : Nat} (hk : 1 ≤ k) : pantilelaw04_MaskMeets.j0 k p a addr true l h = some true := by
  obtain ⟨k, rfl⟩ : ∃ m, k = m + 1 := ⟨k - 1, by omega⟩
  simp only [pantilelaw04_MaskMeets.j0]
  rw [if_pos trivial]

theorem MaskMeets : pantilelaw04_MaskMeets.Pure := by
  intro p a l h addr _ _ hp ha _ _ hl _ _ hh hd
  refine ⟨5000, ?_⟩
  unfold pantilelaw04_MaskMeets.f
  rw [awake04_eq (by omega)]
  simp only [Option.bind_some]
  rw [if_pos trivial, ref3_Right_eq]
  simp only [Option.bind_some]
  by_cases h1 : 1 ≤ l.length ∧ l.length ≤ 16 ∧ l.length = h.length
  · rw [if_pos (by simpa using h1)]
    by_cases h2 : (p.length : Int) = (l.length : Int)
    · rw [if_pos h2]
      by_cases h3 : a < 0
      · rw [if_pos h3]
        exact meets_j0_true (by omega)
      · rw [if_neg h3]
        by_cases h4 : a > 63
        · rw [if_pos h4]
          exact meets_j0_true (by omega)
        · rw [if_neg h4]
          by_cases h5 : addr < 0
          · rw [if_pos h5]
            exact meets_j0_true (by omega)
          · have hpw : 2 ^ p.length ≤ 2 ^ 16 := Nat.pow_le_pow_right (by decide) (by omega)
            have hp16 : (2 : Nat) ^ 16 = 65536 := by decide
            rw [if_neg h5, Power_eq _ (by omega) (by omega)]
            simp only [Option.bind_some]
            rw [wrap64_nat (by omega)]
            by_cases h6 : addr ≥ ((2 ^ p.length : Nat) : Int)
            · rw [decide_eq_true h6]
              exact meets_j0_true (by omega)
            · rw [decide_eq_false h6]
              exact meets_j0 hp hl hh ⟨by omega, by omega, by omega, by omega⟩ (by omega) ⟨by omega, by omega⟩ (by omega)
    · rw [if_neg h2]
      exact meets_j0_true (by omega)
  · rw [if_neg (by simpa using h1)]
    exact meets_j0_true (by omega)

end Go.Proofs.Ythdphjbecibeaaa.Pure
