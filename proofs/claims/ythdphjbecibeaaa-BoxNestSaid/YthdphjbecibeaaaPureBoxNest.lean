/- pantilelaw03.BoxNest answers true for every list of coordinates and two levels; no condition beyond the row's own. -/
import Derived.Test.YthdphjbecibeaaaFvBoxNest
namespace Go.Proofs.Ythdphjbecibeaaa.Pure
open Go.RowKit Go.Proofs.Ythdphjbecibeaaa.PBoxNest Go.Proofs.YthdphjbecibeaaaW.PrintWords Go.Proofs.YthdphjbecibeaaaW.PrintLast Go.Proofs.Ythdphjbecibeaaa.FBoxNest Go.Proofs.YthdphjbecibeaaaMz
set_option linter.unusedVariables false
set_option linter.unusedSimpArgs false

theorem cell_nest (x : Nat) {m1 m2 : Nat} (h : m1 ≤ m2) : cutv x m2 ≤ cutv x m1 ∧ chi x m1 ≤ chi x m2 := by
  have key : ∀ y, cutv x m1 = cutv y m1 → cutv x m2 = cutv y m2 := fun y hy =>
    (cutv_eq_iff x y m2).2 (Nat.lt_of_lt_of_le ((cutv_eq_iff x y m1).1 hy) (Nat.pow_le_pow_right (by decide) h))
  have h1 := (in_cell1 x (cutv x m1) m2).2 (key _ ((in_cell1 x (cutv x m1) m1).1 ⟨Nat.le_refl _, chi_ge x m1⟩))
  have h2 := (in_cell1 x (chi x m1) m2).2 (key _ ((in_cell1 x (chi x m1) m1).1 ⟨chi_ge x m1, Nat.le_refl _⟩))
  exact ⟨h1.1, h2.2⟩

theorem nt_cellHi {p : List Int} {m i : Nat} (h : i < p.length) : nt (cellHi p m) i = chi (nt p i) m := nt_mkL h

theorem cellHi_length (p : List Int) (m : Nat) : (cellHi p m).length = p.length := mkL_length _ _

theorem cellHi_U {p : List Int} (hp : U p) {m : Nat} (hm : m ≤ 64) : U (cellHi p m) := mkL_U fun i _ => chi_lt (nt_lt' hp i) hm

theorem volB_cell {p : List Int} (m : Nat) : volB (cutL p m) (cellHi p m) = min (2 ^ (m * p.length)) 18446744073709551615 := by
  unfold volB
  rw [cutL_length, if_neg]
  · unfold vol
    rw [prodF_cell (m := m) p.length 0, Nat.one_mul]
    intro j _ hj
    rw [nt_cutL, nt_cellHi (by omega)]
    rfl
  · intro h
    obtain ⟨j, _, h2, h3⟩ := (emF_iff _ _ _ _).1 h
    rw [nt_cutL, nt_cellHi (by omega)] at h3
    have := chi_ge (nt p j) m
    omega

theorem nest_l1 {p : List Int} (h16 : p.length ≤ 16) (x2 x15 x17 : Int) (d : Nat) : ∀ (k i v : Nat), i + d = p.length → v < 18446744073709551616 →
    pantilelaw03_BoxNest.l1 (k + d + 1) p x2 (v : Int) x15 x17 (i : Int) = pantilelaw03_BoxNest.l0 k p x2 ((dblN v d : Nat) : Int) x15 (wrap64 (x17 + 1)) := by
  induction d with
  | zero =>
    intro k i v hi hv
    simp only [pantilelaw03_BoxNest.l1]
    rw [if_neg (by omega)]
    rfl
  | succ d ih =>
    intro k i v hi hv
    have ew : wrap64 ((i : Int) + 1) = ((i + 1 : Nat) : Int) := by rw [wrap64_id (by omega) (by omega)]; omega
    rw [show k + (d + 1) + 1 = (k + d + 1) + 1 from rfl]
    simp only [pantilelaw03_BoxNest.l1]
    rw [if_pos (by omega), ew, dblN]
    by_cases c : (v : Int) > 9223372036854775807
    · have e : dbl v = 18446744073709551615 := by unfold dbl; rw [if_pos (by omega)]
      rw [if_pos c, e]
      exact ih k (i + 1) 18446744073709551615 (by omega) (by omega)
    · have e : dbl v = 2 * v := by unfold dbl; rw [if_neg (by omega)]
      have e2 : IntKind.u64.wrap (2 * (v : Int)) = ((2 * v : Nat) : Int) := by rw [wrapu_id (by omega) (by omega)]; omega
      rw [if_neg c, e, e2]
      exact ih k (i + 1) (2 * v) (by omega) (by omega)

theorem dblN_lt (v n : Nat) (h : v < 18446744073709551616) : dblN v n < 18446744073709551616 := by
  induction n generalizing v with
  | zero => exact h
  | succ n ih =>
    rw [dblN]
    apply ih
    unfold dbl
    split <;> omega

theorem nest_l0 {p : List Int} (h16 : p.length ≤ 16) (x2 x15 : Int) (hx2 : x2 ≤ 63) (e : Nat) : ∀ (k v : Nat) (x17 : Int), x17 + e = x2 → -1 ≤ x17 → v < 18446744073709551616 → e * 20 < k →
    pantilelaw03_BoxNest.l0 k p x2 (v : Int) x15 x17 = some (((dblN v (p.length * e) : Nat) : Int) == x15) := by
  induction e with
  | zero =>
    intro k v x17 h1 h2 hv hk
    obtain ⟨k, rfl⟩ : ∃ m, k = m + 1 := ⟨k - 1, by omega⟩
    simp only [pantilelaw03_BoxNest.l0]
    rw [if_neg (by omega)]
    rfl
  | succ e ih =>
    intro k v x17 h1 h2 hv hk
    obtain ⟨k, rfl⟩ : ∃ m, k = m + p.length + 1 + 1 := ⟨k - p.length - 2, by omega⟩
    simp only [pantilelaw03_BoxNest.l0]
    rw [if_pos (by omega)]
    have h3 := nest_l1 h16 x2 x15 x17 p.length k 0 v (by omega) hv
    refine (Eq.trans h3 ?_)
    rw [wrap64_id (by omega) (by omega), ih k (dblN v p.length) (x17 + 1) (by omega) (by omega) (dblN_lt _ _ hv) (by omega), dblN_add, Nat.mul_succ, Nat.add_comm p.length]

theorem nest_j0 {p : List Int} (hp : U p) (hr : 1 ≤ p.length ∧ p.length ≤ 16) {a b : Int} (ha : -1 ≤ a) (hab : a ≤ b) (hb : b ≤ 63) {k : Nat} (hk : 4000 ≤ k) :
    pantilelaw03_BoxNest.j0 k p a b false = some true := by
  obtain ⟨k, rfl⟩ : ∃ m, k = m + 1 + 1 := ⟨k - 2, by omega⟩
  simp only [pantilelaw03_BoxNest.j0]
  rw [if_neg (by simp), Cell_ok hp hr ⟨ha, by omega⟩ (by omega), Option.bind_some, Cell_ok hp hr ⟨by omega, hb⟩ (by omega), Option.bind_some]
  obtain ⟨m1, hm1⟩ : ∃ m : Nat, m = (a + 1).toNat := ⟨_, rfl⟩
  obtain ⟨m2, hm2⟩ : ∃ m : Nat, m = (b + 1).toNat := ⟨_, rfl⟩
  rw [← hm1, ← hm2]
  dsimp only
  have U1 := cutL_U hp m1
  have U2 := cutL_U hp m2
  have V1 := cellHi_U hp (m := m1) (by omega)
  have V2 := cellHi_U hp (m := m2) (by omega)
  have L1 := cutL_length p m1
  have L2 := cutL_length p m2
  have K1 := cellHi_length p m1
  have K2 := cellHi_length p m2
  rw [Meet_ok U1 V1 U2 V2 ⟨by omega, by omega, by omega, by omega⟩ (by omega), Option.bind_some, bVol_ok U1 V1 ⟨by omega, by omega, by omega⟩ (by omega), Option.bind_some, bVol_ok U2 V2 ⟨by omega, by omega, by omega⟩ (by omega), Option.bind_some]
  dsimp only
  have e1 : meetLo (cutL p m1) (cutL p m2) = cutL p m1 := by
    unfold meetLo
    rw [cutL_length, cutL_mkL]
    apply mkL_congr
    intro i hi
    rw [nt_mkL hi, nt_cutL]
    have := (cell_nest (nt p i) (by omega : m1 ≤ m2)).1
    omega
  have e2 : meetHi (cutL p m1) (cellHi p m1) (cellHi p m2) = cellHi p m1 := by
    unfold meetHi
    rw [cutL_length]
    show _ = mkL p.length (fun i => chi (nt p i) m1)
    apply mkL_congr
    intro i hi
    rw [nt_cellHi hi, nt_cellHi hi]
    have := (cell_nest (nt p i) (by omega : m1 ≤ m2)).2
    omega
  rw [e1, e2, if_pos rfl, if_pos rfl, if_pos rfl, if_pos rfl, if_pos rfl, Same3_eq (by omega) (by omega) (by omega) (by omega), Option.bind_some, decide_eq_true ⟨rfl, rfl⟩]
  simp only [pantilelaw03_BoxNest.j1]
  rw [if_neg (by simp), volB_cell, volB_cell, nest_l0 hr.2 b _ hb (m2 - m1) k _ a (by omega) ha (by omega) (by omega), dblN_min]
  congr 1
  rw [beq_iff_eq, ← Nat.pow_add]
  congr 3
  have : m2 = (m2 - m1) + m1 := by omega
  conv => rhs; rw [this]
  rw [Nat.add_mul, Nat.mul_comm (m2 - m1)]

theorem nest_j0_true (p : List Int) (a b : Int) {k : Nat} (hk : 1 ≤ k) : pantilelaw03_BoxNest.j0 k p a b true = some true := by
  obtain ⟨k, rfl⟩ : ∃ m, k = m + 1 := ⟨k - 1, by omega⟩
  simp only [pantilelaw03_BoxNest.j0]
  rw [if_pos trivial]

theorem nest_f {p : List Int} (hp : U p) (a b : Int) {k : Nat} (hk : 4000 ≤ k) : pantilelaw03_BoxNest.f k p a b = some true := by
  unfold pantilelaw03_BoxNest.f
  rw [awake03_eq (by omega), Option.bind_some, if_pos rfl, ref_Right_eq, Option.bind_some]
  by_cases hr : 1 ≤ p.length ∧ p.length ≤ 16
  · rw [decide_eq_true hr, if_pos rfl]
    by_cases h1 : a < -1
    · rw [if_pos h1]
      exact nest_j0_true _ _ _ (by omega)
    · rw [if_neg h1]
      by_cases h2 : a > b
      · rw [if_pos h2]
        exact nest_j0_true _ _ _ (by omega)
      · rw [if_neg h2]
        by_cases h3 : b > 63
        · rw [decide_eq_true h3]
          exact nest_j0_true _ _ _ (by omega)
        · rw [decide_eq_false h3]
          exact nest_j0 hp hr (by omega) (by omega) (by omega) hk
  · rw [decide_eq_false hr, if_neg (by simp)]
    exact nest_j0_true _ _ _ (by omega)

theorem BoxNest : pantilelaw03_BoxNest.Pure := fun p a b _ _ hp _ _ => ⟨4000, nest_f hp a b (Nat.le_refl _)⟩

end Go.Proofs.Ythdphjbecibeaaa.Pure
