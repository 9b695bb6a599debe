/- The program's and the reference's boxes, as printed, in plain numbers. -/
import Derived.Test.YthdphjbecibeaaaMb
import Derived.Test.YthdphjbecibeaaaFpCoverOnce
namespace Go.Proofs.Ythdphjbecibeaaa.FCoverOnce
open Go.RowKit Go.Proofs.Ythdphjbecibeaaa.PCoverOnce Go.Proofs.YthdphjbecibeaaaW.PrintWords Go.Proofs.YthdphjbecibeaaaW.PrintLast Go.Proofs.YthdphjbecibeaaaW.PrintMore Go.Proofs.YthdphjbecibeaaaMz
set_option linter.unusedVariables false
set_option linter.unusedSimpArgs false

theorem mx_nat (a b : Nat) : mx (a : Int) (b : Int) = ((max a b : Nat) : Int) := by unfold mx; split <;> omega
theorem mn_nat (a b : Nat) : mn (a : Int) (b : Int) = ((min a b : Nat) : Int) := by unfold mn; split <;> omega

theorem mkI_mkL {n : Nat} {F : Nat → Int} {G : Nat → Nat} (h : ∀ i, i < n → F i = ((G i : Nat) : Int)) : Go.Proofs.YthdphjbecibeaaaHe.mkI n F = mkL n G := by
  unfold mkL
  exact Go.Proofs.YthdphjbecibeaaaHe.mkI_congr h

def cellHi (p : List Int) (m : Nat) : List Int := mkL p.length (fun i => chi (nt p i) m)

theorem cellLow_eq (m : Nat) (hm : m ≤ 64) : box_Cell.low ((m : Int) - 1) = ((2 ^ m - 1 : Nat) : Int) := by
  unfold box_Cell.low
  rw [show (m : Int) - 1 + 1 = (m : Int) from by omega, wrap64_nat (by omega)]
  by_cases h : m = 64
  · subst h
    rfl
  · have h3 : 2 ^ m ≤ 2 ^ 63 := Nat.pow_le_pow_right (by decide) (by omega)
    have hs := shl_nat 1 m hm (by omega)
    rw [show ((1 : Nat) : Int) = 1 from rfl] at hs
    rw [hs, Nat.one_mul]
    have hp := Nat.two_pow_pos m
    generalize 2 ^ m = P at h3 hp
    rw [wrapu_id (by omega) (by omega)]
    omega

theorem Cell_ok {p : List Int} (hp : U p) (hr : 1 ≤ p.length ∧ p.length ≤ 16) {a : Int} (ha : -1 ≤ a ∧ a ≤ 63) {k : Nat} (hk : 50 ≤ k) :
    box_Cell.f k p a = some (cutL p (a + 1).toNat, cellHi p (a + 1).toNat, 0) := by
  unfold box_Cell.f
  rw [Cut_ok hp hr ha hk]
  simp only [Option.bind_some]
  have hl := cutL_length p (a + 1).toNat
  have hU := cutL_U hp (a + 1).toNat
  rw [if_pos trivial, if_pos (by rw [wrap64_id (by omega) (by omega)]; omega), if_pos ⟨by omega, by omega⟩]
  have hlow := cellLow_eq (a + 1).toNat (by omega)
  rw [Int.toNat_of_nonneg (by omega), show a + 1 - 1 = a from by omega] at hlow
  rw [hlow]
  have hp1 : 2 ^ (a + 1).toNat ≤ 2 ^ 64 := Nat.pow_le_pow_right (by decide) (by omega)
  congr 2
  · exact Eq.trans (mkI_mkL (G := fun i => cutv (nt p i) (a + 1).toNat) (fun i hi => by rw [rd_nt hU, nt_cutL])) (cutL_mkL _).symm
  · congr 1
    exact mkI_mkL (fun i hi => by
      have hc := cutv_le (nt p i) (a + 1).toNat
      have hx := nt_lt hp i
      rw [rd_nt hU, nt_cutL, u64_or_nat _ _ (by omega) (by omega), chi_or])

theorem Cell_arg {p : List Int} (hr : 1 ≤ p.length ∧ p.length ≤ 16) {a : Int} (ha : ¬ (-1 ≤ a ∧ a ≤ 63)) {k : Nat} :
    box_Cell.f k p a = some ([], [], 3) := by
  unfold box_Cell.f
  rw [Cut_arg hr ha]
  simp only [Option.bind_some]
  rw [if_neg (by omega)]

theorem Cell_dim {p : List Int} (hr : ¬ (1 ≤ p.length ∧ p.length ≤ 16)) {a : Int} {k : Nat} :
    box_Cell.f k p a = some ([], [], 2) := by
  unfold box_Cell.f
  rw [Cut_dim hr]
  simp only [Option.bind_some]
  rw [if_neg (by omega)]
theorem box_Right_eq (l h : List Int) : box_Right.f l h = some (decide (1 ≤ l.length ∧ l.length ≤ 16 ∧ l.length = h.length)) := by
  unfold box_Right.f
  rw [zbits_Right_eq]
  simp only [Option.bind_some]
  by_cases hr : 1 ≤ l.length ∧ l.length ≤ 16
  · rw [if_pos (by simpa using hr)]
    congr 1
    rw [Bool.eq_iff_iff]
    simp
    omega
  · rw [if_neg (by simpa using hr)]
    congr 1
    symm
    apply decide_eq_false
    omega
theorem ref3_Right_eq (l h : List Int) : pantileref03_Right.f l h = some (decide (1 ≤ l.length ∧ l.length ≤ 16 ∧ l.length = h.length)) := by
  unfold pantileref03_Right.f
  rw [ref_Alike_eq]
  rfl
theorem rIn_loop {l h p : List Int} (hl : U l) (hh : U h) (hp : U p) (e1 : p.length ≤ l.length) (e2 : p.length ≤ h.length) (h16 : p.length ≤ 40) (d : Nat) : ∀ (k i : Nat), i + d = p.length → d < k →
    pantileref03_In.l0 k p (i : Int) l h = some (inF (nt l) (nt h) (nt p) i d) := by
  induction d with
  | zero =>
    intro k i hi hk
    obtain ⟨k, rfl⟩ : ∃ m, k = m + 1 := ⟨k - 1, by omega⟩
    simp only [pantileref03_In.l0]
    rw [if_neg (by omega)]
    rfl
  | succ d ih =>
    intro k i hi hk
    obtain ⟨k, rfl⟩ : ∃ m, k = m + 1 := ⟨k - 1, by omega⟩
    simp only [pantileref03_In.l0]
    rw [if_pos (by omega), if_pos (by omega), if_pos (by omega), rd_nt hl, rd_nt hp, rd_nt hh]
    unfold inF
    by_cases h1 : (nt p i : Int) < (nt l i : Int)
    · rw [if_pos h1, decide_eq_false (by omega)]
      simp
    · rw [if_neg h1, if_pos (by omega), decide_eq_true (by omega : nt l i ≤ nt p i)]
      by_cases h2 : (nt p i : Int) > (nt h i : Int)
      · rw [if_pos h2, decide_eq_false (by omega)]
        simp
      · rw [if_neg h2, decide_eq_true (by omega : nt p i ≤ nt h i), wrap64_id (by omega) (by omega)]
        simp only [Bool.and_self, Bool.true_and]
        exact ih k (i + 1) (by omega) (by omega)

theorem rIn_ok {l h p : List Int} (hl : U l) (hh : U h) (hp : U p) (e1 : p.length ≤ l.length) (e2 : p.length ≤ h.length) (h16 : p.length ≤ 40) {k : Nat} (hk : 50 ≤ k) :
    pantileref03_In.f k l h p = some (inF (nt l) (nt h) (nt p) 0 p.length) := rIn_loop hl hh hp e1 e2 h16 p.length k 0 (by omega) (by omega)

end Go.Proofs.Ythdphjbecibeaaa.FCoverOnce
