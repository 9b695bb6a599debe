/- The program's and the reference's boxes, as printed, in plain numbers. -/
import Derived.Test.YthdphjbecibeaaaMb
import Derived.Test.YthdphjbecibeaaaFpCoverCells
namespace Go.Proofs.Ythdphjbecibeaaa.FCoverCells
open Go.RowKit Go.Proofs.Ythdphjbecibeaaa.PCoverCells Go.Proofs.YthdphjbecibeaaaW.PrintWords Go.Proofs.YthdphjbecibeaaaW.PrintLast Go.Proofs.YthdphjbecibeaaaW.PrintMore Go.Proofs.YthdphjbecibeaaaMz
set_option linter.unusedVariables false
set_option linter.unusedSimpArgs false

theorem mx_nat (a b : Nat) : mx (a : Int) (b : Int) = ((max a b : Nat) : Int) := by unfold mx; split <;> omega
theorem mn_nat (a b : Nat) : mn (a : Int) (b : Int) = ((min a b : Nat) : Int) := by unfold mn; split <;> omega

def cellHi (p : List Int) (m : Nat) : List Int := mkL p.length (fun i => chi (nt p i) m)

theorem box_Right_eq (l h : List Int) : box_Right.f l h = some (decide (1 ≤ l.length ∧ l.length ≤ 16 ∧ l.length = h.length)) := by
  unfold box_Right.f
  rw [zbits_Right_eq]
  simp only [Option.bind_some]
  by_cases hr : 1 ≤ l.length ∧ l.length ≤ 16
  · rw [if_pos (by simpa using hr)]
    congr 1
    rw [Bool.eq_iff_iff]
    simp
    omega
  · rw [if_neg (by simpa using hr)]
    congr 1
    symm
    apply decide_eq_false
    omega
theorem ref3_Right_eq (l h : List Int) : pantileref03_Right.f l h = some (decide (1 ≤ l.length ∧ l.length ≤ 16 ∧ l.length = h.length)) := by
  unfold pantileref03_Right.f
  rw [ref_Alike_eq]
  rfl
theorem rIn_loop {l h p : List Int} (hl : U l) (hh : U h) (hp : U p) (e1 : p.length ≤ l.length) (e2 : p.length ≤ h.length) (h16 : p.length ≤ 40) (d : Nat) : ∀ (k i : Nat), i + d = p.length → d < k →
    pantileref03_In.l0 k p (i : Int) l h = some (inF (nt l) (nt h) (nt p) i d) := by
  induction d with
  | zero =>
    intro k i hi hk
    obtain ⟨k, rfl⟩ : ∃ m, k = m + 1 := ⟨k - 1, by omega⟩
    simp only [pantileref03_In.l0]
    rw [if_neg (by omega)]
    rfl
  | succ d ih =>
    intro k i hi hk
    obtain ⟨k, rfl⟩ : ∃ m, k = m + 1 := ⟨k - 1, by omega⟩
    simp only [pantileref03_In.l0]
    rw [if_pos (by omega), if_pos (by omega), if_pos (by omega), rd_nt hl, rd_nt hp, rd_nt hh]
    unfold inF
    by_cases h1 : (nt p i : Int) < (nt l i : Int)
    · rw [if_pos h1, decide_eq_false (by omega)]
      simp
    · rw [if_neg h1, if_pos (by omega), decide_eq_true (by omega : nt l i ≤ nt p i)]
      by_cases h2 : (nt p i : Int) > (nt h i : Int)
      · rw [if_pos h2, decide_eq_false (by omega)]
        simp
      · rw [if_neg h2, decide_eq_true (by omega : nt p i ≤ nt h i), wrap64_id (by omega) (by omega)]
        simp only [Bool.and_self, Bool.true_and]
        exact ih k (i + 1) (by omega) (by omega)

theorem rIn_ok {l h p : List Int} (hl : U l) (hh : U h) (hp : U p) (e1 : p.length ≤ l.length) (e2 : p.length ≤ h.length) (h16 : p.length ≤ 40) {k : Nat} (hk : 50 ≤ k) :
    pantileref03_In.f k l h p = some (inF (nt l) (nt h) (nt p) 0 p.length) := rIn_loop hl hh hp e1 e2 h16 p.length k 0 (by omega) (by omega)
theorem rCell_bits {p : List Int} (a : Int) (m : Nat) (ham : a = (m : Int) - 1) (hm : m ≤ 64) (i : Nat) (x : Nat) (hx : x + (2 ^ m - 1) < 18446744073709551616) (L H : List Int) (d : Nat) : ∀ (k j : Nat), j + d = m → d + 1 < k →
    ∃ k', k' + d + 1 = k ∧ pantileref03_Cell.l1 k p a (i : Int) ((x + (2 ^ j - 1) : Nat) : Int) (j : Int) L H =
      (if H.length < 17592186044416 then pantileref03_Cell.l0 k' p a (wrap64 ((i : Int) + 1)) L (H ++ [((x + (2 ^ m - 1) : Nat) : Int)]) else none) := by
  induction d with
  | zero =>
    intro k j hj hk
    obtain ⟨k, rfl⟩ : ∃ m, k = m + 1 := ⟨k - 1, by omega⟩
    refine ⟨k, by omega, ?_⟩
    simp only [pantileref03_Cell.l1]
    obtain rfl : j = m := by omega
    rw [if_neg (by omega)]
  | succ d ih =>
    intro k j hj hk
    obtain ⟨k, rfl⟩ : ∃ m, k = m + 1 := ⟨k - 1, by omega⟩
    obtain ⟨k', hk', he⟩ := ih k (j + 1) (by omega) (by omega)
    refine ⟨k', by omega, ?_⟩
    rw [← he]
    simp only [pantileref03_Cell.l1]
    have hp1 : 2 ^ (j + 1) ≤ 2 ^ m := Nat.pow_le_pow_right (by decide) (by omega)
    have hp0 := Nat.two_pow_pos j
    have hp2 : 2 ^ (j + 1) = 2 * 2 ^ j := by rw [Nat.pow_succ, Nat.mul_comm]
    have hs := shl_nat 1 j (by omega) (by omega)
    rw [Nat.one_mul, show ((1 : Nat) : Int) = 1 from rfl] at hs
    rw [if_pos (by omega), if_pos (by omega), hs, wrap64_id (n := (j : Int) + 1) (by omega) (by omega), hp2]
    rw [hp2] at hp1
    generalize 2 ^ j = P at hp0 hp1
    generalize 2 ^ m = Q at hx hp1
    rw [wrapu_id (by omega) (by omega), show ((x + (P - 1) : Nat) : Int) + (P : Int) = ((x + (2 * P - 1) : Nat) : Int) from by omega]
    rfl

theorem rCell_loop {p : List Int} (hp : U p) (h40 : p.length ≤ 40) {a : Int} (ha : -1 ≤ a ∧ a ≤ 63) (d : Nat) : ∀ (k i : Nat), i + d = p.length → d * 70 < k →
    pantileref03_Cell.l0 k p a (i : Int) (cutL p (a + 1).toNat) (mkL i (fun i => chi (nt p i) (a + 1).toNat)) = some (cutL p (a + 1).toNat, cellHi p (a + 1).toNat) := by
  induction d with
  | zero =>
    intro k i hi hk
    obtain ⟨k, rfl⟩ : ∃ m, k = m + 1 := ⟨k - 1, by omega⟩
    simp only [pantileref03_Cell.l0]
    obtain rfl : i = p.length := by omega
    rw [if_neg (by omega)]
    rfl
  | succ d ih =>
    intro k i hi hk
    obtain ⟨k, rfl⟩ : ∃ m, k = m + 1 := ⟨k - 1, by omega⟩
    simp only [pantileref03_Cell.l0]
    have hcl := cutL_length p (a + 1).toNat
    have hlt := chi_lt (nt_lt' hp i) (m := (a + 1).toNat) (by omega)
    rw [if_pos (by omega), if_pos (by omega), if_pos (by omega), rd_nt (cutL_U hp _), nt_cutL]
    obtain ⟨k', hk', he⟩ := rCell_bits (p := p) a (a + 1).toNat (by omega) (by omega) i (cutv (nt p i) (a + 1).toNat) hlt (cutL p (a + 1).toNat) (mkL i (fun i => chi (nt p i) (a + 1).toNat)) (a + 1).toNat k 0 (by omega) (by omega)
    rw [Nat.pow_zero, Nat.sub_self, Nat.add_zero] at he
    rw [show (0 : Int) = ((0 : Nat) : Int) from rfl, he, if_pos (by rw [mkL_length]; omega), wrap64_id (by omega) (by omega)]
    have := ih k' (i + 1) (by omega) (by omega)
    rw [mkL_succ] at this
    exact this

theorem rCell_ok {p : List Int} (hp : U p) (h40 : p.length ≤ 40) {a : Int} (ha : -1 ≤ a ∧ a ≤ 63) {k : Nat} (hk : 3000 ≤ k) :
    pantileref03_Cell.f k p a = some (cutL p (a + 1).toNat, cellHi p (a + 1).toNat) := by
  unfold pantileref03_Cell.f
  rw [rCut_ok hp h40 ha hk]
  simp only [Option.bind_some]
  exact rCell_loop hp h40 ha p.length k 0 (by omega) (by omega)

end Go.Proofs.Ythdphjbecibeaaa.FCoverCells
