/- The program's and the reference's masks of a point and a box, as printed, in plain numbers. -/
import Derived.Test.YthdphjbecibeaaaMo
import Derived.Test.YthdphjbecibeaaaFbCoverOnce
namespace Go.Proofs.Ythdphjbecibeaaa.FCoverOnce
open Go.RowKit Go.Proofs.Ythdphjbecibeaaa.PCoverOnce Go.Proofs.YthdphjbecibeaaaW.PrintWords Go.Proofs.YthdphjbecibeaaaW.PrintLast Go.Proofs.YthdphjbecibeaaaW.PrintMore Go.Proofs.YthdphjbecibeaaaMz
set_option linter.unusedVariables false
set_option linter.unusedSimpArgs false

theorem check_eq (p l h : List Int) (a least : Int) {k : Nat} (hk : 1 ≤ k) :
    mask_check.f k p a least l h = some (if 1 ≤ p.length ∧ p.length ≤ 16 ∧ l.length = p.length ∧ h.length = p.length then (if a < least ∨ a > 63 then 3 else 0) else 2) := by
  obtain ⟨k, rfl⟩ : ∃ m, k = m + 1 := ⟨k - 1, by omega⟩
  unfold mask_check.f
  rw [zbits_Right_eq]
  simp only [Option.bind_some, mask_check.j0]
  by_cases hr : 1 ≤ p.length ∧ p.length ≤ 16
  · rw [if_pos (by simpa using hr)]
    by_cases h1 : l.length = p.length
    · rw [if_pos (by omega)]
      by_cases h2 : h.length = p.length
      · have hc : 1 ≤ p.length ∧ p.length ≤ 16 ∧ l.length = p.length ∧ h.length = p.length := ⟨hr.1, hr.2, h1, h2⟩
        rw [if_pos hc, if_neg (by simp; omega)]
        by_cases h3 : a < least
        · have h5 : a < least ∨ a > 63 := Or.inl h3
          rw [if_pos h3, if_pos h5]
        · rw [if_neg h3]
          by_cases h4 : a > 63
          · have h5 : a < least ∨ a > 63 := Or.inr h4
            rw [if_pos h4, if_pos h5]
          · have h5 : ¬ (a < least ∨ a > 63) := by omega
            rw [if_neg h4, if_neg h5]
      · have hc : ¬ (1 ≤ p.length ∧ p.length ≤ 16 ∧ l.length = p.length ∧ h.length = p.length) := by omega
        rw [if_neg hc, if_pos (by simp; omega)]
    · have hc : ¬ (1 ≤ p.length ∧ p.length ≤ 16 ∧ l.length = p.length ∧ h.length = p.length) := by omega
      rw [if_neg hc, if_neg (by omega), if_pos trivial]
  · have hc : ¬ (1 ≤ p.length ∧ p.length ≤ 16 ∧ l.length = p.length ∧ h.length = p.length) := by omega
    rw [if_neg hc, if_neg (by simpa using hr), if_pos trivial]
theorem bit_shl (m : Nat) (hm : m < 64) : shl .u64 1 (m : Int) = ((2 ^ m : Nat) : Int) := by
  have h3 : 2 ^ m ≤ 2 ^ 63 := Nat.pow_le_pow_right (by decide) (by omega)
  have hs := shl_nat 1 m (by omega) (by omega)
  rw [Nat.one_mul] at hs
  exact hs

theorem halves_eq (c m : Nat) (hc : c < 18446744073709551616) (hm : m < 64) :
    mask_halves.f (c : Int) (m : Int) = some (((plv c m 0 : Nat) : Int), ((plh c m 0 : Nat) : Int), ((plv c m 1 : Nat) : Int), ((plh c m 1 : Nat) : Int)) := by
  unfold mask_halves.f
  rw [if_pos (by omega), bit_shl m hm]
  have hp := Nat.two_pow_pos m
  have h3 : 2 ^ m ≤ 2 ^ 63 := Nat.pow_le_pow_right (by decide) (by omega)
  have hw : IntKind.u64.wrap (((2 ^ m : Nat) : Int) - 1) = ((2 ^ m - 1 : Nat) : Int) := by
    generalize 2 ^ m = P at hp h3
    rw [wrapu_id (by omega) (by omega)]
    omega
  have h4 : 2 ^ (m + 1) ≤ 2 ^ 64 := Nat.pow_le_pow_right (by decide) (by omega)
  have h5 := Nat.two_pow_pos (m + 1)
  have hl0 : cutv c (m + 1) ≤ c := cutv_le _ _
  have l1 := plv_lt c m 1 64 hc hm (by decide)
  have l0 := plv_lt c m 0 64 hc hm (by decide)
  rw [hw, u64_or_nat _ _ (by omega) (by omega), mask_bits, u64_andNot_nat _ _ hc (by omega)]
  have e : 18446744073709551615 - (2 ^ (m + 1) - 1) = 2 ^ 64 - 2 ^ (m + 1) := by omega
  rw [e, and_mask _ _ hc (by omega), u64_or_nat (cutv c (m + 1)) _ (by omega) (by omega), u64_or_nat (cutv c (m + 1)) (2 ^ m) (by omega) (by omega), plv_one_or, u64_or_nat _ _ l1 (by omega), plv_low]
  have z := plv_low c m 0
  rw [plv_zero] at z
  rw [z]
  unfold plh
  rw [plv_zero]
theorem leaves_eq (c m b lo hi : Nat) : mask_leaves.f ((plv c m b : Nat) : Int) ((plh c m b : Nat) : Int) (lo : Int) (hi : Int) = some (lvB c m b lo hi) := by
  unfold mask_leaves.f lvB
  by_cases h1 : lo ≤ hi
  · rw [if_pos (by omega), decide_eq_true h1]
    by_cases h2 : plv c m b ≤ hi
    · rw [if_pos (by omega), decide_eq_true h2]
      simp only [Bool.true_and]
      congr 1
      apply decide_eq_decide.2
      omega
    · rw [if_neg (by omega), decide_eq_false h2]
      rfl
  · rw [if_neg (by omega), decide_eq_false h1]
    rfl
theorem or_one (x : Nat) (hx : x < 4611686018427387904) : Go.bits .or .i64 (wrap64 ((x : Int) * 2)) 1 = ((2 * x + 1 : Nat) : Int) := by
  have e : wrap64 ((x : Int) * 2) = ((2 * x : Nat) : Int) := by rw [wrap64_id (by omega) (by omega)]; omega
  have := i64_or_nat (2 * x) 1 (by omega) (by omega)
  rw [show ((1 : Nat) : Int) = 1 from rfl] at this
  rw [e, this, or_bit _ _ (by decide)]

theorem Of_loop {p l h : List Int} (hp : U p) (hl : U l) (hh : U h) (h1 : l.length = p.length) (h2 : h.length = p.length) (h16 : p.length ≤ 16) (m : Nat) (hm : m < 64) (K : Int) (d : Nat) : ∀ (k i : Nat), i + d = p.length → d < k →
    mask_Of.l0 k (m : Int) p (p.length : Int) (i : Int) l h K ((mlow (nt p) (nt l) (nt h) m i : Nat) : Int) ((mhigh (nt p) (nt l) (nt h) m i : Nat) : Int) = some (K, ((mlow (nt p) (nt l) (nt h) m p.length : Nat) : Int), ((mhigh (nt p) (nt l) (nt h) m p.length : Nat) : Int), 0) := by
  induction d with
  | zero =>
    intro k i hi hk
    obtain ⟨k, rfl⟩ : ∃ m, k = m + 1 := ⟨k - 1, by omega⟩
    simp only [mask_Of.l0]
    obtain rfl : i = p.length := by omega
    rw [if_neg (by omega)]
  | succ d ih =>
    intro k i hi hk
    obtain ⟨k, rfl⟩ : ∃ m, k = m + 1 := ⟨k - 1, by omega⟩
    simp only [mask_Of.l0]
    have b1 := mlow_lt (nt p) (nt l) (nt h) m i
    have b2 := mhigh_lt (nt p) (nt l) (nt h) m i
    have h3 : 2 ^ i ≤ 2 ^ 16 := Nat.pow_le_pow_right (by decide) (by omega)
    rw [if_pos (by omega), if_pos (by omega), if_pos (by omega), rd_nt hp, halves_eq _ _ (nt_lt hp i) hm]
    simp only [Option.bind_some]
    rw [if_pos (by omega), if_pos (by omega), rd_nt hl, rd_nt hh, leaves_eq, leaves_eq]
    simp only [Option.bind_some]
    have e0 : ∀ x : Nat, x < 2 ^ 16 → wrap64 ((x : Int) * 2) = ((2 * x + 0 : Nat) : Int) := fun x hx => by rw [wrap64_id (by omega) (by omega)]; omega
    have := ih k (i + 1) (by omega) (by omega)
    rw [mlow_succ, mhigh_succ] at this
    rw [or_one _ (by omega), or_one _ (by omega), e0 _ (by omega), e0 _ (by omega), wrap64_id (n := (i : Int) + 1) (by omega) (by omega)]
    cases hv0 : lvB (nt p i) m 0 (nt l i) (nt h i) <;> cases hv1 : lvB (nt p i) m 1 (nt l i) (nt h i) <;> (rw [hv0, hv1] at this; exact this)

theorem Of_ok {p l h : List Int} (hp : U p) (hl : U l) (hh : U h) (hr : 1 ≤ p.length ∧ p.length ≤ 16 ∧ l.length = p.length ∧ h.length = p.length) {a : Int} (ha : 0 ≤ a ∧ a ≤ 63) {k : Nat} (hk : 50 ≤ k) :
    mask_Of.f k p a l h = some ((p.length : Int), ((mlow (nt p) (nt l) (nt h) a.toNat p.length : Nat) : Int), ((mhigh (nt p) (nt l) (nt h) a.toNat p.length : Nat) : Int), 0) := by
  unfold mask_Of.f
  rw [check_eq _ _ _ _ _ (by omega), if_pos hr, if_neg (by omega)]
  simp only [Option.bind_some, if_true]
  have := Of_loop hp hl hh hr.2.2.1 hr.2.2.2 hr.2.1 a.toNat (by omega) (p.length : Int) p.length k 0 (by omega) (by omega)
  rw [Int.toNat_of_nonneg ha.1] at this
  exact this

theorem Of_arg {p l h : List Int} (hr : 1 ≤ p.length ∧ p.length ≤ 16 ∧ l.length = p.length ∧ h.length = p.length) {a : Int} (ha : ¬ (0 ≤ a ∧ a ≤ 63)) {k : Nat} (hk : 1 ≤ k) :
    mask_Of.f k p a l h = some (0, 0, 0, 3) := by
  unfold mask_Of.f
  rw [check_eq _ _ _ _ _ (by omega), if_pos hr, if_pos (by omega)]
  simp only [Option.bind_some]
  rw [if_neg (by decide)]

theorem Of_dim {p l h : List Int} (hr : ¬ (1 ≤ p.length ∧ p.length ≤ 16 ∧ l.length = p.length ∧ h.length = p.length)) {a : Int} {k : Nat} (hk : 1 ≤ k) :
    mask_Of.f k p a l h = some (0, 0, 0, 2) := by
  unfold mask_Of.f
  rw [check_eq _ _ _ _ _ (by omega), if_neg hr]
  simp only [Option.bind_some]
  rw [if_neg (by decide)]
theorem mask_low (m : Nat) (hm : m ≤ 64) : IntKind.u64.wrap (shl .u64 1 (m : Int) - 1) = ((2 ^ m - 1 : Nat) : Int) := by
  by_cases h : m = 64
  · subst h
    rfl
  · have h3 : 2 ^ m ≤ 2 ^ 63 := Nat.pow_le_pow_right (by decide) (by omega)
    have hs := shl_nat 1 m hm (by omega)
    rw [show ((1 : Nat) : Int) = 1 from rfl] at hs
    rw [hs, Nat.one_mul]
    have hp := Nat.two_pow_pos m
    generalize 2 ^ m = P at h3 hp
    rw [wrapu_id (by omega) (by omega)]
    omega

theorem Whole_loop {p l h : List Int} (hp : U p) (hl : U l) (hh : U h) (h1 : l.length = p.length) (h2 : h.length = p.length) (h16 : p.length ≤ 16) (m : Nat) (hm : m ≤ 64) (d : Nat) : ∀ (k i : Nat), i + d = p.length → d < k →
    mask_Whole.l0 k ((2 ^ m - 1 : Nat) : Int) p (p.length : Int) (i : Int) l h = some (whF (nt l) (nt h) (nt p) m i d, 0) := by
  induction d with
  | zero =>
    intro k i hi hk
    obtain ⟨k, rfl⟩ : ∃ m, k = m + 1 := ⟨k - 1, by omega⟩
    simp only [mask_Whole.l0]
    rw [if_neg (by omega)]
    rfl
  | succ d ih =>
    intro k i hi hk
    obtain ⟨k, rfl⟩ : ∃ m, k = m + 1 := ⟨k - 1, by omega⟩
    simp only [mask_Whole.l0]
    have hx := nt_lt hp i
    have h4 : 2 ^ m ≤ 2 ^ 64 := Nat.pow_le_pow_right (by decide) hm
    have h5 := Nat.two_pow_pos m
    have hcl := cutv_le (nt p i) m
    have e1 : Go.bits .andNot .u64 ((nt p i : Nat) : Int) ((2 ^ m - 1 : Nat) : Int) = ((cutv (nt p i) m : Nat) : Int) := by
      rw [u64_andNot_nat _ _ hx (by omega)]
      have e : 18446744073709551615 - (2 ^ m - 1) = 2 ^ 64 - 2 ^ m := by omega
      rw [e, and_mask _ _ hx hm]
    have e2 : Go.bits .or .u64 ((nt p i : Nat) : Int) ((2 ^ m - 1 : Nat) : Int) = ((chi (nt p i) m : Nat) : Int) := by
      rw [u64_or_nat _ _ hx (by omega)]
      congr 1
      unfold chi
      have hd := Nat.div_add_mod (nt p i) (2 ^ m)
      have hml := Nat.mod_lt (nt p i) h5
      have o1 : nt p i = 2 ^ m * (nt p i / 2 ^ m) ||| (nt p i % 2 ^ m) := by
        rw [← Nat.two_pow_add_eq_or_of_lt hml]
        exact hd.symm
      have o2 : (nt p i % 2 ^ m) ||| (2 ^ m - 1) = 2 ^ m - 1 := by
        apply Nat.eq_of_testBit_eq
        intro j
        rw [Nat.testBit_or, Nat.testBit_two_pow_sub_one]
        by_cases hj : j < m
        · simp [hj]
        · rw [Nat.testBit_lt_two_pow (Nat.lt_of_lt_of_le hml (Nat.pow_le_pow_right (by decide) (by omega)))]
          simp
      rw [o1, Nat.or_assoc, ← o1, o2]
      unfold cutv
      rw [Nat.mul_comm (nt p i / 2 ^ m)]
      exact (Nat.two_pow_add_eq_or_of_lt (by omega) _).symm
    rw [if_pos (by omega), if_pos (by omega), if_pos (by omega), if_pos (by omega), rd_nt hl, rd_nt hp, rd_nt hh, e1, e2]
    unfold whF
    by_cases c1 : ((cutv (nt p i) m : Nat) : Int) < (nt l i : Int)
    · rw [if_pos c1, decide_eq_false (by omega)]
      simp
    · rw [if_neg c1, if_pos (by omega), decide_eq_true (by omega : nt l i ≤ cutv (nt p i) m)]
      by_cases c2 : ((chi (nt p i) m : Nat) : Int) > (nt h i : Int)
      · rw [if_pos c2, decide_eq_false (by omega)]
        simp
      · rw [if_neg c2, decide_eq_true (by omega : chi (nt p i) m ≤ nt h i), wrap64_id (by omega) (by omega)]
        simp only [Bool.and_self, Bool.true_and]
        exact ih k (i + 1) (by omega) (by omega)

theorem Whole_ok {p l h : List Int} (hp : U p) (hl : U l) (hh : U h) (hr : 1 ≤ p.length ∧ p.length ≤ 16 ∧ l.length = p.length ∧ h.length = p.length) {a : Int} (ha : -1 ≤ a ∧ a ≤ 63) {k : Nat} (hk : 50 ≤ k) :
    mask_Whole.f k p a l h = some (whF (nt l) (nt h) (nt p) (a + 1).toNat 0 p.length, 0) := by
  unfold mask_Whole.f
  rw [check_eq _ _ _ _ _ (by omega), if_pos hr, if_neg (by omega)]
  simp only [Option.bind_some, if_true]
  rw [wrap64_id (by omega) (by omega), if_pos (by omega)]
  have hlow := mask_low (a + 1).toNat (by omega)
  rw [Int.toNat_of_nonneg (by omega)] at hlow
  rw [hlow]
  exact Whole_loop hp hl hh hr.2.2.1 hr.2.2.2 hr.2.1 _ (by omega) p.length k 0 (by omega) (by omega)

theorem Whole_arg {p l h : List Int} (hr : 1 ≤ p.length ∧ p.length ≤ 16 ∧ l.length = p.length ∧ h.length = p.length) {a : Int} (ha : ¬ (-1 ≤ a ∧ a ≤ 63)) {k : Nat} (hk : 1 ≤ k) :
    mask_Whole.f k p a l h = some (false, 3) := by
  unfold mask_Whole.f
  rw [check_eq _ _ _ _ _ (by omega), if_pos hr, if_pos (by omega)]
  simp only [Option.bind_some]
  rw [if_neg (by decide)]

theorem Whole_dim {p l h : List Int} (hr : ¬ (1 ≤ p.length ∧ p.length ≤ 16 ∧ l.length = p.length ∧ h.length = p.length)) {a : Int} {k : Nat} (hk : 1 ≤ k) :
    mask_Whole.f k p a l h = some (false, 2) := by
  unfold mask_Whole.f
  rw [check_eq _ _ _ _ _ (by omega), if_neg hr]
  simp only [Option.bind_some]
  rw [if_neg (by decide)]

end Go.Proofs.Ythdphjbecibeaaa.FCoverOnce
