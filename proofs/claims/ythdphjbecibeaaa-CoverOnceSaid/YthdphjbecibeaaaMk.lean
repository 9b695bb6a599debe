/- Plain facts about masks: which addresses are left; no condition. -/
import Derived.Test.YthdphjbecibeaaaMm
namespace Go.Proofs.YthdphjbecibeaaaMz
set_option linter.unusedVariables false
set_option linter.unusedSimpArgs false

/-- the bits of a that b hasn't -/
def andn (a b : Nat) : Nat := a &&& (18446744073709551615 - b)

theorem inv_testBit (b i : Nat) (hb : b < 18446744073709551616) : (18446744073709551615 - b).testBit i = (decide (i < 64) && !b.testBit i) := by
  have := Nat.testBit_two_pow_sub_succ (x := b) (n := 64) hb i
  rw [← this]
  congr 1
  omega

theorem andn_zero {a b : Nat} (ha : a < 18446744073709551616) (hb : b < 18446744073709551616) : andn a b = 0 ↔ ∀ i, a.testBit i = true → b.testBit i = true := by
  unfold andn
  constructor
  · intro h i hi
    have h1 : (a &&& (18446744073709551615 - b)).testBit i = false := by rw [h]; simp
    rw [Nat.testBit_and, inv_testBit _ _ hb, hi] at h1
    have h64 : i < 64 := by
      rcases Nat.lt_or_ge i 64 with h2 | h2
      · exact h2
      · have : a.testBit i = false := Nat.testBit_lt_two_pow (Nat.lt_of_lt_of_le ha (Nat.pow_le_pow_right (n := 2) (by decide) h2))
        rw [this] at hi
        simp at hi
    simpa [h64] using h1
  · intro h
    apply Nat.eq_of_testBit_eq
    intro i
    rw [Nat.testBit_and, inv_testBit _ _ hb]
    by_cases hi : a.testBit i = true
    · rw [h i hi]
      simp
    · simp [hi]

theorem and_self_iff {a b : Nat} : a &&& b = b ↔ ∀ i, b.testBit i = true → a.testBit i = true := by
  constructor
  · intro h i hi
    have h1 : (a &&& b).testBit i = true := by rw [h]; exact hi
    rw [Nat.testBit_and, Bool.and_eq_true] at h1
    exact h1.1
  · intro h
    apply Nat.eq_of_testBit_eq
    intro i
    rw [Nat.testBit_and]
    by_cases hi : b.testBit i = true
    · rw [hi, h i hi]; rfl
    · simp [hi]

theorem tb1 (x i : Nat) : x.testBit i = true ↔ bt1 x i = 1 := by
  rw [bt1_testBit, decide_eq_true_eq]

theorem bt1_high {x k i : Nat} (hx : x < 2 ^ k) (hi : k ≤ i) : bt1 x i = 0 := by
  have h : x.testBit i = false := Nat.testBit_lt_two_pow (Nat.lt_of_lt_of_le hx (Nat.pow_le_pow_right (by decide) hi))
  rw [bt1_testBit, decide_eq_false_iff_not] at h
  have := bt1_lt x i
  omega

/-- is an address left of a mask? -/
def hasN (k low high addr : Nat) : Prop := ∀ i, i < k → (bt1 low i = 1 → bt1 addr i = 1) ∧ (bt1 addr i = 1 → bt1 high i = 1)

instance (k low high addr : Nat) : Decidable (hasN k low high addr) := inferInstanceAs (Decidable (∀ i, i < k → (bt1 low i = 1 → bt1 addr i = 1) ∧ (bt1 addr i = 1 → bt1 high i = 1)))

/-- is none left? -/
def noneN (k low high : Nat) : Prop := ∃ i, i < k ∧ bt1 low i = 1 ∧ bt1 high i = 0

theorem none_andn {k low high : Nat} (h64 : k ≤ 64) (hl : low < 2 ^ k) (hh : high < 2 ^ k) : andn low high = 0 ↔ ¬ noneN k low high := by
  have hp : 2 ^ k ≤ 2 ^ 64 := Nat.pow_le_pow_right (by decide) h64
  rw [andn_zero (by omega) (by omega)]
  constructor
  · intro h ⟨i, hi, h1, h2⟩
    have := (tb1 _ _).1 (h i ((tb1 _ _).2 h1))
    omega
  · intro h i hi
    have h1 := (tb1 _ _).1 hi
    rcases Nat.lt_or_ge i k with h2 | h2
    · have h3 := bt1_lt high i
      rcases (by omega : bt1 high i = 0 ∨ bt1 high i = 1) with h4 | h4
      · exact absurd ⟨i, h2, h1, h4⟩ h
      · exact (tb1 _ _).2 h4
    · have := bt1_high hl h2
      omega

theorem has_not_none {k low high addr : Nat} (h : hasN k low high addr) : ¬ noneN k low high := by
  intro ⟨i, hi, h1, h2⟩
  have := h i hi
  have := this.2 (this.1 h1)
  omega

theorem has_iff {k low high addr : Nat} (h64 : k ≤ 64) (hl : low < 2 ^ k) (hh : high < 2 ^ k) (ha : addr < 2 ^ k) : hasN k low high addr ↔ (addr &&& low = low ∧ andn addr high = 0) := by
  have hp : 2 ^ k ≤ 2 ^ 64 := Nat.pow_le_pow_right (by decide) h64
  rw [and_self_iff, andn_zero (by omega) (by omega)]
  constructor
  · intro h
    refine ⟨fun i hi => ?_, fun i hi => ?_⟩
    · have h1 := (tb1 _ _).1 hi
      rcases Nat.lt_or_ge i k with h2 | h2
      · exact (tb1 _ _).2 ((h i h2).1 h1)
      · have := bt1_high hl h2
        omega
    · have h1 := (tb1 _ _).1 hi
      rcases Nat.lt_or_ge i k with h2 | h2
      · exact (tb1 _ _).2 ((h i h2).2 h1)
      · have := bt1_high ha h2
        omega
  · intro ⟨h1, h2⟩ i hi
    exact ⟨fun h3 => (tb1 _ _).1 (h1 i ((tb1 _ _).2 h3)), fun h3 => (tb1 _ _).1 (h2 i ((tb1 _ _).2 h3))⟩

/-- the bits of the masks of a point and a box -/
theorem bt1_double (x b j : Nat) (hb : b < 2) : bt1 (2 * x + b) j = if j = 0 then b else bt1 x (j - 1) := by
  by_cases h : j = 0
  · subst h
    rw [if_pos rfl]
    unfold bt1
    rw [Nat.pow_zero, Nat.div_one]
    omega
  · rw [if_neg h]
    obtain ⟨i, rfl⟩ : ∃ i, j = i + 1 := ⟨j - 1, by omega⟩
    unfold bt1
    have e : (2 * x + b) / 2 = x := by omega
    rw [Nat.add_sub_cancel, Nat.pow_succ, Nat.mul_comm (2 ^ i) 2, ← Nat.div_div_eq_div_mul, e]

theorem mlow_bit (f lo hi : Nat → Nat) (m n : Nat) : ∀ j, j < n → bt1 (mlow f lo hi m n) j = if lvB (f (n - 1 - j)) m 0 (lo (n - 1 - j)) (hi (n - 1 - j)) = true then 0 else 1 := by
  induction n with
  | zero => intro j hj; omega
  | succ n ih =>
    intro j hj
    rw [mlow_succ, bt1_double _ _ _ (by split <;> omega)]
    by_cases h : j = 0
    · subst h
      rw [if_pos rfl]
      rfl
    · rw [if_neg h, ih (j - 1) (by omega)]
      have e : n - 1 - (j - 1) = n + 1 - 1 - j := by omega
      rw [e]

theorem mhigh_bit (f lo hi : Nat → Nat) (m n : Nat) : ∀ j, j < n → bt1 (mhigh f lo hi m n) j = if lvB (f (n - 1 - j)) m 1 (lo (n - 1 - j)) (hi (n - 1 - j)) = true then 1 else 0 := by
  induction n with
  | zero => intro j hj; omega
  | succ n ih =>
    intro j hj
    rw [mhigh_succ, bt1_double _ _ _ (by split <;> omega)]
    by_cases h : j = 0
    · subst h
      rw [if_pos rfl]
      rfl
    · rw [if_neg h, ih (j - 1) (by omega)]
      have e : n - 1 - (j - 1) = n + 1 - 1 - j := by omega
      rw [e]

/-- an address is left just if each coordinate leaves the half that the address has for it -/
theorem has_of (f lo hi : Nat → Nat) (m n addr : Nat) : hasN n (mlow f lo hi m n) (mhigh f lo hi m n) addr ↔ ∀ i, i < n → lvB (f i) m (abit n addr i) (lo i) (hi i) = true := by
  constructor
  · intro h i hi'
    have hj := h (n - 1 - i) (by omega)
    rw [mlow_bit _ _ _ _ _ _ (by omega), mhigh_bit _ _ _ _ _ _ (by omega)] at hj
    have e : n - 1 - (n - 1 - i) = i := by omega
    rw [e] at hj
    have ea : abit n addr i = bt1 addr (n - 1 - i) := rfl
    rw [ea]
    have hb := bt1_lt addr (n - 1 - i)
    rcases (by omega : bt1 addr (n - 1 - i) = 0 ∨ bt1 addr (n - 1 - i) = 1) with h0 | h0
    · rw [h0]
      by_cases hv : lvB (f i) m 0 (lo i) (hi i) = true
      · exact hv
      · rw [if_neg hv] at hj
        have := hj.1 rfl
        omega
    · rw [h0]
      by_cases hv : lvB (f i) m 1 (lo i) (hi i) = true
      · exact hv
      · rw [if_neg hv] at hj
        have := hj.2 h0
        omega
  · intro h j hj
    have hi' := h (n - 1 - j) (by omega)
    rw [mlow_bit _ _ _ _ _ _ hj, mhigh_bit _ _ _ _ _ _ hj]
    have ea : abit n addr (n - 1 - j) = bt1 addr j := by
      unfold abit bt1
      have e : n - 1 - (n - 1 - j) = j := by omega
      rw [e]
    rw [ea] at hi'
    have hb := bt1_lt addr j
    refine ⟨fun h1 => ?_, fun h1 => ?_⟩
    · rcases (by omega : bt1 addr j = 0 ∨ bt1 addr j = 1) with h0 | h0
      · rw [h0] at hi'
        rw [if_pos hi'] at h1
        omega
      · exact h0
    · rw [h1] at hi'
      rw [if_pos hi']

/-- of an empty box none is left -/
theorem none_of_empty {f lo hi : Nat → Nat} {m n i : Nat} (hi' : i < n) (h : hi i < lo i) : noneN n (mlow f lo hi m n) (mhigh f lo hi m n) := by
  refine ⟨n - 1 - i, by omega, ?_, ?_⟩
  · rw [mlow_bit _ _ _ _ _ _ (by omega)]
    have e : n - 1 - (n - 1 - i) = i := by omega
    rw [e, if_neg]
    rw [lvB_iff]
    omega
  · rw [mhigh_bit _ _ _ _ _ _ (by omega)]
    have e : n - 1 - (n - 1 - i) = i := by omega
    rw [e, if_neg]
    rw [lvB_iff]
    omega

/-- is a box empty: from the coordinate i on, d of them -/
def emF (lo hi : Nat → Nat) : Nat → Nat → Bool
  | _, 0 => false
  | i, d + 1 => decide (hi i < lo i) || emF lo hi (i + 1) d

theorem emF_iff (lo hi : Nat → Nat) (d : Nat) : ∀ i, emF lo hi i d = true ↔ ∃ j, i ≤ j ∧ j < i + d ∧ hi j < lo j := by
  induction d with
  | zero =>
    intro i
    simp [emF]
    intro j h1 h2
    omega
  | succ d ih =>
    intro i
    unfold emF
    rw [Bool.or_eq_true, decide_eq_true_eq, ih]
    constructor
    · rintro (h | ⟨j, h1, h2, h3⟩)
      · exact ⟨i, Nat.le_refl _, by omega, h⟩
      · exact ⟨j, by omega, by omega, h3⟩
    · intro ⟨j, h1, h2, h3⟩
      rcases Nat.eq_or_lt_of_le h1 with h | h
      · subst h; exact Or.inl h3
      · exact Or.inr ⟨j, h, by omega, h3⟩

/-- has a cell a point in a box: from the coordinate i on, d of them -/
def meF (lo hi c d : Nat → Nat) : Nat → Nat → Bool
  | _, 0 => true
  | i, k + 1 => (decide (c i ≤ hi i) && decide (lo i ≤ d i)) && meF lo hi c d (i + 1) k

theorem meF_iff (lo hi c d : Nat → Nat) (k : Nat) : ∀ i, meF lo hi c d i k = true ↔ ∀ j, i ≤ j → j < i + k → c j ≤ hi j ∧ lo j ≤ d j := by
  induction k with
  | zero =>
    intro i
    simp [meF]
    intro j h1 h2
    omega
  | succ k ih =>
    intro i
    unfold meF
    rw [Bool.and_eq_true, Bool.and_eq_true, decide_eq_true_eq, decide_eq_true_eq, ih]
    constructor
    · intro ⟨h1, h2⟩ j hj hd
      rcases Nat.eq_or_lt_of_le hj with h | h
      · subst h; exact h1
      · exact h2 j h (by omega)
    · intro h
      exact ⟨h i (Nat.le_refl _) (by omega), fun j h1 h2 => h j (by omega) (by omega)⟩

/-- the cell of an address is what the half is, coordinate by coordinate -/
theorem cut_plv (x m b : Nat) : cutv (plv x m b) m = plv x m b := by
  have hp := Nat.two_pow_pos m
  have e : plv x m b = (2 * (x / 2 ^ (m + 1)) + b) * 2 ^ m := by
    unfold plv cutv
    rw [Nat.add_mul, Nat.pow_succ, Nat.mul_comm (2 ^ m) 2, ← Nat.mul_assoc, Nat.mul_comm (x / (2 * 2 ^ m)) 2]
  rw [e]
  unfold cutv
  rw [Nat.mul_div_cancel _ hp]

theorem chi_plv (x m b : Nat) : chi (plv x m b) m = plh x m b := by
  unfold chi plh
  rw [cut_plv]

end Go.Proofs.YthdphjbecibeaaaMz
