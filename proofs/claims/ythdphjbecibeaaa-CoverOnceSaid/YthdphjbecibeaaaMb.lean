/- Plain facts about boxes of points: how far, around, cells; no condition. -/
import Derived.Test.YthdphjbecibeaaaMp
namespace Go.Proofs.YthdphjbecibeaaaMz
set_option linter.unusedVariables false
set_option linter.unusedSimpArgs false

/-- the difference of two numbers -/
def gapv (x y : Nat) : Nat := max x y - min x y

/-- the greatest difference of the first n coordinates -/
def farN (f g : Nat → Nat) : Nat → Nat
  | 0 => 0
  | n + 1 => max (farN f g n) (gapv (f n) (g n))

theorem farN_succ (f g : Nat → Nat) (n : Nat) : farN f g (n + 1) = max (farN f g n) (gapv (f n) (g n)) := rfl

theorem farN_le (f g : Nat → Nat) (n m : Nat) : farN f g n ≤ m ↔ ∀ i, i < n → gapv (f i) (g i) ≤ m := by
  induction n with
  | zero => simp [farN]
  | succ n ih =>
    rw [farN_succ, Nat.max_le, ih]
    constructor
    · intro ⟨h1, h2⟩ i hi
      rcases Nat.lt_or_ge i n with h | h
      · exact h1 i h
      · obtain rfl : i = n := by omega
        exact h2
    · intro h
      exact ⟨fun i hi => h i (by omega), h n (by omega)⟩

theorem farN_lt {f g : Nat → Nat} {n M : Nat} (hM : 0 < M) (hf : ∀ i, i < n → f i < M) (hg : ∀ i, i < n → g i < M) : farN f g n < M := by
  have h := (farN_le f g n (M - 1)).2 (fun i hi => by
    have a := hf i hi
    have b := hg i hi
    unfold gapv
    omega)
  omega

/-- is a point between: from the coordinate i on, d of them -/
def inF (lo hi p : Nat → Nat) : Nat → Nat → Bool
  | _, 0 => true
  | i, d + 1 => (decide (lo i ≤ p i) && decide (p i ≤ hi i)) && inF lo hi p (i + 1) d

theorem inF_iff (lo hi p : Nat → Nat) (d : Nat) : ∀ i, inF lo hi p i d = true ↔ ∀ j, i ≤ j → j < i + d → lo j ≤ p j ∧ p j ≤ hi j := by
  induction d with
  | zero =>
    intro i
    simp [inF]
    intro j h1 h2
    omega
  | succ d ih =>
    intro i
    unfold inF
    rw [Bool.and_eq_true, Bool.and_eq_true, decide_eq_true_eq, decide_eq_true_eq, ih]
    constructor
    · intro ⟨h1, h2⟩ j hj hd
      rcases Nat.eq_or_lt_of_le hj with h | h
      · subst h; exact h1
      · exact h2 j h (by omega)
    · intro h
      exact ⟨h i (Nat.le_refl _) (by omega), fun j h1 h2 => h j (by omega) (by omega)⟩

/-- the box around: from x less n to x and n, 2^64 - 1 at most -/
def ahi (x n : Nat) : Nat := min (x + n) 18446744073709551615

theorem around_iff (x y n : Nat) (hy : y < 18446744073709551616) : (x - n ≤ y ∧ y ≤ ahi x n) ↔ gapv x y ≤ n := by
  unfold ahi gapv
  omega

theorem in_around {f g : Nat → Nat} {k n : Nat} {lo hi : Nat → Nat} (hg : ∀ i, i < k → g i < 18446744073709551616) (hlo : ∀ i, i < k → lo i = f i - n) (hhi : ∀ i, i < k → hi i = ahi (f i) n) :
    inF lo hi g 0 k = decide (farN f g k ≤ n) := by
  rw [Bool.eq_iff_iff, inF_iff, decide_eq_true_eq, farN_le]
  constructor
  · intro h i hi'
    have := h i (Nat.zero_le _) (by omega)
    rw [hlo i hi', hhi i hi'] at this
    exact (around_iff _ _ _ (hg i hi')).1 this
  · intro h i _ hi'
    rw [hlo i (by omega), hhi i (by omega)]
    exact (around_iff _ _ _ (hg i (by omega))).2 (h i (by omega))

/-- the last number of a cell -/
def chi (x m : Nat) : Nat := cutv x m + (2 ^ m - 1)

theorem chi_or (x m : Nat) : cutv x m ||| (2 ^ m - 1) = chi x m := by
  unfold chi cutv
  have hp := Nat.two_pow_pos m
  rw [Nat.mul_comm]
  exact (Nat.two_pow_add_eq_or_of_lt (by omega) _).symm

theorem chi_lt {x m M : Nat} (hx : x < 2 ^ M) (hm : m ≤ M) : chi x m < 2 ^ M := by
  have := cutv_bound x m M hx hm
  have hp := Nat.two_pow_pos m
  unfold chi
  omega

theorem in_cell1 (x y m : Nat) : (cutv x m ≤ y ∧ y ≤ chi x m) ↔ cutv x m = cutv y m := by
  have hp := Nat.two_pow_pos m
  unfold chi cutv
  constructor
  · intro ⟨h1, h2⟩
    have : y / 2 ^ m = x / 2 ^ m := by
      apply Nat.div_eq_of_lt_le
      · exact h1
      · rw [Nat.add_mul, Nat.one_mul]; omega
    rw [this]
  · intro h
    have h3 := Nat.div_add_mod y (2 ^ m)
    have h4 := Nat.mod_lt y hp
    rw [Nat.mul_comm] at h3
    omega

theorem in_cell {f g : Nat → Nat} {k m : Nat} {lo hi : Nat → Nat} (hlo : ∀ i, i < k → lo i = cutv (f i) m) (hhi : ∀ i, i < k → hi i = chi (f i) m) :
    inF lo hi g 0 k = true ↔ ∀ i, i < k → cutv (f i) m = cutv (g i) m := by
  rw [inF_iff]
  constructor
  · intro h i hi'
    have := h i (Nat.zero_le _) (by omega)
    rw [hlo i hi', hhi i hi'] at this
    exact (in_cell1 _ _ _).1 this
  · intro h i _ hi'
    rw [hlo i (by omega), hhi i (by omega)]
    exact (in_cell1 _ _ _).2 (h i (by omega))

end Go.Proofs.YthdphjbecibeaaaMz
