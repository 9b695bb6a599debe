/- Plain facts about the halves that a box leaves, and the masks; no condition. -/
import Derived.Test.YthdphjbecibeaaaMb
namespace Go.Proofs.YthdphjbecibeaaaMz
set_option linter.unusedVariables false
set_option linter.unusedSimpArgs false

theorem mask_bits (m : Nat) : 2 ^ m ||| (2 ^ m - 1) = 2 ^ (m + 1) - 1 := by
  have hp := Nat.two_pow_pos m
  have h := Nat.two_pow_add_eq_or_of_lt (i := m) (b := 2 ^ m - 1) (by omega) 1
  rw [Nat.mul_one] at h
  rw [← h, Nat.pow_succ]
  omega

theorem plv_low (x m b : Nat) : plv x m b ||| (2 ^ m - 1) = plv x m b + (2 ^ m - 1) := by
  have hp := Nat.two_pow_pos m
  have e : plv x m b = 2 ^ m * (2 * (x / 2 ^ (m + 1)) + b) := by
    unfold plv cutv
    rw [Nat.mul_add, Nat.mul_comm b, Nat.pow_succ, Nat.mul_comm (x / (2 ^ m * 2))]
    congr 1
    rw [Nat.mul_assoc]
  rw [e]
  exact (Nat.two_pow_add_eq_or_of_lt (by omega) _).symm

theorem plv_zero (x m : Nat) : plv x m 0 = cutv x (m + 1) := by simp [plv]

theorem plv_one_or (x m : Nat) : cutv x (m + 1) ||| 2 ^ m = plv x m 1 := by
  have := plv_or x m 1 (by decide)
  rwa [Nat.one_mul] at this

/-- the last number of a half -/
def plh (x m b : Nat) : Nat := plv x m b + (2 ^ m - 1)

theorem plh_lt (x m b M : Nat) (hx : x < 2 ^ M) (hm : m < M) (hb : b < 2) : plh x m b < 2 ^ M := by
  have h := cutv_bound x (m + 1) M hx (by omega)
  have hp := Nat.two_pow_pos m
  unfold plh plv
  rw [Nat.pow_succ] at h
  rcases (by omega : b = 0 ∨ b = 1) with rfl | rfl <;> omega

/-- does a coordinate leave a half? -/
def lvB (x m b lo hi : Nat) : Bool := decide (lo ≤ hi) && (decide (plv x m b ≤ hi) && decide (lo ≤ plh x m b))

theorem lvB_iff (x m b lo hi : Nat) : lvB x m b lo hi = true ↔ lo ≤ hi ∧ plv x m b ≤ hi ∧ lo ≤ plh x m b := by
  unfold lvB
  rw [Bool.and_eq_true, Bool.and_eq_true, decide_eq_true_eq, decide_eq_true_eq, decide_eq_true_eq]

/-- the masks of the first n coordinates -/
def mlow (f lo hi : Nat → Nat) (m : Nat) : Nat → Nat
  | 0 => 0
  | n + 1 => 2 * mlow f lo hi m n + (if lvB (f n) m 0 (lo n) (hi n) = true then 0 else 1)
def mhigh (f lo hi : Nat → Nat) (m : Nat) : Nat → Nat
  | 0 => 0
  | n + 1 => 2 * mhigh f lo hi m n + (if lvB (f n) m 1 (lo n) (hi n) = true then 1 else 0)

theorem mlow_succ (f lo hi : Nat → Nat) (m n : Nat) : mlow f lo hi m (n + 1) = 2 * mlow f lo hi m n + (if lvB (f n) m 0 (lo n) (hi n) = true then 0 else 1) := rfl
theorem mhigh_succ (f lo hi : Nat → Nat) (m n : Nat) : mhigh f lo hi m (n + 1) = 2 * mhigh f lo hi m n + (if lvB (f n) m 1 (lo n) (hi n) = true then 1 else 0) := rfl

theorem mlow_lt (f lo hi : Nat → Nat) (m n : Nat) : mlow f lo hi m n < 2 ^ n := by
  induction n with
  | zero => simp [mlow]
  | succ n ih => rw [Nat.pow_succ, mlow_succ]; split <;> omega
theorem mhigh_lt (f lo hi : Nat → Nat) (m n : Nat) : mhigh f lo hi m n < 2 ^ n := by
  induction n with
  | zero => simp [mhigh]
  | succ n ih => rw [Nat.pow_succ, mhigh_succ]; split <;> omega

/-- is a whole cell in a box: from the coordinate i on, d of them -/
def whF (lo hi p : Nat → Nat) (m : Nat) : Nat → Nat → Bool
  | _, 0 => true
  | i, d + 1 => (decide (lo i ≤ cutv (p i) m) && decide (chi (p i) m ≤ hi i)) && whF lo hi p m (i + 1) d

theorem whF_iff (lo hi p : Nat → Nat) (m : Nat) (d : Nat) : ∀ i, whF lo hi p m i d = true ↔ ∀ j, i ≤ j → j < i + d → lo j ≤ cutv (p j) m ∧ chi (p j) m ≤ hi j := by
  induction d with
  | zero =>
    intro i
    simp [whF]
    intro j h1 h2
    omega
  | succ d ih =>
    intro i
    unfold whF
    rw [Bool.and_eq_true, Bool.and_eq_true, decide_eq_true_eq, decide_eq_true_eq, ih]
    constructor
    · intro ⟨h1, h2⟩ j hj hd
      rcases Nat.eq_or_lt_of_le hj with h | h
      · subst h; exact h1
      · exact h2 j h (by omega)
    · intro h
      exact ⟨h i (Nat.le_refl _) (by omega), fun j h1 h2 => h j (by omega) (by omega)⟩

theorem chi_ge (x m : Nat) : cutv x m ≤ chi x m := by unfold chi; omega

theorem whole_iff {lo hi p c d : Nat → Nat} {m k : Nat} (hc : ∀ i, i < k → c i = cutv (p i) m) (hd : ∀ i, i < k → d i = chi (p i) m) :
    whF lo hi p m 0 k = (inF lo hi c 0 k && inF lo hi d 0 k) := by
  rw [Bool.eq_iff_iff, Bool.and_eq_true, whF_iff, inF_iff, inF_iff]
  constructor
  · intro h
    refine ⟨fun j h1 h2 => ?_, fun j h1 h2 => ?_⟩
    · have := h j h1 h2
      have g := chi_ge (p j) m
      rw [hc j (by omega)]
      omega
    · have := h j h1 h2
      have g := chi_ge (p j) m
      rw [hd j (by omega)]
      omega
  · intro ⟨h1, h2⟩ j a b
    have x := h1 j a b
    have y := h2 j a b
    rw [hc j (by omega)] at x
    rw [hd j (by omega)] at y
    exact ⟨x.1, y.2⟩

end Go.Proofs.YthdphjbecibeaaaMz
