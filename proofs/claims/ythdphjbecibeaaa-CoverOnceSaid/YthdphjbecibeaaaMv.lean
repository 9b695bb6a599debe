/- Plain facts about the number of points in a box, cut off at 2^64 - 1; no condition. -/
import Derived.Test.YthdphjbecibeaaaMk
namespace Go.Proofs.YthdphjbecibeaaaMz
set_option linter.unusedVariables false
set_option linter.unusedSimpArgs false

/-- how many points a box has: from the coordinate i on, d of them -/
def prodF (lo hi : Nat → Nat) : Nat → Nat → Nat
  | _, 0 => 1
  | i, d + 1 => (hi i - lo i + 1) * prodF lo hi (i + 1) d

theorem prodF_pos (lo hi : Nat → Nat) (d : Nat) : ∀ i, 1 ≤ prodF lo hi i d := by
  induction d with
  | zero => intro i; exact Nat.le_refl _
  | succ d ih =>
    intro i
    exact Nat.mul_le_mul (Nat.le_add_left 1 _) (ih (i + 1))

def vol (lo hi : Nat → Nat) (i d x : Nat) : Nat := min (x * prodF lo hi i d) 18446744073709551615

theorem vol_zero (lo hi : Nat → Nat) (i x : Nat) (hx : x < 18446744073709551616) : vol lo hi i 0 x = x := by
  unfold vol prodF
  omega

theorem vol_succ (lo hi : Nat → Nat) (i d x : Nat) : vol lo hi i (d + 1) x = vol lo hi (i + 1) d (x * (hi i - lo i + 1)) := by
  unfold vol
  rw [prodF, Nat.mul_assoc]

theorem vol_full (lo hi : Nat → Nat) (i d x : Nat) (hx : 18446744073709551616 ≤ x) : vol lo hi i d x = 18446744073709551615 := by
  unfold vol
  have h1 : x * 1 ≤ x * prodF lo hi i d := Nat.mul_le_mul (Nat.le_refl _) (prodF_pos lo hi d i)
  omega

theorem prodF_mono {lo hi lo' hi' : Nat → Nat} (d : Nat) : ∀ i, (∀ j, i ≤ j → j < i + d → hi j - lo j ≤ hi' j - lo' j) → prodF lo hi i d ≤ prodF lo' hi' i d := by
  induction d with
  | zero => intro i _; exact Nat.le_refl _
  | succ d ih =>
    intro i h
    exact Nat.mul_le_mul (Nat.add_le_add_right (h i (Nat.le_refl _) (by omega)) 1) (ih (i + 1) fun j h1 h2 => h j (by omega) (by omega))

theorem vol_mono {lo hi lo' hi' : Nat → Nat} {i d x : Nat} (h : ∀ j, i ≤ j → j < i + d → hi j - lo j ≤ hi' j - lo' j) : vol lo hi i d x ≤ vol lo' hi' i d x := by
  unfold vol
  have := Nat.mul_le_mul (Nat.le_refl x) (prodF_mono d i h)
  omega

/-- a box whose sides are all 2^m -/
theorem prodF_cell {lo hi : Nat → Nat} {m : Nat} (d : Nat) : ∀ i, (∀ j, i ≤ j → j < i + d → hi j = lo j + (2 ^ m - 1)) → prodF lo hi i d = 2 ^ (m * d) := by
  induction d with
  | zero => intro i _; rfl
  | succ d ih =>
    intro i h
    have hp := Nat.two_pow_pos m
    have h0 := h i (Nat.le_refl _) (by omega)
    rw [prodF, ih (i + 1) fun j h1 h2 => h j (by omega) (by omega), h0, Nat.mul_succ, Nat.pow_add, Nat.mul_comm]
    congr 1
    omega

/-- twice, cut off -/
def dbl (v : Nat) : Nat := if v > 9223372036854775807 then 18446744073709551615 else 2 * v

theorem dbl_min (P : Nat) : dbl (min P 18446744073709551615) = min (2 * P) 18446744073709551615 := by
  unfold dbl
  split <;> omega

def dblN (v : Nat) : Nat → Nat
  | 0 => v
  | n + 1 => dblN (dbl v) n

theorem dblN_min (n : Nat) : ∀ P, dblN (min P 18446744073709551615) n = min (2 ^ n * P) 18446744073709551615 := by
  induction n with
  | zero => intro P; rw [Nat.pow_zero, Nat.one_mul]; rfl
  | succ n ih =>
    intro P
    rw [dblN, dbl_min, ih, ← Nat.mul_assoc, ← Nat.pow_succ]

theorem dblN_add (v a b : Nat) : dblN (dblN v a) b = dblN v (a + b) := by
  induction a generalizing v with
  | zero => rw [Nat.zero_add]; rfl
  | succ a ih => rw [dblN, ih, Nat.succ_add]; rfl

theorem mul_split (x1 x0 y1 y0 K : Nat) : (x1 * K + x0) * (y1 * K + y0) = x1 * y1 * (K * K) + x1 * y0 * K + (x0 * y1 * K + x0 * y0) := by
  rw [Nat.add_mul, Nat.mul_add, Nat.mul_add, Nat.mul_mul_mul_comm x1 K y1 K, Nat.mul_right_comm x1 K y0, ← Nat.mul_assoc x0 y1 K]

end Go.Proofs.YthdphjbecibeaaaMz
