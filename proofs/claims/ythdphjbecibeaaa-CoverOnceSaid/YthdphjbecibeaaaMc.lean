/- Plain facts about numbers cut at a level; no condition. -/
import Derived.Test.YthdphjbecibeaaaMz
namespace Go.Proofs.YthdphjbecibeaaaMz
set_option linter.unusedVariables false
set_option linter.unusedSimpArgs false

/-- a number without its bits below m -/
def cutv (x m : Nat) : Nat := x / 2 ^ m * 2 ^ m

theorem cutv_le (x m : Nat) : cutv x m ≤ x := Nat.div_mul_le_self x _

theorem cutv_zero (x : Nat) : cutv x 0 = x := by simp [cutv]

theorem cutv_div (x m : Nat) : cutv x m / 2 ^ m = x / 2 ^ m := by
  unfold cutv
  exact Nat.mul_div_cancel _ (Nat.two_pow_pos m)

theorem cutv_testBit (x m l : Nat) : (cutv x m).testBit l = (decide (m ≤ l) && x.testBit l) := by
  unfold cutv
  rw [Nat.mul_comm, Nat.testBit_two_pow_mul, Nat.testBit_div_two_pow]
  by_cases h : m ≤ l
  · simp [h]
  · simp [h]

theorem cutv_bt1 (x m l : Nat) : bt1 (cutv x m) l = if m ≤ l then bt1 x l else 0 := by
  have h1 := cutv_testBit x m l
  rw [bt1_testBit, bt1_testBit] at h1
  have b1 := bt1_lt (cutv x m) l
  have b2 := bt1_lt x l
  by_cases h : m ≤ l
  · rw [if_pos h]
    simp only [h, decide_true, Bool.true_and] at h1
    have := decide_eq_decide.1 h1
    omega
  · rw [if_neg h]
    simp only [h, decide_false, Bool.false_and, decide_eq_false_iff_not] at h1
    omega

theorem cutv_eq_iff (x y m : Nat) : cutv x m = cutv y m ↔ x ^^^ y < 2 ^ m := by
  have h : x ^^^ y < 2 ^ m ↔ x / 2 ^ m = y / 2 ^ m := by
    rw [← Nat.div_eq_zero_iff_lt (Nat.two_pow_pos m), ← Nat.shiftRight_eq_div_pow, Nat.shiftRight_xor_distrib, ← Nat.shiftRight_eq_div_pow, ← Nat.shiftRight_eq_div_pow]
    constructor
    · exact xor_zero
    · intro h
      rw [h]
      exact Nat.xor_self _
  rw [h]
  constructor
  · intro e
    rw [← cutv_div x m, ← cutv_div y m, e]
  · intro e
    unfold cutv
    rw [e]

/-- the mask of the bits from m on keeps just these -/
theorem and_mask (x m : Nat) (hx : x < 2 ^ 64) (hm : m ≤ 64) : x &&& (2 ^ 64 - 2 ^ m) = cutv x m := by
  apply Nat.eq_of_testBit_eq
  intro i
  rw [Nat.testBit_and, cutv_testBit]
  have hp : 2 ^ m ≤ 2 ^ 64 := Nat.pow_le_pow_right (by decide) hm
  have h2 : 2 ^ 64 - 2 ^ m = (2 ^ (64 - m) - 1) * 2 ^ m := by
    rw [Nat.sub_mul, ← Nat.pow_add, Nat.sub_add_cancel hm, Nat.one_mul]
  have h3 : (2 ^ 64 - 2 ^ m).testBit i = (decide (m ≤ i) && decide (i < 64)) := by
    rw [h2, Nat.mul_comm, Nat.testBit_two_pow_mul, Nat.testBit_two_pow_sub_one]
    by_cases h : m ≤ i
    · simp only [h, decide_true, Bool.true_and]
      apply decide_eq_decide.2
      omega
    · simp [h]
  rw [h3]
  by_cases h : i < 64
  · simp [h, Bool.and_comm]
  · rw [Nat.testBit_lt_two_pow (Nat.lt_of_lt_of_le hx (Nat.pow_le_pow_right (by decide) (by omega)))]
    simp

theorem addrN_cut {f f' : Nat → Nat} {n m l : Nat} (h : ∀ i, i < n → f' i = cutv (f i) m) : addrN f' l n = if m ≤ l then addrN f l n else 0 := by
  by_cases hl : m ≤ l
  · rw [if_pos hl]
    apply addrN_congr
    intro i hi
    rw [h i hi, cutv_bt1, if_pos hl]
  · rw [if_neg hl]
    have h0 : addrN (fun _ => 0) l n = 0 := by
      clear h
      induction n with
      | zero => rfl
      | succ n ih =>
        rw [addrN_succ, ih]
        simp [bt1]
    rw [← h0]
    apply addrN_congr
    intro i hi
    rw [h i hi, cutv_bt1, if_neg hl]
    simp [bt1]

theorem partN_cut {f g f' g' : Nat → Nat} {n m : Nat} (hf : ∀ i, i < n → f' i = cutv (f i) m) (hg : ∀ i, i < n → g' i = cutv (g i) m) (M : Nat) (h : (m : Int) ≤ partN f g n M) :
    partN f' g' n M = partN f g n M := by
  induction M with
  | zero => simp [partN] at h; omega
  | succ M ih =>
    unfold partN at h ⊢
    rw [addrN_cut hf, addrN_cut hg]
    by_cases he : addrN f M n = addrN g M n
    · rw [if_pos he] at h ⊢
      rw [he]
      simp only [if_true]
      exact ih h
    · rw [if_neg he] at h ⊢
      have hm : m ≤ M := by omega
      rw [if_pos hm, if_pos hm, if_neg he]

theorem cmpN_cut {f g f' g' : Nat → Nat} {n m : Nat} (hf : ∀ i, i < n → f' i = cutv (f i) m) (hg : ∀ i, i < n → g' i = cutv (g i) m) (M : Nat) (h : (m : Int) ≤ partN f g n M) :
    cmpN f' g' n M = cmpN f g n M := by
  rw [cmpN_part, cmpN_part, partN_cut hf hg M h, addrN_cut hf, addrN_cut hg]
  have hm : m ≤ (partN f g n M).toNat := by omega
  rw [if_pos hm, if_pos hm]

end Go.Proofs.YthdphjbecibeaaaMz
