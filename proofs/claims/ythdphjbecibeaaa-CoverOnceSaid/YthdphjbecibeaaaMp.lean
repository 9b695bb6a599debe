/- Plain facts about a point cut at a level with an address there; no condition. -/
import Derived.Test.YthdphjbecibeaaaMc
namespace Go.Proofs.YthdphjbecibeaaaMz
set_option linter.unusedVariables false
set_option linter.unusedSimpArgs false

theorem mod_succ (x j : Nat) : x % 2 ^ (j + 1) = x % 2 ^ j + bt1 x j * 2 ^ j := by
  unfold bt1
  rw [Nat.mod_pow_succ, Nat.mul_comm]

theorem cutv_step (x m j : Nat) (h : m ≤ j) : cutv (x % 2 ^ (j + 1)) m = cutv (x % 2 ^ j) m + bt1 x j * 2 ^ j := by
  rw [mod_succ]
  unfold cutv
  have e : bt1 x j * 2 ^ j = (bt1 x j * 2 ^ (j - m)) * 2 ^ m := by
    rw [Nat.mul_assoc, ← Nat.pow_add, Nat.sub_add_cancel h]
  rw [e, Nat.add_mul_div_right _ _ (Nat.two_pow_pos m), Nat.add_mul]

theorem cutv_mod_zero (x m : Nat) : cutv (x % 2 ^ m) m = 0 := by
  unfold cutv
  rw [Nat.div_eq_of_lt (Nat.mod_lt _ (Nat.two_pow_pos m)), Nat.zero_mul]

theorem cutv_full (x m : Nat) (hx : x < 2 ^ 64) : cutv (x % 2 ^ 64) m = cutv x m := by rw [Nat.mod_eq_of_lt hx]

theorem cutv_bound (x m M : Nat) (hx : x < 2 ^ M) (hm : m ≤ M) : cutv x m + 2 ^ m ≤ 2 ^ M := by
  unfold cutv
  have e : 2 ^ M = 2 ^ (M - m) * 2 ^ m := by rw [← Nat.pow_add, Nat.sub_add_cancel hm]
  have h1 : x / 2 ^ m < 2 ^ (M - m) := by
    apply (Nat.div_lt_iff_lt_mul (Nat.two_pow_pos m)).2
    rw [← e]; exact hx
  have h2 : (x / 2 ^ m + 1) * 2 ^ m ≤ 2 ^ (M - m) * 2 ^ m := Nat.mul_le_mul_right _ h1
  rw [Nat.add_mul, Nat.one_mul] at h2
  omega

/-- a coordinate cut at the level a, with a bit there -/
def plv (x a b : Nat) : Nat := cutv x (a + 1) + b * 2 ^ a

theorem plv_lt (x a b M : Nat) (hx : x < 2 ^ M) (ha : a < M) (hb : b < 2) : plv x a b < 2 ^ M := by
  have h := cutv_bound x (a + 1) M hx (by omega)
  unfold plv
  rw [Nat.pow_succ] at h
  have hp := Nat.two_pow_pos a
  rcases (by omega : b = 0 ∨ b = 1) with rfl | rfl <;> omega

theorem plv_or (x a b : Nat) (hb : b < 2) : cutv x (a + 1) ||| (b * 2 ^ a) = plv x a b := by
  unfold plv cutv
  have hp := Nat.two_pow_pos a
  have h : b * 2 ^ a < 2 ^ (a + 1) := by
    rw [Nat.pow_succ]
    rcases (by omega : b = 0 ∨ b = 1) with rfl | rfl <;> omega
  rw [Nat.mul_comm (x / 2 ^ (a + 1))]
  exact (Nat.two_pow_add_eq_or_of_lt h _).symm

theorem plv_div (x a b : Nat) (hb : b < 2) : plv x a b / 2 ^ (a + 1) = x / 2 ^ (a + 1) := by
  unfold plv cutv
  have hp := Nat.two_pow_pos a
  have h : b * 2 ^ a < 2 ^ (a + 1) := by
    rw [Nat.pow_succ]
    rcases (by omega : b = 0 ∨ b = 1) with rfl | rfl <;> omega
  rw [Nat.mul_comm (x / 2 ^ (a + 1)), Nat.mul_add_div (Nat.two_pow_pos _), Nat.div_eq_of_lt h, Nat.add_zero]

theorem plv_bt1 (x a b : Nat) (hb : b < 2) : bt1 (plv x a b) a = b := by
  unfold bt1 plv cutv
  have hp := Nat.two_pow_pos a
  have e : x / 2 ^ (a + 1) * 2 ^ (a + 1) = (2 * (x / 2 ^ (a + 1))) * 2 ^ a := by
    rw [Nat.pow_succ]
    rw [Nat.mul_comm (2 ^ a) 2, ← Nat.mul_assoc, Nat.mul_comm (x / (2 * 2 ^ a)) 2]
  rw [e, ← Nat.add_mul, Nat.mul_div_cancel _ hp]
  omega

/-- the bit of an address for the coordinate i of n -/
def abit (n addr i : Nat) : Nat := addr / 2 ^ (n - 1 - i) % 2

theorem abit_lt (n addr i : Nat) : abit n addr i < 2 := Nat.mod_lt _ (by decide)

theorem addr_of_bits {F : Nat → Nat} {a n addr : Nat} (ha : addr < 2 ^ n) (h : ∀ i, i < n → bt1 (F i) a = abit n addr i) : ∀ m, m ≤ n → addrN F a m = addr / 2 ^ (n - m) := by
  intro m
  induction m with
  | zero =>
    intro _
    rw [Nat.sub_zero, Nat.div_eq_of_lt ha]
    rfl
  | succ m ih =>
    intro hm
    rw [addrN_succ, ih (by omega), h m (by omega)]
    unfold abit
    have e : n - m = (n - 1 - m) + 1 := by omega
    rw [show n - (m + 1) = n - 1 - m from by omega, e, Nat.pow_succ, ← Nat.div_div_eq_div_mul]
    omega

theorem addr_place {f F : Nat → Nat} {a n addr : Nat} (ha : addr < 2 ^ n) (h : ∀ i, i < n → F i = plv (f i) a (abit n addr i)) : addrN F a n = addr := by
  rw [addr_of_bits ha (fun i hi => by rw [h i hi, plv_bt1 _ _ _ (abit_lt _ _ _)]) n (Nat.le_refl _)]
  simp

/-- a list of numbers -/
def mkL (n : Nat) (F : Nat → Nat) : List Int := (List.range n).map fun i => ((F i : Nat) : Int)

theorem mkL_length (n : Nat) (F : Nat → Nat) : (mkL n F).length = n := by simp [mkL]

theorem mkL_getD {n : Nat} {F : Nat → Nat} {i : Nat} (h : i < n) : (mkL n F).getD i 0 = ((F i : Nat) : Int) := by
  unfold mkL
  rw [List.getD_eq_getElem?_getD, List.getElem?_map, List.getElem?_range h]
  rfl

theorem mkL_getElem {n : Nat} {F : Nat → Nat} {i : Nat} (h : i < (mkL n F).length) : (mkL n F)[i] = ((F i : Nat) : Int) := by simp [mkL]

theorem mkL_congr {n : Nat} {F G : Nat → Nat} (h : ∀ i, i < n → F i = G i) : mkL n F = mkL n G := by
  unfold mkL
  apply List.map_congr_left
  intro i hi
  rw [h i (List.mem_range.1 hi)]

theorem mkL_succ (n : Nat) (F : Nat → Nat) : mkL (n + 1) F = mkL n F ++ [((F n : Nat) : Int)] := by
  unfold mkL
  rw [List.range_succ, List.map_append]
  rfl

theorem mkL_set {n : Nat} {F : Nat → Nat} (i y : Nat) : (mkL n F).set i ((y : Nat) : Int) = mkL n (fun j => if j = i then y else F j) := by
  apply List.ext_getElem
  · simp [mkL]
  · intro j h1 h2
    rw [List.getElem_set, mkL_getElem, mkL_getElem]
    by_cases h : i = j
    · subst h; simp
    · rw [if_neg h, if_neg (fun (e : j = i) => h e.symm)]

theorem mkL_inj {n : Nat} {F G : Nat → Nat} (h : mkL n F = mkL n G) : ∀ i, i < n → F i = G i := by
  intro i hi
  have := congrArg (fun l => l.getD i 0) h
  simp only [mkL_getD hi] at this
  omega

end Go.Proofs.YthdphjbecibeaaaMz
