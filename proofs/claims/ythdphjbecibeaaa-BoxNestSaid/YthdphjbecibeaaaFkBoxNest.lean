/- The program's Mask: right, None, Has, First, as printed, in plain numbers. -/
import Derived.Test.YthdphjbecibeaaaMk
import Derived.Test.YthdphjbecibeaaaFmBoxNest
namespace Go.Proofs.Ythdphjbecibeaaa.FBoxNest
open Go.RowKit Go.Proofs.Ythdphjbecibeaaa.PBoxNest Go.Proofs.YthdphjbecibeaaaW.PrintWords Go.Proofs.YthdphjbecibeaaaW.PrintLast Go.Proofs.YthdphjbecibeaaaW.PrintMore Go.Proofs.YthdphjbecibeaaaMz
set_option linter.unusedVariables false
set_option linter.unusedSimpArgs false

theorem i64_andNot_zero (x : Int) (b : Nat) (hx : -9223372036854775808 ≤ x ∧ x < 9223372036854775808) (hb : b < 9223372036854775808) :
    Go.bits .andNot .i64 x (b : Int) = 0 ↔ 0 ≤ x ∧ andn x.toNat b = 0 := by
  have e : Go.bits .andNot .i64 x (b : Int) = IntKind.i64.wrap ((BitVec.ofInt 64 x &&& ~~~BitVec.ofInt 64 (b : Int)).toNat : Int) := rfl
  rw [e, BitVec.toNat_and, BitVec.toNat_not, ofInt_u64 b (by omega)]
  have e2 : 2 ^ 64 - 1 - b = 18446744073709551615 - b := by omega
  rw [e2]
  rcases Int.lt_or_le x 0 with h | h
  · have hX : (BitVec.ofInt 64 x).toNat = (18446744073709551616 + x).toNat := by
      rw [BitVec.toNat_ofInt]
      have : x % (((2 : Nat) ^ 64 : Nat) : Int) = 18446744073709551616 + x := by
        have : (((2 : Nat) ^ 64 : Nat) : Int) = 18446744073709551616 := rfl
        rw [this]
        omega
      rw [this]
    rw [hX]
    constructor
    · intro h0
      exfalso
      have hlt : (18446744073709551616 + x).toNat &&& (18446744073709551615 - b) < 18446744073709551616 := Nat.lt_of_le_of_lt Nat.and_le_left (by omega)
      have hR : (18446744073709551616 + x).toNat &&& (18446744073709551615 - b) = 0 := by
        rw [IntKind.wrap_i64] at h0
        omega
      have t : ((18446744073709551616 + x).toNat &&& (18446744073709551615 - b)).testBit 63 = true := by
        rw [Nat.testBit_and, inv_testBit _ _ (by omega)]
        have t1 : (18446744073709551616 + x).toNat.testBit 63 = true := by
          rw [Nat.testBit_eq_decide_div_mod_eq, decide_eq_true_eq]
          omega
        have t2 : b.testBit 63 = false := Nat.testBit_lt_two_pow (by omega)
        rw [t1, t2]
        rfl
      rw [hR] at t
      simp at t
    · intro ⟨h0, _⟩
      omega
  · have hX : (BitVec.ofInt 64 x).toNat = x.toNat := by
      have := ofInt_u64 x.toNat (by omega)
      rwa [Int.toNat_of_nonneg h] at this
    rw [hX]
    have hlt : x.toNat &&& (18446744073709551615 - b) ≤ x.toNat := Nat.and_le_left
    unfold andn
    rw [IntKind.wrap_i64]
    omega

theorem i64_andNot_nat (a b : Nat) (ha : a < 9223372036854775808) (hb : b < 9223372036854775808) : Go.bits .andNot .i64 (a : Int) (b : Int) = ((andn a b : Nat) : Int) := by
  have e : Go.bits .andNot .i64 (a : Int) (b : Int) = IntKind.i64.wrap ((BitVec.ofInt 64 (a : Int) &&& ~~~BitVec.ofInt 64 (b : Int)).toNat : Int) := rfl
  rw [e, BitVec.toNat_and, BitVec.toNat_not, ofInt_u64 a (by omega), ofInt_u64 b (by omega)]
  have e2 : 2 ^ 64 - 1 - b = 18446744073709551615 - b := by omega
  rw [e2]
  have hlt : a &&& (18446744073709551615 - b) ≤ a := Nat.and_le_left
  unfold andn
  rw [IntKind.wrap_i64]
  omega

theorem andn_low (x n : Nat) (hx : x < 18446744073709551616) (hn : n ≤ 63) : andn x (2 ^ n - 1) = 0 ↔ x < 2 ^ n := by
  have hp : 2 ^ n ≤ 2 ^ 63 := Nat.pow_le_pow_right (by decide) hn
  have h0 := Nat.two_pow_pos n
  rw [andn_zero hx (by omega)]
  constructor
  · intro h
    apply Nat.lt_pow_two_of_testBit
    intro i hi
    cases ht : x.testBit i with
    | false => rfl
    | true =>
      have := h i ht
      rw [Nat.testBit_two_pow_sub_one, decide_eq_true_eq] at this
      omega
  · intro h i hi
    rw [Nat.testBit_two_pow_sub_one, decide_eq_true_eq]
    rcases Nat.lt_or_ge i n with h1 | h1
    · exact h1
    · have : x.testBit i = false := Nat.testBit_lt_two_pow (Nat.lt_of_lt_of_le h (Nat.pow_le_pow_right (by decide) h1))
      rw [this] at hi
      simp at hi


end Go.Proofs.Ythdphjbecibeaaa.FBoxNest
