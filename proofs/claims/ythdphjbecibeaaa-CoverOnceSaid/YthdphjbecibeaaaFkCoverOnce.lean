/- The program's Mask: right, None, Has, First, as printed, in plain numbers. -/
import Derived.Test.YthdphjbecibeaaaMk
import Derived.Test.YthdphjbecibeaaaFmCoverOnce
namespace Go.Proofs.Ythdphjbecibeaaa.FCoverOnce
open Go.RowKit Go.Proofs.Ythdphjbecibeaaa.PCoverOnce Go.Proofs.YthdphjbecibeaaaW.PrintWords Go.Proofs.YthdphjbecibeaaaW.PrintLast Go.Proofs.YthdphjbecibeaaaW.PrintMore Go.Proofs.YthdphjbecibeaaaMz
set_option linter.unusedVariables false
set_option linter.unusedSimpArgs false

theorem i64_andNot_zero (x : Int) (b : Nat) (hx : -9223372036854775808 ≤ x ∧ x < 9223372036854775808) (hb : b < 9223372036854775808) :
    Go.bits .andNot .i64 x (b : Int) = 0 ↔ 0 ≤ x ∧ andn x.toNat b = 0 := by
  have e : Go.bits .andNot .i64 x (b : Int) = IntKind.i64.wrap ((BitVec.ofInt 64 x &&& ~~~BitVec.ofInt 64 (b : Int)).toNat : Int) := rfl
  rw [e, BitVec.toNat_and, BitVec.toNat_not, ofInt_u64 b (by omega)]
  have e2 : 2 ^ 64 - 1 - b = 18446744073709551615 - b := by omega
  rw [e2]
  rcases Int.lt_or_le x 0 with h | h
  · have hX : (BitVec.ofInt 64 x).toNat = (18446744073709551616 + x).toNat := by
      rw [BitVec.toNat_ofInt]
      have : x % (((2 : Nat) ^ 64 : Nat) : Int) = 18446744073709551616 + x := by
        have : (((2 : Nat) ^ 64 : Nat) : Int) = 18446744073709551616 := rfl
        rw [this]
        omega
      rw [this]
    rw [hX]
    constructor
    · intro h0
      exfalso
      have hlt : (18446744073709551616 + x).toNat &&& (18446744073709551615 - b) < 18446744073709551616 := Nat.lt_of_le_of_lt Nat.and_le_left (by omega)
      have hR : (18446744073709551616 + x).toNat &&& (18446744073709551615 - b) = 0 := by
        rw [IntKind.wrap_i64] at h0
        omega
      have t : ((18446744073709551616 + x).toNat &&& (18446744073709551615 - b)).testBit 63 = true := by
        rw [Nat.testBit_and, inv_testBit _ _ (by omega)]
        have t1 : (18446744073709551616 + x).toNat.testBit 63 = true := by
          rw [Nat.testBit_eq_decide_div_mod_eq, decide_eq_true_eq]
          omega
        have t2 : b.testBit 63 = false := Nat.testBit_lt_two_pow (by omega)
        rw [t1, t2]
        rfl
      rw [hR] at t
      simp at t
    · intro ⟨h0, _⟩
      omega
  · have hX : (BitVec.ofInt 64 x).toNat = x.toNat := by
      have := ofInt_u64 x.toNat (by omega)
      rwa [Int.toNat_of_nonneg h] at this
    rw [hX]
    have hlt : x.toNat &&& (18446744073709551615 - b) ≤ x.toNat := Nat.and_le_left
    unfold andn
    rw [IntKind.wrap_i64]
    omega

theorem i64_andNot_nat (a b : Nat) (ha : a < 9223372036854775808) (hb : b < 9223372036854775808) : Go.bits .andNot .i64 (a : Int) (b : Int) = ((andn a b : Nat) : Int) := by
  have e : Go.bits .andNot .i64 (a : Int) (b : Int) = IntKind.i64.wrap ((BitVec.ofInt 64 (a : Int) &&& ~~~BitVec.ofInt 64 (b : Int)).toNat : Int) := rfl
  rw [e, BitVec.toNat_and, BitVec.toNat_not, ofInt_u64 a (by omega), ofInt_u64 b (by omega)]
  have e2 : 2 ^ 64 - 1 - b = 18446744073709551615 - b := by omega
  rw [e2]
  have hlt : a &&& (18446744073709551615 - b) ≤ a := Nat.and_le_left
  unfold andn
  rw [IntKind.wrap_i64]
  omega

theorem andn_low (x n : Nat) (hx : x < 18446744073709551616) (hn : n ≤ 63) : andn x (2 ^ n - 1) = 0 ↔ x < 2 ^ n := by
  have hp : 2 ^ n ≤ 2 ^ 63 := Nat.pow_le_pow_right (by decide) hn
  have h0 := Nat.two_pow_pos n
  rw [andn_zero hx (by omega)]
  constructor
  · intro h
    apply Nat.lt_pow_two_of_testBit
    intro i hi
    cases ht : x.testBit i with
    | false => rfl
    | true =>
      have := h i ht
      rw [Nat.testBit_two_pow_sub_one, decide_eq_true_eq] at this
      omega
  · intro h i hi
    rw [Nat.testBit_two_pow_sub_one, decide_eq_true_eq]
    rcases Nat.lt_or_ge i n with h1 | h1
    · exact h1
    · have : x.testBit i = false := Nat.testBit_lt_two_pow (Nat.lt_of_lt_of_le h (Nat.pow_le_pow_right (by decide) h1))
      rw [this] at hi
      simp at hi

theorem all_eq (n : Nat) (hn : n ≤ 16) (a b : Int) : mask_Mask_all.f (n : Int) a b = some ((2 ^ n - 1 : Nat) : Int) := by
  unfold mask_Mask_all.f
  have hp : 2 ^ n ≤ 2 ^ 16 := Nat.pow_le_pow_right (by decide) hn
  have h0 := Nat.two_pow_pos n
  rw [if_pos (by omega), shl_one n hn, wrap64_id (by omega) (by omega)]
  congr 1
  omega
/-- may a mask be? -/
def rightZ (K low high : Int) : Prop := 1 ≤ K ∧ K ≤ 16 ∧ 0 ≤ low ∧ low.toNat < 2 ^ K.toNat ∧ 0 ≤ high ∧ high.toNat < 2 ^ K.toNat

instance (K low high : Int) : Decidable (rightZ K low high) := inferInstanceAs (Decidable (1 ≤ K ∧ K ≤ 16 ∧ 0 ≤ low ∧ low.toNat < 2 ^ K.toNat ∧ 0 ≤ high ∧ high.toNat < 2 ^ K.toNat))

theorem right_eq (K low high : Int) (hl : -9223372036854775808 ≤ low ∧ low < 9223372036854775808) (hh : -9223372036854775808 ≤ high ∧ high < 9223372036854775808) :
    mask_Mask_right.f K low high = some (decide (rightZ K low high)) := by
  unfold mask_Mask_right.f
  by_cases h1 : K ≥ 1
  · rw [if_pos h1]
    by_cases h2 : K ≤ 16
    · rw [if_pos h2]
      have hall := all_eq K.toNat (by omega) low high
      rw [Int.toNat_of_nonneg (by omega)] at hall
      have hp : 2 ^ K.toNat ≤ 2 ^ 16 := Nat.pow_le_pow_right (by decide) (by omega)
      rw [hall]
      simp only [Option.bind_some]
      have a1 := i64_andNot_zero low (2 ^ K.toNat - 1) hl (by omega)
      have a2 := i64_andNot_zero high (2 ^ K.toNat - 1) hh (by omega)
      by_cases h3 : 0 ≤ low ∧ low.toNat < 2 ^ K.toNat
      · rw [if_pos (a1.2 ⟨h3.1, (andn_low _ _ (by omega) (by omega)).2 h3.2⟩)]
        congr 1
        rw [Bool.eq_iff_iff, beq_iff_eq, decide_eq_true_eq, a2]
        unfold rightZ
        constructor
        · intro ⟨h4, h5⟩
          exact ⟨h1, h2, h3.1, h3.2, h4, (andn_low _ _ (by omega) (by omega)).1 h5⟩
        · intro h4
          exact ⟨h4.2.2.2.2.1, (andn_low _ _ (by omega) (by omega)).2 h4.2.2.2.2.2⟩
      · rw [if_neg]
        · congr 1
          symm
          apply decide_eq_false
          intro h4
          exact h3 ⟨h4.2.2.1, h4.2.2.2.1⟩
        · intro h4
          have h5 := a1.1 h4
          exact h3 ⟨h5.1, (andn_low _ _ (by omega) (by omega)).1 h5.2⟩
    · rw [if_neg h2]
      congr 1
      symm
      apply decide_eq_false
      intro h4
      exact h2 h4.2.1
  · rw [if_neg h1]
    congr 1
    symm
    apply decide_eq_false
    intro h4
    exact h1 h4.1
theorem None_bad {K low high : Int} (hl : -9223372036854775808 ≤ low ∧ low < 9223372036854775808) (hh : -9223372036854775808 ≤ high ∧ high < 9223372036854775808) (h : ¬ rightZ K low high) : mask_Mask_None.f K low high = some true := by
  unfold mask_Mask_None.f
  rw [right_eq K low high hl hh, decide_eq_false h]
  rfl

theorem None_eq {n low high : Nat} (h1 : 1 ≤ n) (hn : n ≤ 16) (hl : low < 2 ^ n) (hh : high < 2 ^ n) : mask_Mask_None.f (n : Int) (low : Int) (high : Int) = some (!decide (andn low high = 0)) := by
  have hp : 2 ^ n ≤ 2 ^ 16 := Nat.pow_le_pow_right (by decide) hn
  unfold mask_Mask_None.f
  have hr : rightZ (n : Int) (low : Int) (high : Int) := ⟨by omega, by omega, by omega, by simpa using hl, by omega, by simpa using hh⟩
  rw [right_eq _ _ _ (by omega) (by omega), decide_eq_true hr]
  simp only [Option.bind_some]
  rw [if_pos trivial, i64_andNot_nat _ _ (by omega) (by omega)]
  congr 1
  by_cases h : andn low high = 0
  · rw [h]; rfl
  · rw [decide_eq_false h]
    simp
    exact h
theorem Has_bad {K low high : Int} (hl : -9223372036854775808 ≤ low ∧ low < 9223372036854775808) (hh : -9223372036854775808 ≤ high ∧ high < 9223372036854775808) (h : ¬ rightZ K low high) (addr : Int) : mask_Mask_Has.f K low high addr = some false := by
  unfold mask_Mask_Has.f
  rw [None_bad hl hh h]
  rfl

theorem Has_eq {n low high : Nat} (h1 : 1 ≤ n) (hn : n ≤ 16) (hl : low < 2 ^ n) (hh : high < 2 ^ n) {addr : Int} (ha : -9223372036854775808 ≤ addr ∧ addr < 9223372036854775808) :
    mask_Mask_Has.f (n : Int) (low : Int) (high : Int) addr = some (decide (0 ≤ addr ∧ addr.toNat < 2 ^ n ∧ hasN n low high addr.toNat)) := by
  have hp : 2 ^ n ≤ 2 ^ 16 := Nat.pow_le_pow_right (by decide) hn
  unfold mask_Mask_Has.f
  rw [None_eq h1 hn hl hh]
  simp only [Option.bind_some]
  by_cases h0 : andn low high = 0
  · rw [decide_eq_true h0, if_neg (by simp), all_eq n hn]
    simp only [Option.bind_some]
    have a1 := i64_andNot_zero addr (2 ^ n - 1) ha (by omega)
    by_cases h2 : 0 ≤ addr ∧ addr.toNat < 2 ^ n
    · rw [if_pos (a1.2 ⟨h2.1, (andn_low _ _ (by omega) (by omega)).2 h2.2⟩)]
      obtain ⟨A, hA⟩ : ∃ A : Nat, addr = (A : Int) := ⟨addr.toNat, by omega⟩
      subst hA
      have hA2 : A < 2 ^ n := by simpa using h2.2
      rw [Int.toNat_natCast, i64_and_nat _ _ (by omega) (by omega), i64_andNot_nat _ _ (by omega) (by omega)]
      have hi := has_iff (k := n) (low := low) (high := high) (addr := A) (by omega) hl hh hA2
      by_cases h3 : A &&& low = low
      · rw [if_pos (by omega)]
        congr 1
        rw [Bool.eq_iff_iff, beq_iff_eq, decide_eq_true_eq]
        constructor
        · intro h4
          exact ⟨by omega, hA2, hi.2 ⟨h3, by omega⟩⟩
        · intro h4
          have := (hi.1 h4.2.2).2
          omega
      · rw [if_neg (by omega)]
        congr 1
        symm
        apply decide_eq_false
        intro h4
        exact h3 (hi.1 h4.2.2).1
    · rw [if_neg]
      · congr 1
        symm
        apply decide_eq_false
        intro h4
        exact h2 ⟨h4.1, h4.2.1⟩
      · intro h4
        have h5 := a1.1 h4
        exact h2 ⟨h5.1, (andn_low _ _ (by omega) (by omega)).1 h5.2⟩
  · rw [decide_eq_false h0, if_pos (by simp)]
    congr 1
    symm
    apply decide_eq_false
    intro h4
    exact h0 ((none_andn (by omega) hl hh).2 (has_not_none h4.2.2))

end Go.Proofs.Ythdphjbecibeaaa.FCoverOnce
