/- The program's Mask: right, None, Has, First, as printed, in plain numbers. -/
import Derived.Test.YthdphjbecibeaaaMk
import Derived.Test.YthdphjbecibeaaaFmBoxTells
namespace Go.Proofs.Ythdphjbecibeaaa.FBoxTells
open Go.RowKit Go.Proofs.Ythdphjbecibeaaa.PBoxTells Go.Proofs.YthdphjbecibeaaaW.PrintWords Go.Proofs.YthdphjbecibeaaaW.PrintLast Go.Proofs.YthdphjbecibeaaaW.PrintMore Go.Proofs.YthdphjbecibeaaaMz
set_option linter.unusedVariables false
set_option linter.unusedSimpArgs false

theorem i64_andNot_zero (x : Int) (b : Nat) (hx : -9223372036854775808 ≤ x ∧ x < 9223372036854775808) (hb : b < 9223372036854775808) :
    Go.bits .andNot .i64 x (b : Int) = 0 ↔ 0 ≤ x ∧ andn x.toNat b = 0 := by
  have e : Go.bits .andNot .i64 x (b : Int) = IntKind.i64.wrap ((BitVec.ofInt 64 x &&& ~~~BitVec.ofInt 64 (b : Int)).toNat : Int) := rfl
  rw [e, BitVec.toNat_and, BitVec.toNat_not, ofInt_u64 b (by omega)]
  have e2 : 2 ^ 64 - 1 - b = 18446744073709551615 - b := by omega
  rw [e2]
  rcases Int.lt_or_le x 0 with h | h
  · have hX : (BitVec.ofInt 64 x).toNat = (18446744073709551616 + x).toNat := by
      rw [BitVec.toNat_ofInt]
      have : x % (((2 : Nat) ^ 64 : Nat) : Int) = 18446744073709551616 + x := by
        have : (((2 : Nat) ^ 64 : Nat) : Int) = 18446744073709551616 := rfl
        rw [this]
        omega
      rw [this]
    rw [hX]
    constructor
    · intro h0
      exfalso
      have hlt : (18446744073709551616 + x).toNat &&& (18446744073709551615 - b) < 18446744073709551616 := Nat.lt_of_le_of_lt Nat.and_le_left (by omega)
      have hR : (18446744073709551616 + x).toNat &&& (18446744073709551615 - b) = 0 := by
        rw [IntKind.wrap_i64] at h0
        omega
      have t : ((18446744073709551616 + x).toNat &&& (18446744073709551615 - b)).testBit 63 = true := by
        rw [Nat.testBit_and, inv_testBit _ _ (by omega)]
        have t1 : (18446744073709551616 + x).toNat.testBit 63 = true := by
          rw [Nat.testBit_eq_decide_div_mod_eq, decide_eq_true_eq]
          omega
        have t2 : b.testBit 63 = false := Nat.testBit_lt_two_pow (by omega)
        rw [t1, t2]
        rfl
      rw [hR] at t
      simp at t
    · intro ⟨h0, _⟩
      omega
  · have hX : (BitVec.ofInt 64 x).toNat = x.toNat := by
      have := ofInt_u64 x.toNat (by omega)
      rwa [Int.toNat_of_nonneg h] at this
    rw [hX]
    have hlt : x.toNat &&& (18446744073709551615 - b) ≤ x.toNat := Nat.and_le_left
    unfold andn
    rw [IntKind.wrap_i64]
    omega

theorem i64_andNot_nat (a b : Nat) (ha : a < 9223372036854775808) (hb : b < 9223372036854775808) : Go.bits .andNot .i64 (a : Int) (b : Int) = ((andn a b : Nat) : Int) := by
  have e : Go.bits .andNot .i64 (a : Int) (b : Int) = IntKind.i64.wrap ((BitVec.ofInt 64 (a : Int) &&& ~~~BitVec.ofInt 64 (b : Int)).toNat : Int) := rfl
  rw [e, BitVec.toNat_and, BitVec.toNat_not, ofInt_u64 a (by omega), ofInt_u64 b (by omega)]
  have e2 : 2 ^ 64 - 1 - b = 18446744073709551615 - b := by omega
  rw [e2]
  have hlt : a &&& (18446744073709551615 - b) ≤ a := Nat.and_le_left
  unfold andn
  rw [IntKind.wrap_i64]
  omega

theorem andn_low (x n : Nat) (hx : x < 18446744073709551616) (hn : n ≤ 63) : andn x (2 ^ n - 1) = 0 ↔ x < 2 ^ n := by
  have hp : 2 ^ n ≤ 2 ^ 63 := Nat.pow_le_pow_right (by decide) hn
  have h0 := Nat.two_pow_pos n
  rw [andn_zero hx (by omega)]
  constructor
  · intro h
    apply Nat.lt_pow_two_of_testBit
    intro i hi
    cases ht : x.testBit i with
    | false => rfl
    | true =>
      have := h i ht
      rw [Nat.testBit_two_pow_sub_one, decide_eq_true_eq] at this
      omega
  · intro h i hi
    rw [Nat.testBit_two_pow_sub_one, decide_eq_true_eq]
    rcases Nat.lt_or_ge i n with h1 | h1
    · exact h1
    · have : x.testBit i = false := Nat.testBit_lt_two_pow (Nat.lt_of_lt_of_le h (Nat.pow_le_pow_right (by decide) h1))
      rw [this] at hi
      simp at hi

theorem rEmpty_loop {l h : List Int} (hl : U l) (hh : U h) (e1 : l.length = h.length) (h16 : l.length ≤ 40) (d : Nat) : ∀ (k i : Nat), i + d = l.length → d < k →
    pantileref03_Empty.l0 k (i : Int) l h = some (emF (nt l) (nt h) i d) := by
  induction d with
  | zero =>
    intro k i hi hk
    obtain ⟨k, rfl⟩ : ∃ m, k = m + 1 := ⟨k - 1, by omega⟩
    simp only [pantileref03_Empty.l0]
    rw [if_neg (by omega)]
    rfl
  | succ d ih =>
    intro k i hi hk
    obtain ⟨k, rfl⟩ : ∃ m, k = m + 1 := ⟨k - 1, by omega⟩
    simp only [pantileref03_Empty.l0]
    rw [if_pos (by omega), if_pos (by omega), if_pos (by omega), rd_nt hl, rd_nt hh]
    unfold emF
    by_cases c : (nt l i : Int) > (nt h i : Int)
    · rw [if_pos c, decide_eq_true (by omega)]
      rfl
    · rw [if_neg c, decide_eq_false (by omega), wrap64_id (by omega) (by omega)]
      simp only [Bool.false_or]
      exact ih k (i + 1) (by omega) (by omega)

theorem rEmpty_ok {l h : List Int} (hl : U l) (hh : U h) (e1 : l.length = h.length) (h16 : l.length ≤ 40) {k : Nat} (hk : 50 ≤ k) :
    pantileref03_Empty.f k l h = some (emF (nt l) (nt h) 0 l.length) := rEmpty_loop hl hh e1 h16 l.length k 0 (by omega) (by omega)

end Go.Proofs.Ythdphjbecibeaaa.FBoxTells
