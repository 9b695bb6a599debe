/- pantilelaw04.MaskWalk answers true for every mask; no condition beyond the row's own. -/
import Derived.Test.YthdphjbecibeaaaFkMaskWalk
import Derived.Test.YthdphjbecibeaaaMw
namespace Go.Proofs.Ythdphjbecibeaaa.Pure
open Go.RowKit Go.Proofs.Ythdphjbecibeaaa.PMaskWalk Go.Proofs.YthdphjbecibeaaaW.PrintWords Go.Proofs.YthdphjbecibeaaaW.PrintLast Go.Proofs.YthdphjbecibeaaaW.PrintMore Go.Proofs.Ythdphjbecibeaaa.FMaskWalk Go.Proofs.YthdphjbecibeaaaMz
set_option linter.unusedVariables false
set_option linter.unusedSimpArgs false

theorem ofInt_wrap (N : Nat) (hN : N < 18446744073709551616) : (BitVec.ofInt 64 (IntKind.i64.wrap (N : Int))).toNat = N := by
  rw [BitVec.toNat_ofInt, IntKind.wrap_i64]
  have : (((2 : Nat) ^ 64 : Nat) : Int) = 18446744073709551616 := rfl
  rw [this]
  omega

theorem ofInt_wrap1 (N : Nat) (hN : N < 18446744073709551616) : (BitVec.ofInt 64 (wrap64 (IntKind.i64.wrap (N : Int) + 1))).toNat = (N + 1) % 18446744073709551616 := by
  rw [BitVec.toNat_ofInt]
  unfold wrap64
  rw [IntKind.wrap_i64]
  have : (((2 : Nat) ^ 64 : Nat) : Int) = 18446744073709551616 := rfl
  rw [this]
  omega

theorem xor_inv (h : Nat) (hh : h < 65536) : Go.bits .xor .i64 (-1) (h : Int) = IntKind.i64.wrap ((18446744073709551615 - h : Nat) : Int) := by
  have e : Go.bits .xor .i64 (-1) (h : Int) = IntKind.i64.wrap ((BitVec.ofInt 64 (-1) ^^^ BitVec.ofInt 64 (h : Int)).toNat : Int) := rfl
  have e1 : (BitVec.ofInt 64 (-1)) = BitVec.allOnes 64 := by decide
  rw [e, e1, BitVec.allOnes_xor, BitVec.toNat_not, ofInt_u64 h (by omega)]

theorem and_mod64 (x h : Nat) (hh : h < 65536) : (x % 18446744073709551616) &&& h = x &&& h := by
  apply Nat.eq_of_testBit_eq
  intro i
  have e : (18446744073709551616 : Nat) = 2 ^ 64 := rfl
  rw [e, Nat.testBit_and, Nat.testBit_and, Nat.testBit_mod_two_pow]
  rcases Nat.lt_or_ge i 64 with h1 | h1
  · rw [decide_eq_true h1]
    simp
  · have : h.testBit i = false := Nat.testBit_lt_two_pow (Nat.lt_of_lt_of_le hh (Nat.pow_le_pow_right (n := 2) (by decide) (by omega : 16 ≤ i)))
    rw [this]
    simp

theorem or_i64 (N M : Nat) (hN : N < 18446744073709551616) (hM : M < 18446744073709551616) : Go.bits .or .i64 (IntKind.i64.wrap (N : Int)) (IntKind.i64.wrap (M : Int)) = IntKind.i64.wrap ((N ||| M : Nat) : Int) := by
  have e : Go.bits .or .i64 (IntKind.i64.wrap (N : Int)) (IntKind.i64.wrap (M : Int)) = IntKind.i64.wrap ((BitVec.ofInt 64 (IntKind.i64.wrap (N : Int)) ||| BitVec.ofInt 64 (IntKind.i64.wrap (M : Int))).toNat : Int) := rfl
  rw [e, BitVec.toNat_or, ofInt_wrap N hN, ofInt_wrap M hM]

theorem wrap_small (N : Nat) (hN : N < 9223372036854775808) : IntKind.i64.wrap (N : Int) = (N : Int) := by
  rw [IntKind.wrap_i64]
  omega

theorem nx_prog {l h a : Nat} (hl : l < 65536) (hh : h < 65536) (ha : a < 65536) :
    Go.bits .or .i64 (Go.bits .and .i64 (wrap64 ((Go.bits .or .i64 (Go.bits .or .i64 (a : Int) (Go.bits .xor .i64 (-1) (h : Int))) (l : Int)) + 1)) (h : Int)) (l : Int) = ((nx 64 l h a : Nat) : Int) := by
  have b1 : a ||| (18446744073709551615 - h) < 2 ^ 64 := Nat.or_lt_two_pow (by omega) (by omega)
  have b2 : a ||| (18446744073709551615 - h) ||| l < 2 ^ 64 := Nat.or_lt_two_pow b1 (by omega)
  have e64 : (2 : Nat) ^ 64 = 18446744073709551616 := rfl
  rw [e64] at b1 b2
  have ea : (a : Int) = IntKind.i64.wrap (a : Int) := (wrap_small a (by omega)).symm
  have el : (l : Int) = IntKind.i64.wrap (l : Int) := (wrap_small l (by omega)).symm
  have e1 : Go.bits .or .i64 (Go.bits .or .i64 (a : Int) (Go.bits .xor .i64 (-1) (h : Int))) (l : Int) = IntKind.i64.wrap ((a ||| (18446744073709551615 - h) ||| l : Nat) : Int) := by
    rw [xor_inv h hh, ea, or_i64 _ _ (by omega) (by omega), el, or_i64 _ _ (by omega) (by omega)]
  rw [e1]
  generalize hZ : a ||| (18446744073709551615 - h) ||| l = Z at b2
  have e2 : Go.bits .and .i64 (wrap64 (IntKind.i64.wrap (Z : Int) + 1)) (h : Int) = (((Z + 1) &&& h : Nat) : Int) := by
    have e : Go.bits .and .i64 (wrap64 (IntKind.i64.wrap (Z : Int) + 1)) (h : Int) = IntKind.i64.wrap ((BitVec.ofInt 64 (wrap64 (IntKind.i64.wrap (Z : Int) + 1)) &&& BitVec.ofInt 64 (h : Int)).toNat : Int) := rfl
    rw [e, BitVec.toNat_and, ofInt_wrap1 Z b2, ofInt_u64 h (by omega), and_mod64 _ _ hh, wrap_small]
    exact Nat.lt_of_le_of_lt Nat.and_le_right (by omega)
  have b3 : (Z + 1) &&& h ≤ h := Nat.and_le_right
  rw [e2, i64_or_nat _ _ (by omega) (by omega)]
  unfold nx
  rw [e64, ← hZ]

theorem none_false {n l h a : Nat} (h1 : 1 ≤ n) (hn : n ≤ 16) (hl : l < 2 ^ n) (hh : h < 2 ^ n) (hs : hasN n l h a) : mask_Mask_None.f (n : Int) (l : Int) (h : Int) = some false := by
  rw [None_eq h1 hn hl hh, decide_eq_true ((none_andn (by omega) hl hh).2 (has_not_none hs))]
  rfl

theorem Next_at {n l h a : Nat} (h1 : 1 ≤ n) (hn : n ≤ 16) (hl : l < 2 ^ n) (hh : h < 2 ^ n) (ha : a < 2 ^ n) (hs : hasN n l h a) (k : Nat) :
    mask_Mask_Next.f k (n : Int) (l : Int) (h : Int) (a : Int) = some (if a = h then (0, false) else (((nx 64 l h a : Nat) : Int), true)) := by
  have hp : 2 ^ n ≤ 2 ^ 16 := Nat.pow_le_pow_right (by decide) hn
  have hp16 : (2 : Nat) ^ 16 = 65536 := by decide
  have hle := has_le n l h a hl hh ha hs
  have hH := Has_eq h1 hn hl hh (addr := (a : Int)) (by omega)
  rw [decide_eq_true ⟨by omega, by simpa using ha, by simpa using hs⟩] at hH
  unfold mask_Mask_Next.f
  rw [none_false h1 hn hl hh hs]
  simp only [Option.bind_some]
  rw [if_neg (by simp), if_neg (by omega)]
  by_cases h2 : a = h
  · rw [if_pos (by omega), if_pos h2]
  · rw [if_neg (by omega), if_neg h2, hH]
    simp only [Option.bind_some]
    rw [if_pos trivial, nx_prog (by omega) (by omega) (by omega)]

theorem Count_of {n l h D : Int} {c : Nat} (h0 : mask_Mask_None.f n l h = some false) (h1 : IntKind.u64.wrap (Go.bits .andNot .i64 h l) = D) (h2 : bits_OnesCount.f D = some (c : Int)) (h3 : c ≤ 16) :
    mask_Mask_Count.f n l h = some ((2 ^ c : Nat) : Int) := by
  unfold mask_Mask_Count.f
  rw [h0]
  rw [Option.bind_some]
  rw [if_neg (by simp), h1, h2]
  rw [Option.bind_some]
  rw [if_pos (by omega), shl_one _ h3]

theorem u64_andNot {h l : Nat} (hh : h < 65536) (hl : l < 65536) : IntKind.u64.wrap (Go.bits .andNot .i64 (h : Int) (l : Int)) = ((andn h l : Nat) : Int) := by
  have b : andn h l ≤ h := Nat.and_le_left
  rw [i64_andNot_nat _ _ (by omega) (by omega), wrapu_id (by omega) (by omega)]

theorem Count_eq {n l h a : Nat} (h1 : 1 ≤ n) (hn : n ≤ 16) (hl : l < 2 ^ n) (hh : h < 2 ^ n) (hs : hasN n l h a) : mask_Mask_Count.f (n : Int) (l : Int) (h : Int) = some ((2 ^ pcN (andn h l) 16 : Nat) : Int) := by
  have hp : 2 ^ n ≤ 65536 := Nat.pow_le_pow_right (n := 2) (by decide) hn
  have b : andn h l ≤ h := Nat.and_le_left
  have hl' := Nat.lt_of_lt_of_le hl hp
  have hh' := Nat.lt_of_lt_of_le hh hp
  exact Count_of (none_false h1 hn hl hh hs) (u64_andNot hh' hl') (OnesCount_eq _ (Nat.lt_of_le_of_lt b hh')) (pcN_le _ 16)

theorem ref_bit (x i : Nat) (hx : x < 65536) (hi : i < 64) : pantileref04_bit.f (x : Int) (i : Int) = some ((bt1 x i : Nat) : Int) := by
  unfold pantileref04_bit.f
  rw [if_pos (by omega)]
  have e : shr .i64 (x : Int) (i : Int) = shr .u64 (x : Int) (i : Int) := rfl
  rw [e, shr_nat x i (by omega)]
  congr 1

theorem rHas_loop {n l h a : Nat} (hn : n ≤ 16) (hl : l < 65536) (hh : h < 65536) (ha : a < 65536) (hs : hasN n l h a) (d : Nat) : ∀ (k i : Nat), i + d = n → d < k →
    pantileref04_Has.l0 k (n : Int) (l : Int) (h : Int) (a : Int) (i : Int) = some true := by
  induction d with
  | zero =>
    intro k i hi hk
    obtain ⟨k, rfl⟩ : ∃ m, k = m + 1 := ⟨k - 1, by omega⟩
    simp only [pantileref04_Has.l0]
    rw [if_neg (by omega)]
  | succ d ih =>
    intro k i hi hk
    obtain ⟨k, rfl⟩ : ∃ m, k = m + 1 := ⟨k - 1, by omega⟩
    have ew : wrap64 ((i : Int) + 1) = ((i + 1 : Nat) : Int) := by rw [wrap64_id (by omega) (by omega)]; omega
    have hi2 := hs i (by omega)
    have c1 := bt1_lt l i
    have c2 := bt1_lt h i
    have c3 := bt1_lt a i
    simp only [pantileref04_Has.l0]
    rw [if_pos (by omega), ref_bit l i hl (by omega), ref_bit a i ha (by omega), ref_bit h i hh (by omega), ew, ih k (i + 1) (by omega) (by omega)]
    simp only [Option.bind_some]
    by_cases h1 : ((bt1 l i : Nat) : Int) = 1
    · rw [if_pos h1, if_neg (by omega)]
      rw [if_neg (by omega)]
    · rw [if_neg h1]
      by_cases h2 : ((bt1 h i : Nat) : Int) = 0
      · rw [if_pos h2, if_neg (by omega)]
      · rw [if_neg h2]

theorem rHas_of {n l h a P : Nat} (hn : n ≤ 16) (hl : l < 65536) (hh : h < 65536) (ha : a < P) (hP : P ≤ 65536) (hs : hasN n l h a) {k : Nat} (hk : 60 ≤ k) (hq : pantileref01_Power.f k (n : Int) = some (P : Int)) :
    pantileref04_Has.f k (n : Int) (l : Int) (h : Int) (a : Int) = some true := by
  obtain ⟨k, rfl⟩ : ∃ m, k = m + 1 := ⟨k - 1, by omega⟩
  unfold pantileref04_Has.f
  rw [if_neg (by omega), hq]
  rw [Option.bind_some]
  rw [wrap64_nat (by omega), decide_eq_false (by omega)]
  simp only [pantileref04_Has.j0]
  rw [if_neg (by simp)]
  exact rHas_loop hn (by omega) (by omega) (by omega) hs n k 0 (by omega) (by omega)

theorem rHas_ok {n l h a : Nat} (h1 : 1 ≤ n) (hn : n ≤ 16) (hl : l < 2 ^ n) (hh : h < 2 ^ n) (ha : a < 2 ^ n) (hs : hasN n l h a) {k : Nat} (hk : 60 ≤ k) :
    pantileref04_Has.f k (n : Int) (l : Int) (h : Int) (a : Int) = some true := by
  have hp : 2 ^ n ≤ 65536 := Nat.pow_le_pow_right (n := 2) (by decide) hn
  exact rHas_of hn (Nat.lt_of_lt_of_le hl hp) (Nat.lt_of_lt_of_le hh hp) ha hp hs hk (Power_eq n (by omega) (by omega))

/-- one round of the walk, its callees' answers given -/
theorem walk_on {n l h a : Int} {x3 x4 : Int} {r : Int × Bool} {k : Nat} (h1 : mask_Mask_Has.f n l h a = some true) (h2 : pantileref04_Has.f k n l h a = some true) (h3 : x4 < a) (h4 : 0 ≤ x3 ∧ x3 ≤ 5000) (h5 : mask_Mask_Next.f k n l h a = some r) :
    pantilelaw04_MaskWalk.l0 (k + 1) x3 x4 a true n l h = pantilelaw04_MaskWalk.l0 k (x3 + 1) a r.1 r.2 n l h := by
  simp only [pantilelaw04_MaskWalk.l0]
  rw [if_pos trivial, if_neg (by omega), h1]
  rw [Option.bind_some]
  rw [if_pos rfl, h2]
  rw [Option.bind_some]
  rw [if_pos rfl, if_neg (by omega), h5, wrap64_id (by omega) (by omega)]
  rfl

theorem walk_end {n l h a : Int} {x3 x4 : Int} {b : Bool} {k : Nat} (h1 : mask_Mask_Count.f n l h = some x3) (h2 : mask_Mask_None.f n l h = some b) (h3 : (x3 == 0) = b) :
    pantilelaw04_MaskWalk.l0 (k + 1) x3 x4 a false n l h = some true := by
  simp only [pantilelaw04_MaskWalk.l0]
  rw [if_neg (by simp), h1, h2]
  rw [Option.bind_some]
  rw [if_pos rfl, h3]
  simp

theorem walk_loop {n l h : Nat} (h1 : 1 ≤ n) (hn : n ≤ 12) (hl : l < 2 ^ n) (hh : h < 2 ^ n) (d : Nat) : ∀ (k a : Nat) (x4 : Int), a < 2 ^ n → hasN n l h a → x4 < (a : Int) → h < a + d → d + 100 < k →
    pantilelaw04_MaskWalk.l0 k ((rk 64 l h a : Nat) : Int) x4 (a : Int) true (n : Int) (l : Int) (h : Int) = some true := by
  have hp : 2 ^ n ≤ 4096 := Nat.pow_le_pow_right (n := 2) (by decide) hn
  have hl' := Nat.lt_of_lt_of_le hl hp
  have hh' := Nat.lt_of_lt_of_le hh hp
  have b : andn h l ≤ h := Nat.and_le_left
  have hpc : 2 ^ pcN (andn h l) 16 ≤ 4096 := Nat.pow_le_pow_right (n := 2) (by decide) (Nat.le_trans (pc_near (Nat.lt_of_le_of_lt b hh) (by omega)) hn)
  have hlt := fun a => Nat.lt_of_lt_of_le (rank_lt l h a (by omega) (by omega)) hpc
  have hc := rank_count l h (by omega) (by omega)
  have e64 : (2 : Nat) ^ 64 = 18446744073709551616 := rfl
  induction d with
  | zero =>
    intro k a x4 ha hs _ h0
    have := has_le n l h a hl hh ha hs
    omega
  | succ d ih =>
    intro k a x4 ha hs hx hr hk
    obtain ⟨k, rfl⟩ : ∃ m, k = m + 1 + 1 := ⟨k - 2, by omega⟩
    have ha' := Nat.lt_of_lt_of_le ha hp
    have hH := Has_eq h1 (by omega) hl hh (addr := (a : Int)) (by omega)
    rw [decide_eq_true ⟨by omega, by rw [Int.toNat_natCast]; exact ha, by rw [Int.toNat_natCast]; exact hs⟩] at hH
    have hR := hlt a
    rw [walk_on hH (rHas_ok h1 (by omega) hl hh ha hs (by omega)) hx (by omega) (Next_at h1 (by omega) hl hh ha hs _)]
    have hs64 := (has_up (by omega : n ≤ 64) hl hh ha).1 hs
    by_cases he : a = h
    · rw [if_pos he]
      have hCt := Count_eq h1 (by omega) hl hh hs
      subst he
      rw [← hc] at hCt
      exact walk_end hCt (none_false h1 (by omega) hl hh hs) (by rw [beq_eq_false_iff_ne]; omega)
    · rw [if_neg he]
      obtain ⟨i1, i2, i3, i4⟩ := nx_ok 64 l h a (by rw [e64]; omega) (by rw [e64]; omega) (by rw [e64]; omega) hs64 he
      have hle := has_le 64 l h _ (by rw [e64]; omega) (by rw [e64]; omega) i2 i3
      have hnx : nx 64 l h a < 2 ^ n := Nat.lt_of_le_of_lt hle.2 hh
      have := ih (k + 1) (nx 64 l h a) (a : Int) hnx ((has_up (by omega : n ≤ 64) hl hh hnx).2 i3) (by omega) (by omega) (by omega)
      rw [i4] at this
      exact this

theorem rRight_eq (K l h : Int) (hK : K ≤ 12) {k : Nat} (hk : 60 ≤ k) : pantileref04_Right.f k K l h = some (decide (1 ≤ K ∧ 0 ≤ l ∧ l.toNat < 2 ^ K.toNat ∧ 0 ≤ h ∧ h.toNat < 2 ^ K.toNat)) := by
  unfold pantileref04_Right.f
  by_cases h1 : K < 1
  · rw [if_pos h1, decide_eq_false (by omega)]
  · obtain ⟨n, rfl⟩ : ∃ n : Nat, K = (n : Int) := ⟨K.toNat, by omega⟩
    have hp : 2 ^ n ≤ 4096 := (Nat.pow_le_pow_right (n := 2) (by decide) (by omega : n ≤ 12))
    rw [if_neg h1, if_neg (by omega), Power_eq n (by omega) (by omega), Int.toNat_natCast]
    simp only [Option.bind_some]
    generalize 2 ^ n = P at hp
    rw [wrap64_nat (by omega)]
    by_cases h2 : l ≥ 0
    · rw [if_pos h2]
      by_cases h3 : h ≥ 0
      · rw [if_pos h3]
        by_cases h4 : l < (P : Int)
        · rw [if_pos h4]
          congr 1
          apply decide_eq_decide.2
          omega
        · rw [if_neg h4, decide_eq_false (by omega)]
      · rw [if_neg h3, decide_eq_false (by omega)]
    · rw [if_neg h2, decide_eq_false (by omega)]

theorem walk_j0 {n l h : Nat} (h1 : 1 ≤ n) (hn : n ≤ 12) (hl : l < 2 ^ n) (hh : h < 2 ^ n) {k : Nat} (hk : 9000 ≤ k) : pantilelaw04_MaskWalk.j0 (k + 1) false (n : Int) (l : Int) (h : Int) = some true := by
  have hp : 2 ^ n ≤ 4096 := Nat.pow_le_pow_right (n := 2) (by decide) hn
  have hl' := Nat.lt_of_lt_of_le hl hp
  have hh' := Nat.lt_of_lt_of_le hh hp
  simp only [pantilelaw04_MaskWalk.j0]
  rw [if_neg (by simp)]
  unfold mask_Mask_First.f
  have hN := None_eq h1 (by omega) hl hh
  by_cases h0 : andn l h = 0
  · rw [decide_eq_true h0] at hN
    rw [hN]
    simp only [Option.bind_some, Bool.not_true]
    rw [if_neg (by simp)]
    simp only [Option.bind_some]
    have hs : hasN n l h l := by
      have h2 := (none_andn (by omega) hl hh).1 h0
      intro i hi
      refine ⟨fun h3 => h3, fun h3 => ?_⟩
      have c := bt1_lt h i
      by_cases h4 : bt1 h i = 1
      · exact h4
      · exact absurd ⟨i, hi, h3, by omega⟩ h2
    have := walk_loop h1 hn hl hh (h + 1) k l (-1) hl hs (by omega) (by omega) (by omega)
    rw [rk_low] at this
    exact this
  · rw [decide_eq_false h0] at hN
    have hCt : mask_Mask_Count.f (n : Int) (l : Int) (h : Int) = some 0 := by
      unfold mask_Mask_Count.f
      rw [hN]
      rfl
    have hN2 := hN
    rw [hN]
    simp only [Option.bind_some, Bool.not_false]
    rw [if_pos trivial]
    simp only [Option.bind_some]
    obtain ⟨k, rfl⟩ : ∃ m, k = m + 1 := ⟨k - 1, by omega⟩
    exact walk_end hCt hN2 rfl

theorem walk_j0_true (n l h : Int) (k : Nat) : pantilelaw04_MaskWalk.j0 (k + 1) true n l h = some true := by
  simp only [pantilelaw04_MaskWalk.j0]
  rw [if_pos trivial]

theorem walk_f (K l h : Int) {k : Nat} (hk : 9000 ≤ k) : pantilelaw04_MaskWalk.f (k + 1) K l h = some true := by
  unfold pantilelaw04_MaskWalk.f
  rw [awake04_eq (by omega), Option.bind_some, if_pos rfl]
  by_cases h1 : K > 12
  · rw [if_pos h1]
    exact walk_j0_true K l h k
  · rw [if_neg h1, rRight_eq K l h (by omega) (by omega), Option.bind_some]
    by_cases h2 : 1 ≤ K ∧ 0 ≤ l ∧ l.toNat < 2 ^ K.toNat ∧ 0 ≤ h ∧ h.toNat < 2 ^ K.toNat
    · rw [decide_eq_true h2]
      have := walk_j0 (n := K.toNat) (l := l.toNat) (h := h.toNat) (by omega) (by omega) h2.2.2.1 h2.2.2.2.2 hk
      rw [Int.toNat_of_nonneg (by omega), Int.toNat_of_nonneg h2.2.1, Int.toNat_of_nonneg h2.2.2.2.1] at this
      exact this
    · rw [decide_eq_false h2]
      exact walk_j0_true K l h k

theorem MaskWalk : pantilelaw04_MaskWalk.Pure := fun K l h _ _ _ => ⟨9000 + 1, walk_f K l h (Nat.le_refl _)⟩

end Go.Proofs.Ythdphjbecibeaaa.Pure
