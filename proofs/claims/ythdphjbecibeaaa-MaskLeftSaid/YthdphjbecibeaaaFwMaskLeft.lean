/- The program's Mask: First, Next, Count, and the reference's, as printed, in plain numbers. -/
import Derived.Test.YthdphjbecibeaaaFkMaskLeft
import Derived.Test.YthdphjbecibeaaaMl
namespace Go.Proofs.Ythdphjbecibeaaa.FMaskLeft
open Go.RowKit Go.Proofs.Ythdphjbecibeaaa.PMaskLeft Go.Proofs.YthdphjbecibeaaaW.PrintWords Go.Proofs.YthdphjbecibeaaaW.PrintLast Go.Proofs.YthdphjbecibeaaaW.PrintMore Go.Proofs.YthdphjbecibeaaaMz
set_option linter.unusedVariables false
set_option linter.unusedSimpArgs false

theorem ofInt_wrap (N : Nat) (hN : N < 18446744073709551616) : (BitVec.ofInt 64 (IntKind.i64.wrap (N : Int))).toNat = N := by
  rw [BitVec.toNat_ofInt, IntKind.wrap_i64]
  have : (((2 : Nat) ^ 64 : Nat) : Int) = 18446744073709551616 := rfl
  rw [this]
  omega

theorem ofInt_wrap1 (N : Nat) (hN : N < 18446744073709551616) : (BitVec.ofInt 64 (wrap64 (IntKind.i64.wrap (N : Int) + 1))).toNat = (N + 1) % 18446744073709551616 := by
  rw [BitVec.toNat_ofInt]
  unfold wrap64
  rw [IntKind.wrap_i64]
  have : (((2 : Nat) ^ 64 : Nat) : Int) = 18446744073709551616 := rfl
  rw [this]
  omega

theorem xor_inv (h : Nat) (hh : h < 65536) : Go.bits .xor .i64 (-1) (h : Int) = IntKind.i64.wrap ((18446744073709551615 - h : Nat) : Int) := by
  have e : Go.bits .xor .i64 (-1) (h : Int) = IntKind.i64.wrap ((BitVec.ofInt 64 (-1) ^^^ BitVec.ofInt 64 (h : Int)).toNat : Int) := rfl
  have e1 : (BitVec.ofInt 64 (-1)) = BitVec.allOnes 64 := by decide
  rw [e, e1, BitVec.allOnes_xor, BitVec.toNat_not, ofInt_u64 h (by omega)]

theorem and_mod64 (x h : Nat) (hh : h < 65536) : (x % 18446744073709551616) &&& h = x &&& h := by
  apply Nat.eq_of_testBit_eq
  intro i
  have e : (18446744073709551616 : Nat) = 2 ^ 64 := rfl
  rw [e, Nat.testBit_and, Nat.testBit_and, Nat.testBit_mod_two_pow]
  rcases Nat.lt_or_ge i 64 with h1 | h1
  · rw [decide_eq_true h1]
    simp
  · have : h.testBit i = false := Nat.testBit_lt_two_pow (Nat.lt_of_lt_of_le hh (Nat.pow_le_pow_right (n := 2) (by decide) (by omega : 16 ≤ i)))
    rw [this]
    simp

theorem or_i64 (N M : Nat) (hN : N < 18446744073709551616) (hM : M < 18446744073709551616) : Go.bits .or .i64 (IntKind.i64.wrap (N : Int)) (IntKind.i64.wrap (M : Int)) = IntKind.i64.wrap ((N ||| M : Nat) : Int) := by
  have e : Go.bits .or .i64 (IntKind.i64.wrap (N : Int)) (IntKind.i64.wrap (M : Int)) = IntKind.i64.wrap ((BitVec.ofInt 64 (IntKind.i64.wrap (N : Int)) ||| BitVec.ofInt 64 (IntKind.i64.wrap (M : Int))).toNat : Int) := rfl
  rw [e, BitVec.toNat_or, ofInt_wrap N hN, ofInt_wrap M hM]

theorem wrap_small (N : Nat) (hN : N < 9223372036854775808) : IntKind.i64.wrap (N : Int) = (N : Int) := by
  rw [IntKind.wrap_i64]
  omega

theorem nx_prog {l h a : Nat} (hl : l < 65536) (hh : h < 65536) (ha : a < 65536) :
    Go.bits .or .i64 (Go.bits .and .i64 (wrap64 ((Go.bits .or .i64 (Go.bits .or .i64 (a : Int) (Go.bits .xor .i64 (-1) (h : Int))) (l : Int)) + 1)) (h : Int)) (l : Int) = ((nx 64 l h a : Nat) : Int) := by
  have b1 : a ||| (18446744073709551615 - h) < 2 ^ 64 := Nat.or_lt_two_pow (by omega) (by omega)
  have b2 : a ||| (18446744073709551615 - h) ||| l < 2 ^ 64 := Nat.or_lt_two_pow b1 (by omega)
  have e64 : (2 : Nat) ^ 64 = 18446744073709551616 := rfl
  rw [e64] at b1 b2
  have ea : (a : Int) = IntKind.i64.wrap (a : Int) := (wrap_small a (by omega)).symm
  have el : (l : Int) = IntKind.i64.wrap (l : Int) := (wrap_small l (by omega)).symm
  have e1 : Go.bits .or .i64 (Go.bits .or .i64 (a : Int) (Go.bits .xor .i64 (-1) (h : Int))) (l : Int) = IntKind.i64.wrap ((a ||| (18446744073709551615 - h) ||| l : Nat) : Int) := by
    rw [xor_inv h hh, ea, or_i64 _ _ (by omega) (by omega), el, or_i64 _ _ (by omega) (by omega)]
  rw [e1]
  generalize hZ : a ||| (18446744073709551615 - h) ||| l = Z at b2
  have e2 : Go.bits .and .i64 (wrap64 (IntKind.i64.wrap (Z : Int) + 1)) (h : Int) = (((Z + 1) &&& h : Nat) : Int) := by
    have e : Go.bits .and .i64 (wrap64 (IntKind.i64.wrap (Z : Int) + 1)) (h : Int) = IntKind.i64.wrap ((BitVec.ofInt 64 (wrap64 (IntKind.i64.wrap (Z : Int) + 1)) &&& BitVec.ofInt 64 (h : Int)).toNat : Int) := rfl
    rw [e, BitVec.toNat_and, ofInt_wrap1 Z b2, ofInt_u64 h (by omega), and_mod64 _ _ hh, wrap_small]
    exact Nat.lt_of_le_of_lt Nat.and_le_right (by omega)
  have b3 : (Z + 1) &&& h ≤ h := Nat.and_le_right
  rw [e2, i64_or_nat _ _ (by omega) (by omega)]
  unfold nx
  rw [e64, ← hZ]

theorem none_false {n l h a : Nat} (h1 : 1 ≤ n) (hn : n ≤ 16) (hl : l < 2 ^ n) (hh : h < 2 ^ n) (hs : hasN n l h a) : mask_Mask_None.f (n : Int) (l : Int) (h : Int) = some false := by
  rw [None_eq h1 hn hl hh, decide_eq_true ((none_andn (by omega) hl hh).2 (has_not_none hs))]
  rfl

theorem Next_at {n l h a : Nat} (h1 : 1 ≤ n) (hn : n ≤ 16) (hl : l < 2 ^ n) (hh : h < 2 ^ n) (ha : a < 2 ^ n) (hs : hasN n l h a) (k : Nat) :
    mask_Mask_Next.f k (n : Int) (l : Int) (h : Int) (a : Int) = some (if a = h then (0, false) else (((nx 64 l h a : Nat) : Int), true)) := by
  have hp : 2 ^ n ≤ 2 ^ 16 := Nat.pow_le_pow_right (by decide) hn
  have hp16 : (2 : Nat) ^ 16 = 65536 := by decide
  have hle := has_le n l h a hl hh ha hs
  have hH := Has_eq h1 hn hl hh (addr := (a : Int)) (by omega)
  rw [decide_eq_true ⟨by omega, by simpa using ha, by simpa using hs⟩] at hH
  unfold mask_Mask_Next.f
  rw [none_false h1 hn hl hh hs]
  simp only [Option.bind_some]
  rw [if_neg (by simp), if_neg (by omega)]
  by_cases h2 : a = h
  · rw [if_pos (by omega), if_pos h2]
  · rw [if_neg (by omega), if_neg h2, hH]
    simp only [Option.bind_some]
    rw [if_pos trivial, nx_prog (by omega) (by omega) (by omega)]

theorem Count_of {n l h D : Int} {c : Nat} (h0 : mask_Mask_None.f n l h = some false) (h1 : IntKind.u64.wrap (Go.bits .andNot .i64 h l) = D) (h2 : bits_OnesCount.f D = some (c : Int)) (h3 : c ≤ 16) :
    mask_Mask_Count.f n l h = some ((2 ^ c : Nat) : Int) := by
  unfold mask_Mask_Count.f
  rw [h0]
  rw [Option.bind_some]
  rw [if_neg (by simp), h1, h2]
  rw [Option.bind_some]
  rw [if_pos (by omega), shl_one _ h3]

theorem u64_andNot {h l : Nat} (hh : h < 65536) (hl : l < 65536) : IntKind.u64.wrap (Go.bits .andNot .i64 (h : Int) (l : Int)) = ((andn h l : Nat) : Int) := by
  have b : andn h l ≤ h := Nat.and_le_left
  rw [i64_andNot_nat _ _ (by omega) (by omega), wrapu_id (by omega) (by omega)]

theorem Count_eq {n l h a : Nat} (h1 : 1 ≤ n) (hn : n ≤ 16) (hl : l < 2 ^ n) (hh : h < 2 ^ n) (hs : hasN n l h a) : mask_Mask_Count.f (n : Int) (l : Int) (h : Int) = some ((2 ^ pcN (andn h l) 16 : Nat) : Int) := by
  have hp : 2 ^ n ≤ 65536 := Nat.pow_le_pow_right (n := 2) (by decide) hn
  have b : andn h l ≤ h := Nat.and_le_left
  have hl' := Nat.lt_of_lt_of_le hl hp
  have hh' := Nat.lt_of_lt_of_le hh hp
  exact Count_of (none_false h1 hn hl hh hs) (u64_andNot hh' hl') (OnesCount_eq _ (Nat.lt_of_le_of_lt b hh')) (pcN_le _ 16)

theorem ref_bit (x i : Nat) (hx : x < 65536) (hi : i < 64) : pantileref04_bit.f (x : Int) (i : Int) = some ((bt1 x i : Nat) : Int) := by
  unfold pantileref04_bit.f
  rw [if_pos (by omega)]
  have e : shr .i64 (x : Int) (i : Int) = shr .u64 (x : Int) (i : Int) := rfl
  rw [e, shr_nat x i (by omega)]
  congr 1

theorem rRight_eq (K l h : Int) (hK : K ≤ 12) {k : Nat} (hk : 60 ≤ k) : pantileref04_Right.f k K l h = some (decide (1 ≤ K ∧ 0 ≤ l ∧ l.toNat < 2 ^ K.toNat ∧ 0 ≤ h ∧ h.toNat < 2 ^ K.toNat)) := by
  unfold pantileref04_Right.f
  by_cases h1 : K < 1
  · rw [if_pos h1, decide_eq_false (by omega)]
  · obtain ⟨n, rfl⟩ : ∃ n : Nat, K = (n : Int) := ⟨K.toNat, by omega⟩
    have hp : 2 ^ n ≤ 4096 := (Nat.pow_le_pow_right (n := 2) (by decide) (by omega : n ≤ 12))
    rw [if_neg h1, if_neg (by omega), Power_eq n (by omega) (by omega), Int.toNat_natCast]
    simp only [Option.bind_some]
    generalize 2 ^ n = P at hp
    rw [wrap64_nat (by omega)]
    by_cases h2 : l ≥ 0
    · rw [if_pos h2]
      by_cases h3 : h ≥ 0
      · rw [if_pos h3]
        by_cases h4 : l < (P : Int)
        · rw [if_pos h4]
          congr 1
          apply decide_eq_decide.2
          omega
        · rw [if_neg h4, decide_eq_false (by omega)]
      · rw [if_neg h3, decide_eq_false (by omega)]
    · rw [if_neg h2, decide_eq_false (by omega)]


theorem rRight_big (K l h : Int) (hK : K > 16) {k : Nat} : pantileref04_Right.f k K l h = some false := by
  unfold pantileref04_Right.f
  rw [if_neg (by omega), if_pos hK]

/-- has a mask an address: from the bit i on, d of them -/
def hasF (l h a : Nat) : Nat → Nat → Bool
  | _, 0 => true
  | i, d + 1 => (decide (bt1 l i = 1 → bt1 a i = 1) && decide (bt1 a i = 1 → bt1 h i = 1)) && hasF l h a (i + 1) d

theorem hasF_succ (l h a i d : Nat) : hasF l h a i (d + 1) = ((decide (bt1 l i = 1 → bt1 a i = 1) && decide (bt1 a i = 1 → bt1 h i = 1)) && hasF l h a (i + 1) d) := rfl

theorem hasF_iff (l h a d : Nat) : ∀ i, hasF l h a i d = true ↔ ∀ j, i ≤ j → j < i + d → (bt1 l j = 1 → bt1 a j = 1) ∧ (bt1 a j = 1 → bt1 h j = 1) := by
  induction d with
  | zero =>
    intro i
    simp [hasF]
    intro j h1 h2
    omega
  | succ d ih =>
    intro i
    unfold hasF
    rw [Bool.and_eq_true, Bool.and_eq_true, decide_eq_true_eq, decide_eq_true_eq, ih]
    constructor
    · intro ⟨h1, h2⟩ j hj hd
      rcases Nat.eq_or_lt_of_le hj with h | h
      · subst h; exact h1
      · exact h2 j h (by omega)
    · intro h
      exact ⟨h i (Nat.le_refl _) (by omega), fun j h1 h2 => h j (by omega) (by omega)⟩

theorem rHasF_loop {n l h a : Nat} (hn : n ≤ 16) (hl : l < 65536) (hh : h < 65536) (ha : a < 65536) (d : Nat) : ∀ (k i : Nat), i + d = n → d < k →
    pantileref04_Has.l0 k (n : Int) (l : Int) (h : Int) (a : Int) (i : Int) = some (hasF l h a i d) := by
  induction d with
  | zero =>
    intro k i hi hk
    obtain ⟨k, rfl⟩ : ∃ m, k = m + 1 := ⟨k - 1, by omega⟩
    simp only [pantileref04_Has.l0]
    rw [if_neg (by omega)]
    rfl
  | succ d ih =>
    intro k i hi hk
    obtain ⟨k, rfl⟩ : ∃ m, k = m + 1 := ⟨k - 1, by omega⟩
    have ew : wrap64 ((i : Int) + 1) = ((i + 1 : Nat) : Int) := by rw [wrap64_id (by omega) (by omega)]; omega
    have c1 := bt1_lt l i
    have c2 := bt1_lt h i
    have c3 := bt1_lt a i
    simp only [pantileref04_Has.l0]
    rw [if_pos (by omega), ref_bit l i hl (by omega), ref_bit a i ha (by omega), ref_bit h i hh (by omega), ew, ih k (i + 1) (by omega) (by omega)]
    simp only [Option.bind_some]
    rw [hasF_succ]
    by_cases h1 : ((bt1 l i : Nat) : Int) = 1
    · rw [if_pos h1]
      by_cases h2 : ((bt1 a i : Nat) : Int) = 0
      · rw [if_pos h2, decide_eq_false (by omega)]
        rfl
      · rw [if_neg h2, decide_eq_true (by omega : bt1 l i = 1 → bt1 a i = 1), Bool.true_and]
        by_cases h3 : ((bt1 h i : Nat) : Int) = 0
        · rw [if_pos h3, if_pos (by omega), decide_eq_false (by omega)]
          rfl
        · rw [if_neg h3, decide_eq_true (by omega), Bool.true_and]
    · rw [if_neg h1, decide_eq_true (by omega : bt1 l i = 1 → bt1 a i = 1), Bool.true_and]
      by_cases h3 : ((bt1 h i : Nat) : Int) = 0
      · rw [if_pos h3]
        by_cases h4 : ((bt1 a i : Nat) : Int) = 1
        · rw [if_pos h4, decide_eq_false (by omega)]
          rfl
        · rw [if_neg h4, decide_eq_true (by omega), Bool.true_and]
      · rw [if_neg h3, decide_eq_true (by omega), Bool.true_and]

/-- an address that is left, as a Bool -/
def isL (n l h a : Nat) : Bool := hasF l h a 0 n

theorem isL_iff (n l h a : Nat) : isL n l h a = true ↔ hasN n l h a := by
  unfold isL
  rw [hasF_iff]
  constructor
  · intro h1 i hi
    exact h1 i (by omega) (by omega)
  · intro h1 j _ hj
    exact h1 j (by omega)

theorem rHasF_of {n l h P : Nat} {a : Int} (hn : n ≤ 16) (hl : l < 65536) (hh : h < 65536) (hP : P ≤ 65536) {k : Nat} (hk : 60 ≤ k) (hq : pantileref01_Power.f k (n : Int) = some (P : Int)) :
    pantileref04_Has.f k (n : Int) (l : Int) (h : Int) a = some (decide (0 ≤ a ∧ a.toNat < P) && isL n l h a.toNat) := by
  obtain ⟨k, rfl⟩ : ∃ m, k = m + 1 := ⟨k - 1, by omega⟩
  unfold pantileref04_Has.f
  by_cases h1 : a < 0
  · rw [if_pos h1, decide_eq_false (by omega)]
    simp only [pantileref04_Has.j0]
    rw [if_pos trivial]
    rfl
  · obtain ⟨A, rfl⟩ : ∃ A : Nat, a = (A : Int) := ⟨a.toNat, by omega⟩
    rw [if_neg h1, hq, Option.bind_some, wrap64_nat (by omega), Int.toNat_natCast]
    by_cases h2 : A < P
    · rw [decide_eq_false (by omega), decide_eq_true (by omega), Bool.true_and]
      simp only [pantileref04_Has.j0]
      rw [if_neg (by simp)]
      exact rHasF_loop hn hl hh (by omega) n k 0 (by omega) (by omega)
    · rw [decide_eq_true (by omega), decide_eq_false (by omega)]
      simp only [pantileref04_Has.j0]
      rw [if_pos trivial]
      rfl

/-- the addresses left, from m on, d numbers looked at -/
def lfL (p : Nat → Bool) : Nat → Nat → List Int
  | _, 0 => []
  | m, d + 1 => if p m = true then (m : Int) :: lfL p (m + 1) d else lfL p (m + 1) d

theorem left_loop {n l h P : Nat} (hn : n ≤ 16) (hl : l < 65536) (hh : h < 65536) (hP : P ≤ 65536) (hq : ∀ k, 60 ≤ k → pantileref01_Power.f k (n : Int) = some (P : Int)) (d : Nat) : ∀ (k m : Nat) (acc : List Int), m + d = P → acc.length ≤ m → d + 100 < k →
    pantileref04_Left.l0 k (n : Int) (l : Int) (h : Int) acc (m : Int) = some (acc ++ lfL (isL n l h) m d) := by
  induction d with
  | zero =>
    intro k m acc hm ha hk
    obtain ⟨k, rfl⟩ : ∃ m, k = m + 1 := ⟨k - 1, by omega⟩
    simp only [pantileref04_Left.l0]
    rw [hq k (by omega), Option.bind_some, wrap64_nat (by omega), if_neg (by omega)]
    simp [lfL]
  | succ d ih =>
    intro k m acc hm ha hk
    obtain ⟨k, rfl⟩ : ∃ m, k = m + 1 := ⟨k - 1, by omega⟩
    have ew : wrap64 ((m : Int) + 1) = ((m + 1 : Nat) : Int) := by rw [wrap64_id (by omega) (by omega)]; omega
    simp only [pantileref04_Left.l0]
    rw [hq k (by omega), Option.bind_some, wrap64_nat (by omega), if_pos (by omega), rHasF_of hn hl hh hP (by omega) (hq k (by omega)), Option.bind_some, Int.toNat_natCast, decide_eq_true (by omega), Bool.true_and, ew]
    cases hp : isL n l h m with
    | true =>
      rw [if_pos rfl, if_pos (by omega), ih k (m + 1) _ (by omega) (by simp; omega) (by omega)]
      simp [lfL, hp]
    | false =>
      rw [if_neg (by simp), ih k (m + 1) _ (by omega) (by omega) (by omega)]
      simp [lfL, hp]

/-- the search in the list -/
def srch (x nx : Int) (is : Bool) : List Int → Bool
  | [] => if is = true then false else nx == 0
  | y :: ys => if y > x then (if is = true then nx == y else false) else srch x nx is ys

theorem srch_hit {n P : Nat} {p : Nat → Bool} {x : Int} {b : Nat} (hb : p b = true) (hx : x < (b : Int)) (hbP : b < P) (hmin : ∀ c, p c = true → c < P → x < (c : Int) → b ≤ c) (d : Nat) : ∀ m, m + d = P → m ≤ b → srch x (b : Int) true (lfL p m d) = true := by
  induction d with
  | zero => intro m h1 h2; omega
  | succ d ih =>
    intro m h1 h2
    unfold lfL
    by_cases hp : p m = true
    · rw [if_pos hp]
      unfold srch
      by_cases h3 : (m : Int) > x
      · have := hmin m hp (by omega) h3
        rw [if_pos h3, if_pos rfl, beq_iff_eq]
        omega
      · rw [if_neg h3]
        exact ih (m + 1) (by omega) (by omega)
    · rw [if_neg hp]
      exact ih (m + 1) (by omega) (by rcases Nat.eq_or_lt_of_le h2 with e | e; · subst e; exact absurd hb hp
                                      · exact e)

theorem srch_miss {P : Nat} {p : Nat → Bool} {x : Int} (hmin : ∀ c, p c = true → c < P → ¬ x < (c : Int)) (d : Nat) : ∀ m, m + d = P → srch x 0 false (lfL p m d) = true := by
  induction d with
  | zero => intro m h1; rfl
  | succ d ih =>
    intro m h1
    unfold lfL
    by_cases hp : p m = true
    · rw [if_pos hp]
      unfold srch
      have h3 := hmin m hp (by omega)
      rw [if_neg (by omega)]
      exact ih (m + 1) (by omega)
    · rw [if_neg hp]
      exact ih (m + 1) (by omega)

/-- the list's length and head, by ranks -/
theorem lfL_len {n l h P C : Nat} (e16 : n ≤ 64) (hl : l < 2 ^ n) (hh : h < 2 ^ n) (hP : P = 2 ^ n) (hC : rk 64 l h h + 1 = C) (d : Nat) : ∀ m b, m + d = P → b < 2 ^ n → hasN n l h b → m ≤ b → (∀ c, c < 2 ^ n → hasN n l h c → m ≤ c → b ≤ c) →
    (lfL (isL n l h) m d).length + rk 64 l h b = C ∧ rd (lfL (isL n l h) m d) 0 = (b : Int) := by
  have hp64 : 2 ^ n ≤ 2 ^ 64 := Nat.pow_le_pow_right (by decide) e16
  induction d with
  | zero => intro m b h1 h2 h3 h4; omega
  | succ d ih =>
    intro m b h1 h2 h3 h4 h5
    unfold lfL
    by_cases hp : isL n l h m = true
    · have hm := (isL_iff _ _ _ _).1 hp
      obtain rfl : b = m := Nat.le_antisymm (h5 m (by omega) hm (Nat.le_refl _)) h4
      rw [if_pos hp]
      refine ⟨?_, rfl⟩
      rw [List.length_cons]
      have hm64 := (has_up e16 hl hh h2).1 hm
      by_cases he : b = h
      · have : lfL (isL n l h) (b + 1) d = [] := by
          clear ih
          have gen : ∀ d m, b < m → m + d = P → lfL (isL n l h) m d = [] := by
            intro d
            induction d with
            | zero => intro m _ _; rfl
            | succ d ih2 =>
              intro m h6 h7
              unfold lfL
              rw [if_neg]
              · exact ih2 (m + 1) (by omega) (by omega)
              · intro h8
                have := (has_le n l h m hl hh (by omega) ((isL_iff _ _ _ _).1 h8)).2
                omega
          exact gen d (b + 1) (by omega) (by omega)
        rw [this, he]
        simp
        omega
      · obtain ⟨i1, i2, i3, i4⟩ := nx_ok 64 l h b (by omega) (by omega) (by omega) hm64 he
        have hle := has_le 64 l h _ (by omega) (by omega) i2 i3
        have hlt : nx 64 l h b < 2 ^ n := Nat.lt_of_le_of_lt hle.2 hh
        have := (ih (b + 1) (nx 64 l h b) (by omega) hlt ((has_up e16 hl hh hlt).2 i3) (by omega) (fun c hc1 hc2 hc3 => by
          have hc64 := (has_up e16 hl hh hc1).1 hc2
          have q1 := rk_mono 64 l h b c hm64 hc64 (by omega) (by omega) (by omega)
          rcases Nat.lt_or_ge c (nx 64 l h b) with h9 | h9
          · have q2 := rk_mono 64 l h c (nx 64 l h b) hc64 i3 (by omega) i2 h9
            omega
          · exact h9)).1
        omega
    · rw [if_neg hp]
      exact ih (m + 1) b (by omega) h2 h3 (by rcases Nat.eq_or_lt_of_le h4 with e | e; · subst e; exact absurd ((isL_iff _ _ _ _).2 h3) hp
                                              · exact e) (fun c hc1 hc2 hc3 => h5 c hc1 hc2 (by omega))

theorem and_two (a t : Nat) : a &&& 2 ^ t = bt1 a t * 2 ^ t := by
  apply Nat.eq_of_testBit_eq
  intro i
  rw [Nat.testBit_and, Nat.testBit_two_pow, Nat.testBit_mul_two_pow, bt1_tb]
  by_cases h : t = i
  · subst h
    rw [decide_eq_true rfl, Nat.sub_self, decide_eq_true (Nat.le_refl _)]
    cases a.testBit t <;> rfl
  · rw [decide_eq_false h, Bool.and_false]
    by_cases h2 : t ≤ i
    · obtain ⟨j, hj⟩ : ∃ j, i - t = j + 1 := ⟨i - t - 1, by omega⟩
      rw [hj, Nat.testBit_succ]
      cases a.testBit t <;> simp
    · rw [decide_eq_false h2, Bool.false_and]

theorem and_pow_zero {a t : Nat} (ha : a < 65536) (ht : t ≤ 16) : Go.bits .and .i64 (a : Int) ((2 ^ t : Nat) : Int) = ((bt1 a t * 2 ^ t : Nat) : Int) := by
  have hp : 2 ^ t ≤ 2 ^ 16 := Nat.pow_le_pow_right (by decide) ht
  rw [i64_and_nat _ _ (by omega) (by omega), and_two a t]

def hbit : Nat → Nat
  | 0 => 0
  | t + 1 => 2 ^ t

theorem cand_prog {l x t : Nat} (hl : l < 65536) (hx : x < 65536) (ht : t ≤ 15) :
    Go.bits .or .i64 (Go.bits .or .i64 ((2 ^ (t + 1) * (x / 2 ^ (t + 1)) : Nat) : Int) ((2 ^ t : Nat) : Int)) (Go.bits .and .i64 (l : Int) ((2 ^ t - 1 : Nat) : Int)) = ((cand l x t : Nat) : Int) := by
  have hp : 2 ^ t ≤ 2 ^ 15 := Nat.pow_le_pow_right (by decide) ht
  have hp0 := Nat.two_pow_pos t
  have h1 : 2 ^ (t + 1) * (x / 2 ^ (t + 1)) ≤ x := Nat.mul_div_le x _
  have h2 : 2 ^ t < 2 ^ (t + 1) := Nat.pow_lt_pow_right (by decide) (by omega)
  have e1 : 2 ^ (t + 1) * (x / 2 ^ (t + 1)) ||| 2 ^ t = 2 ^ t * (2 * (x / 2 ^ (t + 1)) + 1) := by
    rw [← Nat.two_pow_add_eq_or_of_lt h2]
    rw [Nat.mul_add, Nat.mul_one, ← Nat.mul_assoc, ← Nat.pow_succ]
  have hb : 2 ^ t * (2 * (x / 2 ^ (t + 1)) + 1) < 2 ^ 62 := by
    have e2 : 2 ^ t * (2 * (x / 2 ^ (t + 1)) + 1) = 2 ^ (t + 1) * (x / 2 ^ (t + 1)) + 2 ^ t := by
      rw [Nat.mul_add, Nat.mul_one, ← Nat.mul_assoc, ← Nat.pow_succ]
    rw [e2]
    generalize 2 ^ (t + 1) * (x / 2 ^ (t + 1)) = y at h1
    omega
  have hm : l % 2 ^ t < 2 ^ t := Nat.mod_lt _ hp0
  rw [i64_or_nat _ _ (by omega) (by omega), e1, i64_and_nat _ _ (by omega) (by omega), Nat.and_two_pow_sub_one_eq_mod, i64_or_nat _ _ (by omega) (by omega), ← Nat.two_pow_add_eq_or_of_lt hm]
  rfl

theorem same_prog {x t : Nat} (hx : x < 65536) (ht : t ≤ 15) :
    Go.bits .or .i64 ((2 ^ (t + 1) * (x / 2 ^ (t + 1)) : Nat) : Int) ((bt1 x t * 2 ^ t : Nat) : Int) = ((2 ^ t * (x / 2 ^ t) : Nat) : Int) := by
  have hp : 2 ^ t ≤ 2 ^ 15 := Nat.pow_le_pow_right (by decide) ht
  have h1 : 2 ^ (t + 1) * (x / 2 ^ (t + 1)) ≤ x := Nat.mul_div_le x _
  have h2 : 2 ^ t < 2 ^ (t + 1) := Nat.pow_lt_pow_right (by decide) (by omega)
  have hb := bt1_lt x t
  have hb2 : bt1 x t * 2 ^ t ≤ 1 * 2 ^ t := Nat.mul_le_mul (by omega) (Nat.le_refl _)
  have hb3 : bt1 x t * 2 ^ t < 2 ^ (t + 1) := by omega
  rw [i64_or_nat _ _ (by omega) (by omega), ← Nat.two_pow_add_eq_or_of_lt hb3, div_step x t, Nat.mul_add, ← Nat.mul_assoc, ← Nat.pow_succ, Nat.mul_comm (bt1 x t)]

end Go.Proofs.Ythdphjbecibeaaa.FMaskLeft
