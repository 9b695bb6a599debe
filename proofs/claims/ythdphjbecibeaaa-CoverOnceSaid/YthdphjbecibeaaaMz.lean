/- Plain facts about levels, addresses and the z-order of points, over numbers and functions alone; no condition. -/
namespace Go.Proofs.YthdphjbecibeaaaMz
set_option linter.unusedVariables false
set_option linter.unusedSimpArgs false

/-- how many bits a number has -/
def blen (n : Nat) : Nat := if n = 0 then 0 else n.log2 + 1

theorem blen_zero : blen 0 = 0 := rfl

theorem lt_blen (n : Nat) : n < 2 ^ blen n := by
  unfold blen
  split
  · omega
  · exact Nat.lt_log2_self

theorem blen_le {n m : Nat} (h : n < 2 ^ m) : blen n ≤ m := by
  unfold blen
  split
  · omega
  · rename_i h0
    have := (Nat.log2_lt h0).2 h
    omega

theorem blen_ge {n m : Nat} (h : 2 ^ m ≤ n) : m < blen n := by
  rcases Nat.lt_or_ge m (blen n) with h1 | h1
  · exact h1
  · have := lt_blen n
    have := Nat.pow_le_pow_right (n := 2) (by decide) h1
    omega

theorem blen_le_iff (n m : Nat) : blen n ≤ m ↔ n < 2 ^ m := by
  constructor
  · intro h
    exact Nat.lt_of_lt_of_le (lt_blen n) (Nat.pow_le_pow_right (by decide) h)
  · exact blen_le

theorem blen_div (n s : Nat) (h : 2 ^ s ≤ n) : blen (n / 2 ^ s) + s = blen n := by
  have hp : 0 < 2 ^ s := Nat.two_pow_pos s
  apply Nat.le_antisymm
  · have h1 : n < 2 ^ (blen n - s) * 2 ^ s := by
      rw [← Nat.pow_add]
      have := blen_ge h
      rw [Nat.sub_add_cancel (by omega)]
      exact lt_blen n
    have h2 : n / 2 ^ s < 2 ^ (blen n - s) := (Nat.div_lt_iff_lt_mul hp).2 h1
    have := blen_le h2
    have := blen_ge h
    omega
  · apply blen_le
    rw [Nat.pow_add]
    exact (Nat.div_lt_iff_lt_mul hp).1 (lt_blen _)

theorem blen_top {n : Nat} (h : n ≠ 0) : n.testBit (blen n - 1) = true := by
  unfold blen
  rw [if_neg h]
  simp only [Nat.add_sub_cancel]
  rw [Nat.testBit_eq_decide_div_mod_eq]
  have h1 := Nat.log2_self_le h
  have h2 := @Nat.lt_log2_self n
  have h3 : n / 2 ^ n.log2 = 1 := by
    apply Nat.div_eq_of_lt_le
    · omega
    · rw [Nat.pow_succ] at h2; omega
  simp [h3]

/-- the bit of a number at a level -/
def bt1 (x m : Nat) : Nat := x / 2 ^ m % 2

theorem bt1_lt (x m : Nat) : bt1 x m < 2 := Nat.mod_lt _ (by decide)

theorem bt1_testBit (x m : Nat) : x.testBit m = decide (bt1 x m = 1) := by
  rw [Nat.testBit_eq_decide_div_mod_eq]; rfl

theorem bt1_eq_iff (x y m : Nat) : bt1 x m = bt1 y m ↔ x.testBit m = y.testBit m := by
  have h1 := bt1_lt x m
  have h2 := bt1_lt y m
  rw [bt1_testBit, bt1_testBit]
  constructor
  · intro h; rw [h]
  · intro h
    have := decide_eq_decide.1 h
    omega

/-- the address of the first n coordinates at a level -/
def addrN (f : Nat → Nat) (m : Nat) : Nat → Nat
  | 0 => 0
  | n + 1 => 2 * addrN f m n + bt1 (f n) m

theorem addrN_succ (f : Nat → Nat) (m n : Nat) : addrN f m (n + 1) = 2 * addrN f m n + bt1 (f n) m := rfl

theorem addrN_lt (f : Nat → Nat) (m n : Nat) : addrN f m n < 2 ^ n := by
  induction n with
  | zero => simp [addrN]
  | succ n ih =>
    have := bt1_lt (f n) m
    rw [Nat.pow_succ]; unfold addrN; omega

theorem addrN_congr {f g : Nat → Nat} {m n : Nat} (h : ∀ i, i < n → bt1 (f i) m = bt1 (g i) m) : addrN f m n = addrN g m n := by
  induction n with
  | zero => rfl
  | succ n ih =>
    unfold addrN
    rw [ih (fun i hi => h i (by omega)), h n (by omega)]

theorem addrN_inj {f g : Nat → Nat} {m n : Nat} (h : addrN f m n = addrN g m n) : ∀ i, i < n → bt1 (f i) m = bt1 (g i) m := by
  induction n with
  | zero => intro i hi; omega
  | succ n ih =>
    unfold addrN at h
    have h1 := bt1_lt (f n) m
    have h2 := bt1_lt (g n) m
    intro i hi
    rcases Nat.lt_or_ge i n with h3 | h3
    · exact ih (by omega) i h3
    · obtain rfl : i = n := by omega
      omega

theorem addrN_eq_iff (f g : Nat → Nat) (m n : Nat) : addrN f m n = addrN g m n ↔ ∀ i, i < n → bt1 (f i) m = bt1 (g i) m := ⟨addrN_inj, addrN_congr⟩

/-- the first coordinate whose bits differ decides -/
theorem addrN_lt_of {f g : Nat → Nat} {m n i : Nat} (hi : i < n) (h : ∀ j, j < i → bt1 (f j) m = bt1 (g j) m) (h0 : bt1 (f i) m = 0) (h1 : bt1 (g i) m = 1) : addrN f m n < addrN g m n := by
  induction n with
  | zero => omega
  | succ n ih =>
    unfold addrN
    have h2 := bt1_lt (f n) m
    have h3 := bt1_lt (g n) m
    rcases Nat.lt_or_ge i n with h4 | h4
    · have := ih h4
      omega
    · obtain rfl : i = n := by omega
      rw [addrN_congr h, h0, h1]
      omega

/-- where the coordinates differ, all of it in one number -/
def orxN (f g : Nat → Nat) : Nat → Nat
  | 0 => 0
  | n + 1 => orxN f g n ||| (f n ^^^ g n)

theorem orxN_succ (f g : Nat → Nat) (n : Nat) : orxN f g (n + 1) = orxN f g n ||| (f n ^^^ g n) := rfl

theorem orxN_testBit (f g : Nat → Nat) (n m : Nat) : (orxN f g n).testBit m = false ↔ ∀ i, i < n → bt1 (f i) m = bt1 (g i) m := by
  induction n with
  | zero => simp [orxN]
  | succ n ih =>
    unfold orxN
    rw [Nat.testBit_or, Nat.testBit_xor, Bool.or_eq_false_iff, ih]
    constructor
    · intro ⟨h1, h2⟩ i hi
      rcases Nat.lt_or_ge i n with h3 | h3
      · exact h1 i h3
      · obtain rfl : i = n := by omega
        rw [bt1_eq_iff]
        simpa using h2
    · intro h
      refine ⟨fun i hi => h i (by omega), ?_⟩
      have := (bt1_eq_iff _ _ _).1 (h n (by omega))
      rw [this]; simp

theorem orxN_lt {f g : Nat → Nat} {n m : Nat} (hf : ∀ i, i < n → f i < 2 ^ m) (hg : ∀ i, i < n → g i < 2 ^ m) : orxN f g n < 2 ^ m := by
  induction n with
  | zero => simp [orxN, Nat.two_pow_pos]
  | succ n ih =>
    unfold orxN
    exact Nat.or_lt_two_pow (ih (fun i hi => hf i (by omega)) (fun i hi => hg i (by omega))) (Nat.xor_lt_two_pow (hf n (by omega)) (hg n (by omega)))

theorem orxN_le (f g : Nat → Nat) (n m : Nat) : orxN f g n < 2 ^ m ↔ ∀ i, i < n → f i ^^^ g i < 2 ^ m := by
  induction n with
  | zero => simp [orxN, Nat.two_pow_pos]
  | succ n ih =>
    unfold orxN
    constructor
    · intro h i hi
      have h1 : orxN f g n < 2 ^ m := Nat.lt_of_le_of_lt Nat.left_le_or h
      have h2 : f n ^^^ g n < 2 ^ m := Nat.lt_of_le_of_lt Nat.right_le_or h
      rcases Nat.lt_or_ge i n with h3 | h3
      · exact ih.1 h1 i h3
      · obtain rfl : i = n := by omega
        exact h2
    · intro h
      exact Nat.or_lt_two_pow (ih.2 (fun i hi => h i (by omega))) (h n (by omega))

/-- the level at which two points part: the highest one below m at which their addresses differ -/
def partN (f g : Nat → Nat) (n : Nat) : Nat → Int
  | 0 => -1
  | m + 1 => if addrN f m n = addrN g m n then partN f g n m else m

theorem partN_eq (f g : Nat → Nat) (n m : Nat) (h : orxN f g n < 2 ^ m) : partN f g n m = (blen (orxN f g n) : Int) - 1 := by
  induction m with
  | zero =>
    have : orxN f g n = 0 := by simpa using h
    rw [this]; rfl
  | succ m ih =>
    unfold partN
    split
    · rename_i he
      apply ih
      have hb : (orxN f g n).testBit m = false := (orxN_testBit f g n m).2 ((addrN_eq_iff f g m n).1 he)
      rw [Nat.testBit_eq_decide_div_mod_eq] at hb
      have h1 : orxN f g n / 2 ^ m < 2 := by
        apply (Nat.div_lt_iff_lt_mul (Nat.two_pow_pos m)).2
        rw [Nat.pow_succ] at h; omega
      have h2 : orxN f g n / 2 ^ m = 0 := by
        have h3 : ¬ (orxN f g n / 2 ^ m % 2 = 1) := by simpa using hb
        generalize orxN f g n / 2 ^ m = y at h1 h3
        omega
      exact (Nat.div_eq_zero_iff_lt (Nat.two_pow_pos m)).1 h2
    · rename_i he
      have hb : ¬ (orxN f g n).testBit m = false := fun hb => he ((addrN_eq_iff f g m n).2 ((orxN_testBit f g n m).1 hb))
      have hb' : (orxN f g n).testBit m = true := by simpa using hb
      have h1 : 2 ^ m ≤ orxN f g n := Nat.ge_two_pow_of_testBit hb'
      have h2 := blen_ge h1
      have h3 := blen_le h
      omega

/-- which one comes first, by the levels below m -/
def cmpN (f g : Nat → Nat) (n : Nat) : Nat → Int
  | 0 => 0
  | m + 1 => if addrN f m n = addrN g m n then cmpN f g n m else if addrN f m n < addrN g m n then -1 else 1

theorem cmpN_range (f g : Nat → Nat) (n m : Nat) : cmpN f g n m = -1 ∨ cmpN f g n m = 0 ∨ cmpN f g n m = 1 := by
  induction m with
  | zero => simp [cmpN]
  | succ m ih =>
    unfold cmpN
    split
    · exact ih
    · split <;> simp

theorem cmpN_swap (f g : Nat → Nat) (n m : Nat) : cmpN g f n m = - cmpN f g n m := by
  induction m with
  | zero => rfl
  | succ m ih =>
    unfold cmpN
    by_cases h : addrN f m n = addrN g m n
    · rw [if_pos h, if_pos h.symm, ih]
    · rw [if_neg h, if_neg (fun x => h x.symm)]
      by_cases h1 : addrN f m n < addrN g m n
      · rw [if_pos h1, if_neg (by omega)]; rfl
      · rw [if_neg h1, if_pos (by omega)]

theorem cmpN_zero (f g : Nat → Nat) (n m : Nat) : cmpN f g n m = 0 ↔ ∀ l, l < m → addrN f l n = addrN g l n := by
  induction m with
  | zero => simp [cmpN]
  | succ m ih =>
    unfold cmpN
    by_cases h : addrN f m n = addrN g m n
    · rw [if_pos h, ih]
      constructor
      · intro h1 l hl
        rcases Nat.lt_or_ge l m with h2 | h2
        · exact h1 l h2
        · obtain rfl : l = m := by omega
          exact h
      · intro h1 l hl
        exact h1 l (by omega)
    · rw [if_neg h]
      constructor
      · intro h1
        split at h1 <;> simp at h1
      · intro h1
        exact absurd (h1 m (by omega)) h

theorem cmpN_trans_le (f g h : Nat → Nat) (n m : Nat) (h1 : cmpN f g n m ≤ 0) (h2 : cmpN g h n m ≤ 0) : cmpN f h n m ≤ 0 := by
  induction m with
  | zero => simp [cmpN]
  | succ m ih =>
    unfold cmpN at h1 h2 ⊢
    by_cases e1 : addrN f m n = addrN g m n
    · rw [if_pos e1] at h1
      by_cases e2 : addrN g m n = addrN h m n
      · rw [if_pos e2] at h2
        rw [if_pos (e1.trans e2)]
        exact ih h1 h2
      · rw [if_neg e2] at h2
        rw [e1, if_neg e2]
        exact h2
    · rw [if_neg e1] at h1
      have l1 : addrN f m n < addrN g m n := by
        by_cases x : addrN f m n < addrN g m n
        · exact x
        · rw [if_neg x] at h1; omega
      have l2 : addrN g m n ≤ addrN h m n := by
        by_cases e2 : addrN g m n = addrN h m n
        · omega
        · rw [if_neg e2] at h2
          by_cases x : addrN g m n < addrN h m n
          · omega
          · rw [if_neg x] at h2; omega
      rw [if_neg (by omega), if_pos (by omega)]
      decide

theorem cmpN_trans_ge (f g h : Nat → Nat) (n m : Nat) (h1 : 0 ≤ cmpN f g n m) (h2 : 0 ≤ cmpN g h n m) : 0 ≤ cmpN f h n m := by
  have a := cmpN_swap f g n m
  have b := cmpN_swap g h n m
  have c := cmpN_swap f h n m
  have := cmpN_trans_le h g f n m (by omega) (by omega)
  omega

/-- by the level at which they part -/
theorem cmpN_part (f g : Nat → Nat) (n m : Nat) : cmpN f g n m = if partN f g n m < 0 then 0 else if addrN f (partN f g n m).toNat n < addrN g (partN f g n m).toNat n then -1 else 1 := by
  induction m with
  | zero => rfl
  | succ m ih =>
    unfold cmpN partN
    by_cases h : addrN f m n = addrN g m n
    · rw [if_pos h, if_pos h, ih]
    · rw [if_neg h, if_neg h]
      have h0 : ¬ ((m : Int) < 0) := by omega
      rw [if_neg h0]
      simp

theorem partN_range (f g : Nat → Nat) (n m : Nat) : -1 ≤ partN f g n m ∧ partN f g n m < m := by
  induction m with
  | zero => simp [partN]
  | succ m ih =>
    unfold partN
    split <;> omega

/-- numbers below 2^m are the same if all bits below m are -/
theorem eq_of_bits {x y m : Nat} (hx : x < 2 ^ m) (hy : y < 2 ^ m) (h : ∀ l, l < m → bt1 x l = bt1 y l) : x = y := by
  apply Nat.eq_of_testBit_eq
  intro i
  rcases Nat.lt_or_ge i m with h1 | h1
  · exact (bt1_eq_iff _ _ _).1 (h i h1)
  · rw [Nat.testBit_lt_two_pow (Nat.lt_of_lt_of_le hx (Nat.pow_le_pow_right (by decide) h1)), Nat.testBit_lt_two_pow (Nat.lt_of_lt_of_le hy (Nat.pow_le_pow_right (by decide) h1))]

theorem cmpN_zero_same {f g : Nat → Nat} {n m : Nat} (hf : ∀ i, i < n → f i < 2 ^ m) (hg : ∀ i, i < n → g i < 2 ^ m) : cmpN f g n m = 0 ↔ ∀ i, i < n → f i = g i := by
  rw [cmpN_zero]
  constructor
  · intro h i hi
    exact eq_of_bits (hf i hi) (hg i hi) (fun l hl => (addrN_eq_iff f g l n).1 (h l hl) i hi)
  · intro h l _
    exact addrN_congr (fun i hi => by rw [h i hi])

theorem xor_zero {x y : Nat} (h : x ^^^ y = 0) : x = y := by
  apply Nat.eq_of_testBit_eq
  intro i
  have h1 : (x ^^^ y).testBit i = false := by rw [h]; simp
  rw [Nat.testBit_xor] at h1
  simpa using h1

/-- two numbers that are the same above a level: the lesser one has the lesser bit there -/
theorem lt_iff_bit {x y m : Nat} (h : x ^^^ y < 2 ^ (m + 1)) (hd : bt1 x m ≠ bt1 y m) : (x < y ↔ bt1 x m = 0) := by
  have hs : x / 2 ^ (m + 1) = y / 2 ^ (m + 1) := by
    have h1 : (x ^^^ y) / 2 ^ (m + 1) = 0 := (Nat.div_eq_zero_iff_lt (Nat.two_pow_pos _)).2 h
    rw [← Nat.shiftRight_eq_div_pow, Nat.shiftRight_xor_distrib] at h1
    rw [← Nat.shiftRight_eq_div_pow, ← Nat.shiftRight_eq_div_pow]
    exact xor_zero h1
  have hp : 0 < 2 ^ m := Nat.two_pow_pos m
  have ex : x / 2 ^ m = 2 * (x / 2 ^ (m + 1)) + bt1 x m := by
    unfold bt1
    rw [Nat.pow_succ, ← Nat.div_div_eq_div_mul]
    omega
  have ey : y / 2 ^ m = 2 * (y / 2 ^ (m + 1)) + bt1 y m := by
    unfold bt1
    rw [Nat.pow_succ, ← Nat.div_div_eq_div_mul]
    omega
  have b1 := bt1_lt x m
  have b2 := bt1_lt y m
  constructor
  · intro hl
    have := Nat.div_le_div_right (c := 2 ^ m) (Nat.le_of_lt hl)
    omega
  · intro h0
    have h1 : x / 2 ^ m < y / 2 ^ m := by omega
    rcases Nat.lt_or_ge x y with h2 | h2
    · exact h2
    · have := Nat.div_le_div_right (c := 2 ^ m) h2
      omega

theorem shr_bit {x y m : Nat} (h : x ^^^ y < 2 ^ (m + 1)) : (x ^^^ y) / 2 ^ m = 0 ↔ bt1 x m = bt1 y m := by
  have hp : 0 < 2 ^ m := Nat.two_pow_pos m
  have h1 : (x ^^^ y) / 2 ^ m < 2 := by
    apply (Nat.div_lt_iff_lt_mul hp).2
    rw [Nat.pow_succ] at h; omega
  rw [bt1_eq_iff]
  have h2 : (x ^^^ y).testBit m = decide ((x ^^^ y) / 2 ^ m % 2 = 1) := Nat.testBit_eq_decide_div_mod_eq
  rw [Nat.testBit_xor] at h2
  constructor
  · intro h0
    rw [h0] at h2
    have : (x.testBit m ^^ y.testBit m) = false := by rw [h2]; rfl
    simpa using this
  · intro he
    rw [he] at h2
    have : ¬ (x ^^^ y) / 2 ^ m % 2 = 1 := by
      have := h2.symm
      simp only [Bool.xor_self, decide_eq_false_iff_not] at this
      exact this
    generalize (x ^^^ y) / 2 ^ m = z at h1 this
    omega

end Go.Proofs.YthdphjbecibeaaaMz
