/- Plain facts about the walk over a mask's addresses: the next one, and how many there are; no condition. -/
import Derived.Test.YthdphjbecibeaaaMk
import Derived.Test.YthdphjbecibeaaaMo
namespace Go.Proofs.YthdphjbecibeaaaMz
set_option linter.unusedVariables false
set_option linter.unusedSimpArgs false

theorem two_or (x y b c : Nat) (hb : b < 2) (hc : c < 2) : (2 * x + b) ||| (2 * y + c) = 2 * (x ||| y) + (b ||| c) := by
  have h1 : ((2 * x + b) ||| (2 * y + c)) / 2 = x ||| y := by
    rw [Nat.or_div_two]
    congr 1 <;> omega
  have h2 : ((2 * x + b) ||| (2 * y + c)) % 2 = b ||| c := by
    have e := Nat.or_mod_two_pow (a := 2 * x + b) (b := 2 * y + c) (n := 1)
    rw [Nat.pow_one] at e
    rw [e]
    congr 1 <;> omega
  omega

theorem two_and (x y b c : Nat) (hb : b < 2) (hc : c < 2) : (2 * x + b) &&& (2 * y + c) = 2 * (x &&& y) + (b &&& c) := by
  have h1 : ((2 * x + b) &&& (2 * y + c)) / 2 = x &&& y := by
    rw [Nat.and_div_two]
    congr 1 <;> omega
  have h2 : ((2 * x + b) &&& (2 * y + c)) % 2 = b &&& c := by
    have e := Nat.and_mod_two_pow (a := 2 * x + b) (b := 2 * y + c) (n := 1)
    rw [Nat.pow_one] at e
    rw [e]
    congr 1 <;> omega
  omega

theorem bt1_zero (x b : Nat) (hb : b < 2) : bt1 (2 * x + b) 0 = b := by
  rw [bt1_double _ _ _ hb, if_pos rfl]

theorem bt1_up (x b i : Nat) (hb : b < 2) : bt1 (2 * x + b) (i + 1) = bt1 x i := by
  rw [bt1_double _ _ _ hb, if_neg (by omega), Nat.add_sub_cancel]

theorem has_two {w l h a b c d : Nat} (hb : b < 2) (hc : c < 2) (hd : d < 2) :
    hasN (w + 1) (2 * l + b) (2 * h + c) (2 * a + d) ↔ (b ≤ d ∧ d ≤ c) ∧ hasN w l h a := by
  constructor
  · intro h1
    refine ⟨?_, fun i hi => ?_⟩
    · have h2 := h1 0 (by omega)
      rw [bt1_zero _ _ hb, bt1_zero _ _ hc, bt1_zero _ _ hd] at h2
      omega
    · have h2 := h1 (i + 1) (by omega)
      rw [bt1_up _ _ _ hb, bt1_up _ _ _ hc, bt1_up _ _ _ hd] at h2
      exact h2
  · intro ⟨h1, h2⟩ i hi
    cases i with
    | zero =>
      rw [bt1_zero _ _ hb, bt1_zero _ _ hc, bt1_zero _ _ hd]
      omega
    | succ i =>
      rw [bt1_up _ _ _ hb, bt1_up _ _ _ hc, bt1_up _ _ _ hd]
      exact h2 i (by omega)

/-- the address behind a, where the mask has it -/
def nx (w l h a : Nat) : Nat := ((((a ||| (2 ^ w - 1 - h)) ||| l) + 1) &&& h) ||| l

/-- how many addresses of the mask lie below a -/
def rk : Nat → Nat → Nat → Nat → Nat
  | 0, _, _, _ => 0
  | w + 1, l, h, a => if l % 2 = 0 ∧ h % 2 = 1 then 2 * rk w (l / 2) (h / 2) (a / 2) + a % 2 else rk w (l / 2) (h / 2) (a / 2)

theorem rk_two {w l h a b c d : Nat} (hb : b < 2) (hc : c < 2) (hd : d < 2) :
    rk (w + 1) (2 * l + b) (2 * h + c) (2 * a + d) = if b = 0 ∧ c = 1 then 2 * rk w l h a + d else rk w l h a := by
  show (if (2 * l + b) % 2 = 0 ∧ (2 * h + c) % 2 = 1 then 2 * rk w ((2 * l + b) / 2) ((2 * h + c) / 2) ((2 * a + d) / 2) + (2 * a + d) % 2 else rk w ((2 * l + b) / 2) ((2 * h + c) / 2) ((2 * a + d) / 2)) = _
  have e1 : (2 * l + b) / 2 = l := by omega
  have e2 : (2 * h + c) / 2 = h := by omega
  have e3 : (2 * a + d) / 2 = a := by omega
  have e4 : (2 * l + b) % 2 = b := by omega
  have e5 : (2 * h + c) % 2 = c := by omega
  have e6 : (2 * a + d) % 2 = d := by omega
  rw [e1, e2, e3, e4, e5, e6]

theorem half_split (x : Nat) : ∃ y b, b < 2 ∧ x = 2 * y + b := ⟨x / 2, x % 2, by omega, by omega⟩

theorem inv_two {w h c : Nat} (hc : c < 2) (hh : 2 * h + c < 2 ^ (w + 1)) : 2 ^ (w + 1) - 1 - (2 * h + c) = 2 * (2 ^ w - 1 - h) + (1 - c) := by
  rw [Nat.pow_succ] at hh ⊢
  omega

theorem stay (w : Nat) : ∀ l h a, l < 2 ^ w → h < 2 ^ w → a < 2 ^ w → hasN w l h a → ((((a ||| (2 ^ w - 1 - h)) ||| l)) &&& h) ||| l = a := by
  induction w with
  | zero =>
    intro l h a hl hh ha _
    have e1 : l = 0 := by simpa using hl
    have e2 : h = 0 := by simpa using hh
    have e3 : a = 0 := by simpa using ha
    subst e1 e2 e3
    rfl
  | succ w ih =>
    intro l h a hl hh ha hs
    obtain ⟨l, b, hb, rfl⟩ := half_split l
    obtain ⟨h, c, hc, rfl⟩ := half_split h
    obtain ⟨a, d, hd, rfl⟩ := half_split a
    obtain ⟨h1, h2⟩ := (has_two hb hc hd).1 hs
    rw [inv_two hc hh]
    have hl' : l < 2 ^ w := by rw [Nat.pow_succ] at hl; omega
    have hh' : h < 2 ^ w := by rw [Nat.pow_succ] at hh; omega
    have ha' : a < 2 ^ w := by rw [Nat.pow_succ] at ha; omega
    have i1 : d ||| (1 - c) < 2 := by rcases (by omega : d = 0 ∨ d = 1) with rfl | rfl <;> rcases (by omega : c = 0 ∨ c = 1) with rfl | rfl <;> decide
    have i2 : (d ||| (1 - c)) ||| b < 2 := by rcases (by omega : d = 0 ∨ d = 1) with rfl | rfl <;> rcases (by omega : c = 0 ∨ c = 1) with rfl | rfl <;> rcases (by omega : b = 0 ∨ b = 1) with rfl | rfl <;> decide
    have i3 : ((d ||| (1 - c)) ||| b) &&& c < 2 := by rcases (by omega : d = 0 ∨ d = 1) with rfl | rfl <;> rcases (by omega : c = 0 ∨ c = 1) with rfl | rfl <;> rcases (by omega : b = 0 ∨ b = 1) with rfl | rfl <;> decide
    rw [two_or _ _ _ _ hd (by omega), two_or _ _ _ _ i1 hb, two_and _ _ _ _ i2 hc, two_or _ _ _ _ i3 hb, ih l h a hl' hh' ha' h2]
    have : ((d ||| (1 - c)) ||| b) &&& c ||| b = d := by
      rcases (by omega : d = 0 ∨ d = 1) with rfl | rfl <;> rcases (by omega : c = 0 ∨ c = 1) with rfl | rfl <;> rcases (by omega : b = 0 ∨ b = 1) with rfl | rfl <;> first | rfl | omega
    rw [this]

theorem nx_two {w l h a b c d : Nat} (hb : b < 2) (hc : c < 2) (hd : d < 2) (hl : l < 2 ^ w) (hh : h < 2 ^ w) (ha : a < 2 ^ w) (hs : hasN w l h a) (hq : b ≤ d ∧ d ≤ c) :
    nx (w + 1) (2 * l + b) (2 * h + c) (2 * a + d) = if b = 0 ∧ c = 1 ∧ d = 0 then 2 * a + 1 else 2 * nx w l h a + b := by
  have hh2 : 2 * h + c < 2 ^ (w + 1) := by rw [Nat.pow_succ]; omega
  have st := stay w l h a hl hh ha hs
  unfold nx
  rw [inv_two hc hh2]
  rcases (by omega : (b = 0 ∧ c = 0 ∧ d = 0) ∨ (b = 0 ∧ c = 1 ∧ d = 0) ∨ (b = 0 ∧ c = 1 ∧ d = 1) ∨ (b = 1 ∧ c = 1 ∧ d = 1)) with ⟨rfl, rfl, rfl⟩ | ⟨rfl, rfl, rfl⟩ | ⟨rfl, rfl, rfl⟩ | ⟨rfl, rfl, rfl⟩
  · rw [if_neg (by omega), two_or _ _ _ _ (by omega) (by omega), two_or _ _ _ _ (by decide) (by omega)]
    have e : 2 * (a ||| 2 ^ w - 1 - h ||| l) + (0 ||| 1 - 0 ||| 0) + 1 = 2 * ((a ||| 2 ^ w - 1 - h ||| l) + 1) + 0 := by
      have : (0 ||| 1 - 0 ||| 0) = 1 := by decide
      omega
    rw [e, two_and _ _ _ _ (by omega) (by omega), two_or _ _ _ _ (by decide) (by omega)]
    rfl
  · rw [if_pos ⟨rfl, rfl, rfl⟩, two_or _ _ _ _ (by omega) (by omega), two_or _ _ _ _ (by decide) (by omega)]
    have e : 2 * (a ||| 2 ^ w - 1 - h ||| l) + (0 ||| 1 - 1 ||| 0) + 1 = 2 * (a ||| 2 ^ w - 1 - h ||| l) + 1 := by
      have : (0 ||| 1 - 1 ||| 0) = 0 := by decide
      omega
    rw [e, two_and _ _ _ _ (by omega) (by omega), two_or _ _ _ _ (by decide) (by omega), st]
    rfl
  · rw [if_neg (by omega), two_or _ _ _ _ (by omega) (by omega), two_or _ _ _ _ (by decide) (by omega)]
    have e : 2 * (a ||| 2 ^ w - 1 - h ||| l) + (1 ||| 1 - 1 ||| 0) + 1 = 2 * ((a ||| 2 ^ w - 1 - h ||| l) + 1) + 0 := by
      have : (1 ||| 1 - 1 ||| 0) = 1 := by decide
      omega
    rw [e, two_and _ _ _ _ (by omega) (by omega), two_or _ _ _ _ (by decide) (by omega)]
    rfl
  · rw [if_neg (by omega), two_or _ _ _ _ (by omega) (by omega), two_or _ _ _ _ (by decide) (by omega)]
    have e : 2 * (a ||| 2 ^ w - 1 - h ||| l) + (1 ||| 1 - 1 ||| 1) + 1 = 2 * ((a ||| 2 ^ w - 1 - h ||| l) + 1) + 0 := by
      have : (1 ||| 1 - 1 ||| 1) = 1 := by decide
      omega
    rw [e, two_and _ _ _ _ (by omega) (by omega), two_or _ _ _ _ (by decide) (by omega)]
    rfl

theorem nx_ok (w : Nat) : ∀ l h a, l < 2 ^ w → h < 2 ^ w → a < 2 ^ w → hasN w l h a → a ≠ h →
    a < nx w l h a ∧ nx w l h a < 2 ^ w ∧ hasN w l h (nx w l h a) ∧ rk w l h (nx w l h a) = rk w l h a + 1 := by
  induction w with
  | zero =>
    intro l h a hl hh ha _ hne
    have e2 : h = 0 := by simpa using hh
    have e3 : a = 0 := by simpa using ha
    omega
  | succ w ih =>
    intro l h a hl hh ha hs hne
    obtain ⟨l, b, hb, rfl⟩ := half_split l
    obtain ⟨h, c, hc, rfl⟩ := half_split h
    obtain ⟨a, d, hd, rfl⟩ := half_split a
    obtain ⟨h1, h2⟩ := (has_two hb hc hd).1 hs
    have ew : 2 ^ (w + 1) = 2 * 2 ^ w := by rw [Nat.pow_succ, Nat.mul_comm]
    rw [ew] at hl hh ha ⊢
    have hl' : l < 2 ^ w := by omega
    have hh' : h < 2 ^ w := by omega
    have ha' : a < 2 ^ w := by omega
    rw [nx_two hb hc hd hl' hh' ha' h2 h1]
    by_cases hf : b = 0 ∧ c = 1 ∧ d = 0
    · obtain ⟨rfl, rfl, rfl⟩ := hf
      rw [if_pos ⟨rfl, rfl, rfl⟩, rk_two (by omega) (by omega) (by omega), rk_two (by omega) (by omega) (by omega), has_two (by omega) (by omega) (by omega)]
      refine ⟨by omega, by omega, ⟨by omega, h2⟩, ?_⟩
      rw [if_pos ⟨rfl, rfl⟩, if_pos ⟨rfl, rfl⟩]
    · rw [if_neg hf]
      have hne' : a ≠ h := by
        intro h3
        apply hne
        subst h3
        omega
      obtain ⟨i1, i2, i3, i4⟩ := ih l h a hl' hh' ha' h2 hne'
      rw [rk_two hb hc hb, rk_two hb hc hd, has_two hb hc hb, i4]
      refine ⟨by omega, by omega, ⟨by omega, i3⟩, ?_⟩
      split <;> omega

/-- how many bits are free -/
def pd : Nat → Nat → Nat → Nat
  | 0, _, _ => 0
  | w + 1, l, h => pd w (l / 2) (h / 2) + if l % 2 = 0 ∧ h % 2 = 1 then 1 else 0

theorem rk_high (w : Nat) : ∀ l h, rk w l h h + 1 = 2 ^ pd w l h := by
  induction w with
  | zero => intro l h; rfl
  | succ w ih =>
    intro l h
    have := ih (l / 2) (h / 2)
    show (if l % 2 = 0 ∧ h % 2 = 1 then 2 * rk w (l / 2) (h / 2) (h / 2) + h % 2 else rk w (l / 2) (h / 2) (h / 2)) + 1 = 2 ^ (pd w (l / 2) (h / 2) + if l % 2 = 0 ∧ h % 2 = 1 then 1 else 0)
    by_cases hf : l % 2 = 0 ∧ h % 2 = 1
    · rw [if_pos hf, if_pos hf, Nat.pow_succ, ← this]
      omega
    · rw [if_neg hf, if_neg hf, Nat.add_zero]
      exact this

theorem rk_lt (w : Nat) : ∀ l h a, rk w l h a < 2 ^ pd w l h := by
  induction w with
  | zero => intro l h a; exact Nat.one_pos
  | succ w ih =>
    intro l h a
    have := ih (l / 2) (h / 2) (a / 2)
    show (if l % 2 = 0 ∧ h % 2 = 1 then 2 * rk w (l / 2) (h / 2) (a / 2) + a % 2 else rk w (l / 2) (h / 2) (a / 2)) < 2 ^ (pd w (l / 2) (h / 2) + if l % 2 = 0 ∧ h % 2 = 1 then 1 else 0)
    by_cases hf : l % 2 = 0 ∧ h % 2 = 1
    · rw [if_pos hf, if_pos hf, Nat.pow_succ]
      omega
    · rw [if_neg hf, if_neg hf, Nat.add_zero]
      exact this

theorem rk_low (w : Nat) : ∀ l h, rk w l h l = 0 := by
  induction w with
  | zero => intro l h; rfl
  | succ w ih =>
    intro l h
    show (if l % 2 = 0 ∧ h % 2 = 1 then 2 * rk w (l / 2) (h / 2) (l / 2) + l % 2 else rk w (l / 2) (h / 2) (l / 2)) = 0
    rw [ih]
    split <;> omega

theorem pcN_low (x b n : Nat) (hb : b < 2) : pcN (2 * x + b) (n + 1) = pcN x n + b := by
  induction n with
  | zero =>
    unfold pcN
    rw [bt1_zero _ _ hb]
    rfl
  | succ n ih =>
    rw [pcN, ih, bt1_up _ _ _ hb, pcN]
    omega

theorem pd_pc (w : Nat) : ∀ l h x, (∀ i, i < w → bt1 x i = if bt1 l i = 0 ∧ bt1 h i = 1 then 1 else 0) → pcN x w = pd w l h := by
  induction w with
  | zero => intro l h x _; rfl
  | succ w ih =>
    intro l h x hx
    obtain ⟨l, b, hb, rfl⟩ := half_split l
    obtain ⟨h, c, hc, rfl⟩ := half_split h
    obtain ⟨x, d, hd, rfl⟩ := half_split x
    rw [pcN_low _ _ _ hd, pd]
    have e1 : (2 * l + b) / 2 = l := by omega
    have e2 : (2 * h + c) / 2 = h := by omega
    have e4 : (2 * l + b) % 2 = b := by omega
    have e5 : (2 * h + c) % 2 = c := by omega
    have h0 := hx 0 (by omega)
    rw [bt1_zero _ _ hb, bt1_zero _ _ hc, bt1_zero _ _ hd] at h0
    rw [e1, e2, e4, e5, ← h0]
    rw [ih l h x]
    intro i hi
    have h1 := hx (i + 1) (by omega)
    rwa [bt1_up _ _ _ hb, bt1_up _ _ _ hc, bt1_up _ _ _ hd] at h1

theorem pc_far (x : Nat) (hx : x < 65536) (d : Nat) : pcN x (16 + d) = pcN x 16 := by
  induction d with
  | zero => rfl
  | succ d ih =>
    rw [← Nat.add_assoc, pcN, ih, bt1_high (k := 16) hx (by omega)]
    rfl

theorem andn_bt1 (h l i : Nat) (hh : h < 18446744073709551616) (hl : l < 18446744073709551616) (hi : i < 64) : bt1 (andn h l) i = if bt1 l i = 0 ∧ bt1 h i = 1 then 1 else 0 := by
  have h1 := tb1 (andn h l) i
  have h2 := tb1 h i
  have h3 := tb1 l i
  have b1 := bt1_lt (andn h l) i
  have b2 := bt1_lt h i
  have b3 := bt1_lt l i
  unfold andn at h1 b1 ⊢
  rw [Nat.testBit_and, inv_testBit _ _ hl, decide_eq_true hi] at h1
  simp only [Bool.true_and] at h1
  cases e1 : h.testBit i <;> cases e2 : l.testBit i <;> rw [e1] at h1 h2 <;> rw [e2] at h1 h3 <;> simp at h1 h2 h3 <;> split <;> omega

/-- how many addresses a mask of at most 16 bits has: the rank of the last one and one more -/
theorem rank_count (l h : Nat) (hl : l < 65536) (hh : h < 65536) : rk 64 l h h + 1 = 2 ^ pcN (andn h l) 16 := by
  rw [rk_high, ← pd_pc 64 l h (andn h l) fun i hi => andn_bt1 h l i (by omega) (by omega) hi]
  have h1 : andn h l < 65536 := Nat.lt_of_le_of_lt Nat.and_le_left hh
  rw [← pc_far _ h1 48]

theorem rank_lt (l h a : Nat) (hl : l < 65536) (hh : h < 65536) : rk 64 l h a < 2 ^ pcN (andn h l) 16 := by
  rw [← rank_count l h hl hh, rk_high]
  exact rk_lt 64 l h a

theorem pc_near {x n : Nat} (hx : x < 2 ^ n) (hn : n ≤ 16) : pcN x 16 ≤ n := by
  have e : ∀ m, pcN x (n + m) = pcN x n := by
    intro m
    induction m with
    | zero => rfl
    | succ m ih => rw [← Nat.add_assoc, pcN, ih, bt1_high hx (by omega)]; rfl
  have e16 := e (16 - n)
  rw [show n + (16 - n) = 16 by omega] at e16
  rw [e16]
  exact pcN_le x n

theorem has_up {n l h a : Nat} (hn : n ≤ 64) (hl : l < 2 ^ n) (hh : h < 2 ^ n) (ha : a < 2 ^ n) : hasN n l h a ↔ hasN 64 l h a := by
  constructor
  · intro h1 i hi
    rcases Nat.lt_or_ge i n with h2 | h2
    · exact h1 i h2
    · rw [bt1_high hl h2, bt1_high ha h2]
      omega
  · intro h1 i hi
    exact h1 i (by omega)

theorem has_le (w : Nat) : ∀ l h a, l < 2 ^ w → h < 2 ^ w → a < 2 ^ w → hasN w l h a → l ≤ a ∧ a ≤ h := by
  induction w with
  | zero =>
    intro l h a hl hh ha _
    have e1 : l = 0 := by simpa using hl
    have e2 : h = 0 := by simpa using hh
    have e3 : a = 0 := by simpa using ha
    omega
  | succ w ih =>
    intro l h a hl hh ha hs
    obtain ⟨l, b, hb, rfl⟩ := half_split l
    obtain ⟨h, c, hc, rfl⟩ := half_split h
    obtain ⟨a, d, hd, rfl⟩ := half_split a
    obtain ⟨h1, h2⟩ := (has_two hb hc hd).1 hs
    rw [Nat.pow_succ] at hl hh ha
    have := ih l h a (by omega) (by omega) (by omega) h2
    omega

end Go.Proofs.YthdphjbecibeaaaMz
