/- Plain facts about the least address of a mask above one that it hasn't, and how many it has below a number; no condition. -/
import Derived.Test.YthdphjbecibeaaaMw
namespace Go.Proofs.YthdphjbecibeaaaMz
set_option linter.unusedVariables false
set_option linter.unusedSimpArgs false

theorem bt1_tb (x i : Nat) : bt1 x i = (x.testBit i).toNat := (Nat.toNat_testBit x i).symm

theorem bt1_join (A r t i : Nat) (hr : r < 2 ^ t) : bt1 (2 ^ t * A + r) i = if i < t then bt1 r i else bt1 A (i - t) := by
  rw [bt1_tb, Nat.testBit_two_pow_mul_add A hr i, bt1_tb, bt1_tb]
  split <;> rfl

theorem bt1_mod (x t i : Nat) (h : i < t) : bt1 (x % 2 ^ t) i = bt1 x i := by
  rw [bt1_tb, bt1_tb, Nat.testBit_mod_two_pow, decide_eq_true h, Bool.true_and]

theorem bt1_div (x t i : Nat) : bt1 (x / 2 ^ t) i = bt1 x (t + i) := by
  unfold bt1
  rw [Nat.div_div_eq_div_mul, ← Nat.pow_add]

/-- an address as x above the place t, set there, and as small as can be below -/
def cand (l x t : Nat) : Nat := 2 ^ t * (2 * (x / 2 ^ (t + 1)) + 1) + l % 2 ^ t

theorem cand_bt1 (l x t i : Nat) : bt1 (cand l x t) i = if i < t then bt1 l i else if i = t then 1 else bt1 x i := by
  have hp := Nat.two_pow_pos t
  unfold cand
  rw [bt1_join _ _ _ _ (Nat.mod_lt _ hp)]
  by_cases h : i < t
  · rw [if_pos h, if_pos h, bt1_mod _ _ _ h]
  · rw [if_neg h, if_neg h]
    by_cases h2 : i = t
    · rw [if_pos h2, h2, Nat.sub_self, bt1_zero _ _ (by decide)]
    · rw [if_neg h2]
      obtain ⟨j, hj⟩ : ∃ j, i - t = j + 1 := ⟨i - t - 1, by omega⟩
      rw [hj, bt1_up _ _ _ (by decide), bt1_div]
      congr 1
      omega

theorem split_at (x t : Nat) : x = 2 ^ t * (2 * (x / 2 ^ (t + 1)) + bt1 x t) + x % 2 ^ t := by
  have h1 := Nat.div_add_mod x (2 ^ t)
  have h2 : x / 2 ^ (t + 1) = x / 2 ^ t / 2 := by rw [Nat.pow_succ, Nat.div_div_eq_div_mul]
  have h3 : 2 * (x / 2 ^ t / 2) + x / 2 ^ t % 2 = x / 2 ^ t := by omega
  unfold bt1
  rw [h2, h3]
  exact h1.symm

theorem cand_gt {l x t : Nat} (h : bt1 x t = 0) : x < cand l x t := by
  have hp := Nat.two_pow_pos t
  have h1 := split_at x t
  have h2 := Nat.mod_lt x hp
  rw [h, Nat.add_zero] at h1
  unfold cand
  rw [Nat.mul_add, Nat.mul_one]
  omega

theorem has_mod {n l h b t : Nat} (ht : t ≤ n) (hb : hasN n l h b) : l % 2 ^ t ≤ b % 2 ^ t := by
  have hp := Nat.two_pow_pos t
  refine (has_le t (l % 2 ^ t) (h % 2 ^ t) (b % 2 ^ t) (Nat.mod_lt _ hp) (Nat.mod_lt _ hp) (Nat.mod_lt _ hp) ?_).1
  intro i hi
  rw [bt1_mod _ _ _ hi, bt1_mod _ _ _ hi, bt1_mod _ _ _ hi]
  exact hb i (by omega)

theorem cand_le {n l h x b t : Nat} (ht : t ≤ n) (hb : hasN n l h b) (h1 : b / 2 ^ (t + 1) = x / 2 ^ (t + 1)) (h2 : bt1 b t = 1) : cand l x t ≤ b := by
  have h3 := split_at b t
  have h4 := has_mod ht hb
  rw [h1, h2] at h3
  unfold cand
  omega

theorem cand_has {n l h x t : Nat} (ht : t < n) (hlh : ¬ noneN n l h) (hc : ∀ i, t < i → i < n → (bt1 l i = 1 → bt1 x i = 1) ∧ (bt1 x i = 1 → bt1 h i = 1)) (h1 : bt1 h t = 1) : hasN n l h (cand l x t) := by
  intro i hi
  rw [cand_bt1]
  by_cases h2 : i < t
  · rw [if_pos h2]
    refine ⟨fun h => h, fun h3 => ?_⟩
    have := bt1_lt h i
    by_cases h4 : bt1 h i = 1
    · exact h4
    · exact absurd ⟨i, hi, h3, by omega⟩ hlh
  · rw [if_neg h2]
    by_cases h3 : i = t
    · rw [if_pos h3, h3]
      exact ⟨fun _ => rfl, fun _ => h1⟩
    · rw [if_neg h3]
      exact hc i (by omega) hi

/-- the search of the least one, from the place t - 1 down -/
def ls (l h x : Nat) : Nat → Nat → Nat
  | 0, best => best
  | t + 1, best =>
    if bt1 l t = 1 ∧ bt1 x t = 0 then cand l x t
    else if bt1 h t = 0 ∧ bt1 x t = 1 then best
    else ls l h x t (if (bt1 h t = 1 ∧ bt1 l t = 0) ∧ bt1 x t = 0 then cand l x t else best)

theorem div_lt_of {b x t : Nat} (h : x / 2 ^ t < b / 2 ^ t) : x < b := by
  rcases Nat.lt_or_ge x b with h1 | h1
  · exact h1
  · have := Nat.div_le_div_right (c := 2 ^ t) h1
    omega

theorem div_step (x t : Nat) : x / 2 ^ t = 2 * (x / 2 ^ (t + 1)) + bt1 x t := by
  have h2 : x / 2 ^ (t + 1) = x / 2 ^ t / 2 := by rw [Nat.pow_succ, Nat.div_div_eq_div_mul]
  unfold bt1
  omega

theorem ls_ok {n l h x : Nat} (hlh : ¬ noneN n l h) (hx : ¬ hasN n l h x) (hh : hasN n l h h) (hxh : x < h) (t : Nat) : ∀ best, t ≤ n →
    (∀ i, t ≤ i → i < n → (bt1 l i = 1 → bt1 x i = 1) ∧ (bt1 x i = 1 → bt1 h i = 1)) →
    ((∃ b, hasN n l h b ∧ x / 2 ^ t < b / 2 ^ t) → hasN n l h best ∧ x < best ∧ ∀ b, hasN n l h b → x / 2 ^ t < b / 2 ^ t → best ≤ b) →
    hasN n l h (ls l h x t best) ∧ x < ls l h x t best ∧ ∀ b, hasN n l h b → x < b → ls l h x t best ≤ b := by
  induction t with
  | zero =>
    intro best _ hc hb
    exact absurd (fun i hi => hc i (Nat.zero_le _) hi) hx
  | succ t ih =>
    intro best ht hc hb
    have c1 := bt1_lt l t
    have c2 := bt1_lt h t
    have c3 := bt1_lt x t
    have hs := div_step x t
    rw [ls]
    by_cases h1 : bt1 l t = 1 ∧ bt1 x t = 0
    · rw [if_pos h1]
      have hht : bt1 h t = 1 := by
        by_cases h4 : bt1 h t = 1
        · exact h4
        · exact absurd ⟨t, by omega, h1.1, by omega⟩ hlh
      refine ⟨cand_has (by omega) hlh (fun i h2 h3 => hc i h2 h3) hht, cand_gt h1.2, fun b hb1 hb2 => ?_⟩
      have hbt := (hb1 t (by omega)).1 h1.1
      have hle : x / 2 ^ (t + 1) ≤ b / 2 ^ (t + 1) := Nat.div_le_div_right (Nat.le_of_lt hb2)
      rcases Nat.eq_or_lt_of_le hle with e | e
      · exact cand_le (by omega) hb1 e.symm hbt
      · have hk : cand l x t / 2 ^ (t + 1) = x / 2 ^ (t + 1) := by
          have hp := Nat.two_pow_pos t
          have hm := Nat.mod_lt l hp
          rw [Nat.pow_succ]
          unfold cand
          rw [← Nat.div_div_eq_div_mul, Nat.mul_add_div hp, Nat.div_eq_of_lt hm, Nat.pow_succ]
          omega
        exact Nat.le_of_lt (div_lt_of (by rw [hk]; exact e))
    · rw [if_neg h1]
      by_cases h2 : bt1 h t = 0 ∧ bt1 x t = 1
      · rw [if_pos h2]
        have key : ∀ b, hasN n l h b → x < b → x / 2 ^ (t + 1) < b / 2 ^ (t + 1) := by
          intro b hb1 hb2
          have hle : x / 2 ^ (t + 1) ≤ b / 2 ^ (t + 1) := Nat.div_le_div_right (Nat.le_of_lt hb2)
          rcases Nat.eq_or_lt_of_le hle with e | e
          · exfalso
            have hbt : bt1 b t = 0 := by
              have hb3 := (hb1 t (by omega)).2
              have := bt1_lt b t
              omega
            have hd := div_step b t
            have hle2 : x / 2 ^ t ≤ b / 2 ^ t := Nat.div_le_div_right (Nat.le_of_lt hb2)
            omega
          · exact e
        obtain ⟨r1, r2, r3⟩ := hb ⟨h, hh, key h hh hxh⟩
        exact ⟨r1, r2, fun b hb1 hb2 => r3 b hb1 (key b hb1 hb2)⟩
      · rw [if_neg h2]
        apply ih _ (by omega)
        · intro i h3 h4
          rcases Nat.eq_or_lt_of_le h3 with e | e
          · subst e
            exact ⟨by omega, by omega⟩
          · exact hc i e h4
        · by_cases h3 : (bt1 h t = 1 ∧ bt1 l t = 0) ∧ bt1 x t = 0
          · rw [if_pos h3]
            intro _
            refine ⟨cand_has (by omega) hlh (fun i h4 h5 => hc i h4 h5) h3.1.1, cand_gt h3.2, fun b hb1 hb2 => ?_⟩
            have hle : x / 2 ^ (t + 1) ≤ b / 2 ^ (t + 1) := Nat.div_le_div_right (Nat.le_of_lt (div_lt_of hb2))
            rcases Nat.eq_or_lt_of_le hle with e | e
            · have hd := div_step b t
              have := bt1_lt b t
              exact cand_le (by omega) hb1 e.symm (by omega)
            · have hk : cand l x t / 2 ^ (t + 1) = x / 2 ^ (t + 1) := by
                have hp := Nat.two_pow_pos t
                have hm := Nat.mod_lt l hp
                rw [Nat.pow_succ]
                unfold cand
                rw [← Nat.div_div_eq_div_mul, Nat.mul_add_div hp, Nat.div_eq_of_lt hm, Nat.pow_succ]
                omega
              exact Nat.le_of_lt (div_lt_of (by rw [hk]; exact e))
          · rw [if_neg h3]
            have key : ∀ b, hasN n l h b → x / 2 ^ t < b / 2 ^ t → x / 2 ^ (t + 1) < b / 2 ^ (t + 1) := by
              intro b hb1 hb2
              have hle : x / 2 ^ (t + 1) ≤ b / 2 ^ (t + 1) := Nat.div_le_div_right (Nat.le_of_lt (div_lt_of hb2))
              rcases Nat.eq_or_lt_of_le hle with e | e
              · exfalso
                have hd := div_step b t
                have hb3 := hb1 t (by omega)
                have := bt1_lt b t
                omega
              · exact e
            intro ⟨b, hb1, hb2⟩
            obtain ⟨r1, r2, r3⟩ := hb ⟨b, hb1, key b hb1 hb2⟩
            exact ⟨r1, r2, fun b hb1 hb2 => r3 b hb1 (key b hb1 hb2)⟩

/-- ranks rise -/
theorem rk_mono (w : Nat) : ∀ l h a b, hasN w l h a → hasN w l h b → a < 2 ^ w → b < 2 ^ w → a < b → rk w l h a < rk w l h b := by
  induction w with
  | zero => intro l h a b _ _ ha hb hab; rw [Nat.pow_zero] at hb; omega
  | succ w ih =>
    intro l h a b h1 h2 ha hb hab
    obtain ⟨l, c, hc, rfl⟩ := half_split l
    obtain ⟨h, d, hd, rfl⟩ := half_split h
    obtain ⟨a, e, he, rfl⟩ := half_split a
    obtain ⟨b, f, hf, rfl⟩ := half_split b
    obtain ⟨q1, p1⟩ := (has_two hc hd he).1 h1
    obtain ⟨q2, p2⟩ := (has_two hc hd hf).1 h2
    rw [Nat.pow_succ] at ha hb
    rw [rk_two hc hd he, rk_two hc hd hf]
    by_cases hfree : c = 0 ∧ d = 1
    · rw [if_pos hfree, if_pos hfree]
      rcases (by omega : a < b ∨ (a = b ∧ e < f)) with h3 | ⟨rfl, h3⟩
      · have := ih l h a b p1 p2 (by omega) (by omega) h3
        omega
      · omega
    · rw [if_neg hfree, if_neg hfree]
      exact ih l h a b p1 p2 (by omega) (by omega) (by omega)

end Go.Proofs.YthdphjbecibeaaaMz
