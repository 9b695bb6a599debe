/- pantilelaw04.MaskLeft answers true for every mask and number; no condition beyond the row's own. -/
import Derived.Test.YthdphjbecibeaaaFwMaskLeft
namespace Go.Proofs.Ythdphjbecibeaaa.Pure
open Go.RowKit Go.Proofs.Ythdphjbecibeaaa.PMaskLeft Go.Proofs.YthdphjbecibeaaaW.PrintWords Go.Proofs.YthdphjbecibeaaaW.PrintLast Go.Proofs.YthdphjbecibeaaaW.PrintMore Go.Proofs.Ythdphjbecibeaaa.FMaskLeft Go.Proofs.YthdphjbecibeaaaMz
set_option linter.unusedVariables false
set_option linter.unusedSimpArgs false

theorem bit0 {a t : Nat} (ha : a < 65536) (ht : t ≤ 16) : Go.bits .and .i64 (a : Int) ((2 ^ t : Nat) : Int) = 0 ↔ bt1 a t = 0 := by
  rw [and_pow_zero ha ht]
  have hp := Nat.two_pow_pos t
  have hb := bt1_lt a t
  rcases (by omega : bt1 a t = 0 ∨ bt1 a t = 1) with h | h
  · rw [h, Nat.zero_mul]
    simp
  · rw [h, Nat.one_mul]
    omega

theorem bit0b {a t : Nat} (ha : a < 65536) (ht : t ≤ 16) : (Go.bits .and .i64 (a : Int) ((2 ^ t : Nat) : Int) == 0) = decide (bt1 a t = 0) := by
  rw [Bool.eq_iff_iff, beq_iff_eq, decide_eq_true_eq]
  exact bit0 ha ht

theorem hbit_half (t : Nat) : ((2 ^ t : Nat) : Int) / 2 = ((hbit t : Nat) : Int) := by
  cases t with
  | zero => rfl
  | succ t =>
    show ((2 ^ (t + 1) : Nat) : Int) / 2 = ((2 ^ t : Nat) : Int)
    rw [Nat.pow_succ]
    omega

theorem least_loop {n : Int} {l h x : Nat} (hl : l < 65536) (hh : h < 65536) (hx : x < 65536) (t : Nat) : ∀ (k best : Nat), t ≤ 16 → 4 * t + 4 < k →
    mask_Mask_least.l0 k (x : Int) ((andn h l : Nat) : Int) (best : Int) ((2 ^ t * (x / 2 ^ t) : Nat) : Int) ((hbit t : Nat) : Int) n (l : Int) (h : Int) = some ((ls l h x t best : Nat) : Int) := by
  induction t with
  | zero =>
    intro k best _ hk
    obtain ⟨k, rfl⟩ : ∃ m, k = m + 1 := ⟨k - 1, by omega⟩
    simp only [mask_Mask_least.l0]
    rw [if_neg (by simp [hbit])]
    rfl
  | succ t ih =>
    intro k best ht hk
    obtain ⟨k, rfl⟩ : ∃ m, k = m + 1 + 1 + 1 + 1 := ⟨k - 4, by omega⟩
    have hp := Nat.two_pow_pos t
    have hp2 : 2 ^ t ≤ 2 ^ 15 := Nat.pow_le_pow_right (by decide) (by omega)
    have hf : andn h l < 65536 := Nat.lt_of_le_of_lt Nat.and_le_left hh
    have c1 := bt1_lt l t
    have c2 := bt1_lt h t
    have c3 := bt1_lt x t
    have hfree := andn_bt1 h l t (by omega) (by omega) (by omega)
    have ew : wrap64 (((2 ^ t : Nat) : Int) - 1) = ((2 ^ t - 1 : Nat) : Int) := by
      rw [wrap64_id (by omega) (by omega)]
      omega
    have hcand := cand_prog hl hx (by omega : t ≤ 15)
    have hsame : Go.bits .or .i64 ((2 ^ (t + 1) * (x / 2 ^ (t + 1)) : Nat) : Int) (Go.bits .and .i64 (x : Int) ((2 ^ t : Nat) : Int)) = ((2 ^ t * (x / 2 ^ t) : Nat) : Int) := by
      rw [and_pow_zero hx (by omega), same_prog hx (by omega)]
    show mask_Mask_least.l0 (k + 1 + 1 + 1 + 1) (x : Int) ((andn h l : Nat) : Int) (best : Int) ((2 ^ (t + 1) * (x / 2 ^ (t + 1)) : Nat) : Int) ((2 ^ t : Nat) : Int) n (l : Int) (h : Int) = _
    generalize hB : ((2 ^ (t + 1) * (x / 2 ^ (t + 1)) : Nat) : Int) = S at hcand hsame
    -- the last two steps
    have j3 : ∀ (B : Nat), (bt1 h t = 0 → B = best) → B = (if (bt1 h t = 1 ∧ bt1 l t = 0) ∧ bt1 x t = 0 then cand l x t else best) →
        mask_Mask_least.j2 (k + 1 + 1) (x : Int) ((andn h l : Nat) : Int) (B : Int) S ((2 ^ t : Nat) : Int) ((2 ^ t - 1 : Nat) : Int) n (l : Int) (h : Int) = some ((ls l h x (t + 1) best : Nat) : Int) := by
      intro B hB0 hB1
      have fin : mask_Mask_least.j3 (k + 1) (x : Int) ((andn h l : Nat) : Int) (B : Int) S ((2 ^ t : Nat) : Int) ((2 ^ t - 1 : Nat) : Int) (decide (bt1 l t = 1 ∧ bt1 x t = 0)) n (l : Int) (h : Int) = some ((ls l h x (t + 1) best : Nat) : Int) := by
        simp only [mask_Mask_least.j3]
        rw [ls]
        by_cases q1 : bt1 l t = 1 ∧ bt1 x t = 0
        · rw [decide_eq_true q1, if_pos rfl, if_pos q1, hcand]
        · rw [decide_eq_false q1, if_neg (by simp), if_neg q1, hsame, hbit_half]
          have next := ih k B (by omega) (by omega)
          by_cases q2 : bt1 h t = 0
          · rw [if_pos ((bit0 hh (by omega)).2 q2)]
            by_cases q3 : bt1 x t = 0
            · rw [if_pos ((bit0 hx (by omega)).2 q3), if_neg (by omega), next, hB1]
            · rw [if_neg (fun e => q3 ((bit0 hx (by omega)).1 e)), if_pos ⟨q2, by omega⟩, hB0 q2]
          · rw [if_neg (fun e => q2 ((bit0 hh (by omega)).1 e)), if_neg (by omega), next, hB1]
      simp only [mask_Mask_least.j2]
      by_cases q1 : bt1 l t = 0
      · rw [if_pos ((bit0 hl (by omega)).2 q1)]
        rw [decide_eq_false (by omega)] at fin
        exact fin
      · rw [if_neg (fun e => q1 ((bit0 hl (by omega)).1 e)), bit0b hx (by omega)]
        have : decide (bt1 x t = 0) = decide (bt1 l t = 1 ∧ bt1 x t = 0) := decide_eq_decide.2 (by omega)
        rw [this]
        exact fin
    have j1 : mask_Mask_least.j1 (k + 1 + 1 + 1) (x : Int) ((andn h l : Nat) : Int) (best : Int) S ((2 ^ t : Nat) : Int) ((2 ^ t - 1 : Nat) : Int) (decide ((bt1 h t = 1 ∧ bt1 l t = 0) ∧ bt1 x t = 0)) n (l : Int) (h : Int) = some ((ls l h x (t + 1) best : Nat) : Int) := by
      simp only [mask_Mask_least.j1]
      by_cases q : (bt1 h t = 1 ∧ bt1 l t = 0) ∧ bt1 x t = 0
      · rw [decide_eq_true q, if_pos rfl, hcand]
        exact j3 (cand l x t) (fun e => by omega) (if_pos q).symm
      · rw [decide_eq_false q, if_neg (by simp)]
        exact j3 best (fun _ => rfl) (if_neg q).symm
    simp only [mask_Mask_least.l0]
    rw [if_pos (by omega), ew]
    by_cases q : bt1 (andn h l) t = 0
    · rw [if_pos ((bit0 hf (by omega)).2 q)]
      rw [decide_eq_false] at j1
      · exact j1
      · intro q2
        rw [if_pos ⟨q2.1.2, q2.1.1⟩] at hfree
        omega
    · rw [if_neg (fun e => q ((bit0 hf (by omega)).1 e)), bit0b hx (by omega)]
      have q2 : bt1 l t = 0 ∧ bt1 h t = 1 := by
        by_cases q3 : bt1 l t = 0 ∧ bt1 h t = 1
        · exact q3
        · rw [if_neg q3] at hfree
          exact absurd hfree q
      have : decide (bt1 x t = 0) = decide ((bt1 h t = 1 ∧ bt1 l t = 0) ∧ bt1 x t = 0) := decide_eq_decide.2 (by omega)
      rw [this]
      exact j1

theorem nx_least {n l h x : Nat} (hn : n ≤ 16) (hl : l < 2 ^ n) (hh : h < 2 ^ n) (hx : x < 2 ^ n) (hs : hasN n l h x) (hne : x ≠ h) :
    nx 64 l h x < 2 ^ n ∧ hasN n l h (nx 64 l h x) ∧ x < nx 64 l h x ∧ ∀ c, c < 2 ^ n → hasN n l h c → x < c → nx 64 l h x ≤ c := by
  have e16 : n ≤ 64 := by omega
  have hp64 : 2 ^ n ≤ 2 ^ 64 := Nat.pow_le_pow_right (by decide) e16
  have hm64 := (has_up e16 hl hh hx).1 hs
  obtain ⟨i1, i2, i3, i4⟩ := nx_ok 64 l h x (by omega) (by omega) (by omega) hm64 hne
  have hle := has_le 64 l h _ (by omega) (by omega) i2 i3
  have hlt : nx 64 l h x < 2 ^ n := Nat.lt_of_le_of_lt hle.2 hh
  refine ⟨hlt, (has_up e16 hl hh hlt).2 i3, i1, fun c hc1 hc2 hc3 => ?_⟩
  have hc64 := (has_up e16 hl hh hc1).1 hc2
  have q1 := rk_mono 64 l h x c hm64 hc64 (by omega) (by omega) hc3
  rcases Nat.lt_or_ge c (nx 64 l h x) with h9 | h9
  · have q2 := rk_mono 64 l h c (nx 64 l h x) hc64 i3 (by omega) i2 h9
    omega
  · exact h9

theorem has_ends {n l h : Nat} (hlh : ¬ noneN n l h) : hasN n l h l ∧ hasN n l h h := by
  have key : ∀ i, i < n → bt1 l i = 1 → bt1 h i = 1 := by
    intro i hi h3
    have := bt1_lt h i
    by_cases h4 : bt1 h i = 1
    · exact h4
    · exact absurd ⟨i, hi, h3, by omega⟩ hlh
  exact ⟨fun i hi => ⟨fun h => h, key i hi⟩, fun i hi => ⟨key i hi, fun h => h⟩⟩

/-- what Next answers: the least address left above a number, if there is one -/
def NextIs (n l h : Nat) (x : Int) (r : Int × Bool) : Prop :=
  (∃ b, b < 2 ^ n ∧ hasN n l h b ∧ x < (b : Int) ∧ (∀ c, c < 2 ^ n → hasN n l h c → x < (c : Int) → b ≤ c) ∧ r = ((b : Int), true)) ∨ ((∀ c, c < 2 ^ n → hasN n l h c → ¬ x < (c : Int)) ∧ r = (0, false))

theorem least_ok {n l h x : Nat} (h1 : 1 ≤ n) (hn : n ≤ 16) (hl : l < 2 ^ n) (hh : h < 2 ^ n) (hlh : ¬ noneN n l h) (hx : ¬ hasN n l h x) (hxh : x < h) {k : Nat} (hk : 100 ≤ k) :
    ∃ b : Nat, mask_Mask_least.f k (n : Int) (l : Int) (h : Int) (x : Int) = some (b : Int) ∧ b < 2 ^ n ∧ hasN n l h b ∧ x < b ∧ ∀ c, hasN n l h c → x < c → b ≤ c := by
  have hp : 2 ^ n ≤ 65536 := Nat.pow_le_pow_right (n := 2) (by decide) hn
  have hl' := Nat.lt_of_lt_of_le hl hp
  have hh' := Nat.lt_of_lt_of_le hh hp
  obtain ⟨m, rfl⟩ : ∃ m, n = m + 1 := ⟨n - 1, by omega⟩
  have hE := (has_ends hlh).2
  have key := ls_ok hlh hx hE hxh (m + 1) h (Nat.le_refl _) (fun i h2 h3 => by omega) (fun _ => ⟨hE, hxh, fun b _ hb => by
    have h4 : x / 2 ^ (m + 1) = 0 := Nat.div_eq_of_lt (by omega)
    rw [h4] at hb
    rcases Nat.lt_or_ge b (2 ^ (m + 1)) with h5 | h5
    · rw [Nat.div_eq_of_lt h5] at hb
      omega
    · omega⟩)
  refine ⟨ls l h x (m + 1) h, ?_, Nat.lt_of_le_of_lt (key.2.2 h hE hxh) hh, key.1, key.2.1, key.2.2⟩
  have lp := least_loop (n := ((m + 1 : Nat) : Int)) hl' hh' (x := x) (by omega) (m + 1) k h (by omega) (by omega)
  have e0 : 2 ^ (m + 1) * (x / 2 ^ (m + 1)) = 0 := by rw [Nat.div_eq_of_lt (by omega), Nat.mul_zero]
  rw [e0] at lp
  unfold mask_Mask_least.f
  have ew : wrap64 (((m + 1 : Nat) : Int) - 1) = (m : Int) := by
    rw [wrap64_id (by omega) (by omega)]
    omega
  rw [ew, if_pos (by omega), shl_one m (by omega), i64_andNot_nat _ _ (by omega) (by omega)]
  exact lp

theorem First_ok {n l h : Int} (hN : mask_Mask_None.f n l h = some false) : mask_Mask_First.f n l h = some (l, true) := by
  unfold mask_Mask_First.f
  rw [hN, Option.bind_some, if_neg (by simp)]

theorem First_none {n l h : Int} (hN : mask_Mask_None.f n l h = some true) : mask_Mask_First.f n l h = some (0, false) := by
  unfold mask_Mask_First.f
  rw [hN, Option.bind_some, if_pos rfl]

theorem Next_none {n l h x : Int} {k : Nat} (hN : mask_Mask_None.f n l h = some true) : mask_Mask_Next.f k n l h x = some (0, false) := by
  unfold mask_Mask_Next.f
  rw [hN, Option.bind_some, if_pos rfl]

theorem Count_none {n l h : Int} (hN : mask_Mask_None.f n l h = some true) : mask_Mask_Count.f n l h = some 0 := by
  unfold mask_Mask_Count.f
  rw [hN, Option.bind_some, if_pos rfl]

theorem Has_none {n l h x : Int} (hN : mask_Mask_None.f n l h = some true) : mask_Mask_Has.f n l h x = some false := by
  unfold mask_Mask_Has.f
  rw [hN, Option.bind_some, if_pos rfl]

theorem Next_below {n l h x : Int} {k : Nat} (hN : mask_Mask_None.f n l h = some false) (h1 : x < l) : mask_Mask_Next.f k n l h x = some (l, true) := by
  unfold mask_Mask_Next.f
  rw [hN, Option.bind_some, if_neg (by simp), if_pos h1, First_ok hN]
  rfl

theorem Next_above {n l h x : Int} {k : Nat} (hN : mask_Mask_None.f n l h = some false) (h1 : ¬ x < l) (h2 : x ≥ h) : mask_Mask_Next.f k n l h x = some (0, false) := by
  unfold mask_Mask_Next.f
  rw [hN, Option.bind_some, if_neg (by simp), if_neg h1, if_pos h2]

theorem Next_least {n l h x b : Int} {k : Nat} (hN : mask_Mask_None.f n l h = some false) (h1 : ¬ x < l) (h2 : ¬ x ≥ h) (h3 : mask_Mask_Has.f n l h x = some false) (h4 : mask_Mask_least.f k n l h x = some b) : mask_Mask_Next.f k n l h x = some (b, true) := by
  unfold mask_Mask_Next.f
  rw [hN, Option.bind_some, if_neg (by simp), if_neg h1, if_neg h2, h3, Option.bind_some, if_neg (by simp), h4, Option.bind_some]

theorem Next_ok {n l h : Nat} (h1 : 1 ≤ n) (hn : n ≤ 16) (hl : l < 2 ^ n) (hh : h < 2 ^ n) (hlh : ¬ noneN n l h) {x : Int} (hx : -9223372036854775808 ≤ x ∧ x < 9223372036854775808) {k : Nat} (hk : 100 ≤ k) :
    ∃ r, mask_Mask_Next.f k (n : Int) (l : Int) (h : Int) x = some r ∧ NextIs n l h x r := by
  obtain ⟨hE1, hE2⟩ := has_ends hlh
  have hN := none_false h1 hn hl hh hE1
  by_cases c1 : x < (l : Int)
  · refine ⟨_, Next_below hN c1, Or.inl ⟨l, hl, hE1, c1, fun c hc1 hc2 _ => (has_le n l h c hl hh hc1 hc2).1, rfl⟩⟩
  · by_cases c2 : x ≥ (h : Int)
    · refine ⟨_, Next_above hN c1 c2, Or.inr ⟨fun c hc1 hc2 hc3 => ?_, rfl⟩⟩
      have := (has_le n l h c hl hh hc1 hc2).2
      omega
    · obtain ⟨X, rfl⟩ : ∃ X : Nat, x = (X : Int) := ⟨x.toNat, by omega⟩
      have hX : X < 2 ^ n := by omega
      by_cases c3 : hasN n l h X
      · refine ⟨_, Next_at h1 hn hl hh hX c3 k, Or.inl ?_⟩
        have hne : X ≠ h := by omega
        obtain ⟨q1, q2, q3, q4⟩ := nx_least hn hl hh hX c3 hne
        exact ⟨_, q1, q2, by omega, fun c hc1 hc2 hc3 => q4 c hc1 hc2 (by omega), if_neg hne⟩
      · have hH := Has_eq h1 hn hl hh (addr := (X : Int)) (by omega)
        rw [decide_eq_false (fun e => c3 (by have := e.2.2; rwa [Int.toNat_natCast] at this))] at hH
        obtain ⟨b, q0, q1, q2, q3, q4⟩ := least_ok h1 hn hl hh hlh c3 (by omega : X < h) hk
        exact ⟨_, Next_least hN c1 c2 hH q0, Or.inl ⟨b, q1, q2, by omega, fun c hc1 hc2 hc3 => q4 c hc2 (by omega), rfl⟩⟩

theorem lfL_nil {p : Nat → Bool} (hp : ∀ c, p c = false) (d : Nat) : ∀ m, lfL p m d = [] := by
  induction d with
  | zero => intro m; rfl
  | succ d ih =>
    intro m
    unfold lfL
    rw [hp m, if_neg (by simp), ih (m + 1)]

theorem law_loop (x nxv : Int) (is : Bool) (d : Nat) : ∀ (k i : Nat) (L : List Int), i + d = L.length → L.length ≤ 100000 → d < k →
    pantilelaw04_MaskLeft.l0 k x nxv is L (i : Int) = some (srch x nxv is (L.drop i)) := by
  induction d with
  | zero =>
    intro k i L hi hL hk
    obtain ⟨k, rfl⟩ : ∃ m, k = m + 1 := ⟨k - 1, by omega⟩
    simp only [pantilelaw04_MaskLeft.l0]
    rw [if_neg (by omega), List.drop_of_length_le (by omega)]
    cases is <;> rfl
  | succ d ih =>
    intro k i L hi hL hk
    obtain ⟨k, rfl⟩ : ∃ m, k = m + 1 := ⟨k - 1, by omega⟩
    have ew : wrap64 ((i : Int) + 1) = ((i + 1 : Nat) : Int) := by rw [wrap64_id (by omega) (by omega)]; omega
    have hlt : i < L.length := by omega
    have er : rd L (i : Int) = L[i] := by
      unfold rd
      rw [Int.toNat_natCast, List.getD_eq_getElem?_getD, List.getElem?_eq_getElem hlt]
      rfl
    simp only [pantilelaw04_MaskLeft.l0]
    rw [if_pos (by omega), if_pos (by omega), er, ew, List.drop_eq_getElem_cons hlt, srch, ih k (i + 1) L (by omega) hL (by omega)]
    by_cases c : L[i] > x
    · rw [if_pos c, if_pos c]
      cases is <;> rfl
    · rw [if_neg c, if_neg c]

theorem law_srch {x nxv : Int} {is : Bool} {L : List Int} (hL : L.length ≤ 2000) {k : Nat} (hk : 3000 ≤ k) :
    pantilelaw04_MaskLeft.j1 k x nxv is L false = some (srch x nxv is L) := by
  obtain ⟨k, rfl⟩ : ∃ m, k = m + 1 := ⟨k - 1, by omega⟩
  simp only [pantilelaw04_MaskLeft.j1]
  rw [if_neg (by simp)]
  exact law_loop x nxv is L.length k 0 L (by omega) (by omega) (by omega)

theorem srch_next {n l h : Nat} {x : Int} {r : Int × Bool} (hr : NextIs n l h x r) : srch x r.1 r.2 (lfL (isL n l h) 0 (2 ^ n)) = true := by
  rcases hr with ⟨b, q1, q2, q3, q4, rfl⟩ | ⟨q1, rfl⟩
  · exact srch_hit (n := n) ((isL_iff _ _ _ _).2 q2) q3 q1 (fun c hc1 hc2 hc3 => q4 c hc2 ((isL_iff _ _ _ _).1 hc1) hc3) (2 ^ n) 0 (by omega) (Nat.zero_le _)
  · exact srch_miss (P := 2 ^ n) (fun c hc1 hc2 => q1 c hc2 ((isL_iff _ _ _ _).1 hc1)) (2 ^ n) 0 (by omega)

/-- the law for a right mask, its callees' answers given -/
theorem left_right {n l h x : Int} {nr : Int × Bool} {fr : Int × Bool} {L : List Int} {no : Bool} {ha : Bool} {k : Nat} (hk : 3000 ≤ k) (hL : L.length ≤ 2000)
    (h1 : mask_Mask_First.f n l h = some fr) (h2 : mask_Mask_Next.f k n l h x = some nr) (h3 : pantileref04_Right.f k n l h = some true) (h4 : pantileref04_Left.f k n l h = some L)
    (h5 : mask_Mask_None.f n l h = some no) (h6 : no = ((L.length : Int) == 0)) (h7 : mask_Mask_Count.f n l h = some (L.length : Int)) (h8 : mask_Mask_Has.f n l h x = some ha) (h9 : pantileref04_Has.f k n l h x = some ha)
    (h10 : fr.2 = decide ((L.length : Int) > 0)) (h11 : fr.2 = true → fr.1 = rd L 0) (h12 : fr.2 = false → fr.1 = 0) (h13 : srch x nr.1 nr.2 L = true) :
    pantilelaw04_MaskLeft.j0 (k + 1) x false n l h = some true := by
  obtain ⟨f1, f2⟩ := fr
  obtain ⟨n1, n2⟩ := nr
  simp only [pantilelaw04_MaskLeft.j0]
  rw [if_neg (by simp), h1, Option.bind_some, h2, Option.bind_some, h3, Option.bind_some, if_pos rfl, h4, Option.bind_some, h5, Option.bind_some, h6]
  rw [bne_self_eq_false, if_neg (by simp), h7, Option.bind_some, if_pos rfl, h8, Option.bind_some, h9, Option.bind_some, bne_self_eq_false, if_neg (by simp)]
  dsimp only at h10 h11 h12 h13 ⊢
  rw [← h10, bne_self_eq_false, if_neg (by simp)]
  have fin := law_srch (x := x) (nxv := n1) (is := n2) hL hk
  rw [h13] at fin
  cases f2 with
  | true =>
    have h14 := of_decide_eq_true h10.symm
    rw [if_pos rfl, if_pos (by omega), if_pos (h11 rfl)]
    exact fin
  | false =>
    rw [if_neg (by simp), h12 rfl]
    exact fin

theorem left_wrong {n l h x : Int} {k : Nat} (h3 : pantileref04_Right.f k n l h = some false) (hN : mask_Mask_None.f n l h = some true) :
    pantilelaw04_MaskLeft.j0 (k + 1) x false n l h = some true := by
  simp only [pantilelaw04_MaskLeft.j0]
  rw [if_neg (by simp), First_none hN, Option.bind_some, Next_none hN, Option.bind_some, h3, Option.bind_some, if_neg (by simp), hN, Option.bind_some, if_pos rfl, Count_none hN, Option.bind_some, if_pos rfl, Has_none hN, Option.bind_some]
  rfl

theorem left_ok {n l h : Nat} (hn : n ≤ 10) (hl : l < 2 ^ n) (hh : h < 2 ^ n) {k : Nat} (hk : 3000 ≤ k) :
    pantileref04_Left.f k (n : Int) (l : Int) (h : Int) = some (lfL (isL n l h) 0 (2 ^ n)) := by
  have hp : 2 ^ n ≤ 1024 := Nat.pow_le_pow_right (n := 2) (by decide) hn
  have hl' := Nat.lt_of_lt_of_le hl hp
  have hh' := Nat.lt_of_lt_of_le hh hp
  have := left_loop (by omega : n ≤ 16) (by omega : l < 65536) (by omega : h < 65536) (by omega : 2 ^ n ≤ 65536) (fun k hk => Power_eq n (by omega) (by omega)) (2 ^ n) k 0 [] (by omega) (Nat.le_refl _) (by omega)
  exact this

theorem j0_right {n l h : Nat} (h1 : 1 ≤ n) (hn : n ≤ 10) (hl : l < 2 ^ n) (hh : h < 2 ^ n) {x : Int} (hx : -9223372036854775808 ≤ x ∧ x < 9223372036854775808) {k : Nat} (hk : 3000 ≤ k)
    (hR : pantileref04_Right.f k (n : Int) (l : Int) (h : Int) = some true) :
    pantilelaw04_MaskLeft.j0 (k + 1) x false (n : Int) (l : Int) (h : Int) = some true := by
  have hp : 2 ^ n ≤ 1024 := Nat.pow_le_pow_right (n := 2) (by decide) hn
  have hl' := Nat.lt_of_lt_of_le hl hp
  have hh' := Nat.lt_of_lt_of_le hh hp
  have hA := Has_eq h1 (by omega) hl hh (addr := x) hx
  have hB := rHasF_of (by omega : n ≤ 16) (by omega : l < 65536) (by omega : h < 65536) (by omega : 2 ^ n ≤ 65536) (by omega : 60 ≤ k) (Power_eq n (by omega) (by omega)) (a := x)
  have hAB : (decide (0 ≤ x ∧ x.toNat < 2 ^ n) && isL n l h x.toNat) = decide (0 ≤ x ∧ x.toNat < 2 ^ n ∧ hasN n l h x.toNat) := by
    rw [Bool.eq_iff_iff, Bool.and_eq_true, decide_eq_true_eq, decide_eq_true_eq, isL_iff]
    constructor
    · intro ⟨⟨q1, q2⟩, q3⟩
      exact ⟨q1, q2, q3⟩
    · intro ⟨q1, q2, q3⟩
      exact ⟨⟨q1, q2⟩, q3⟩
  rw [hAB] at hB
  have hLo := left_ok hn hl hh hk
  have hLl : ∀ d m, (lfL (isL n l h) m d).length ≤ d := by
    intro d
    induction d with
    | zero => intro m; exact Nat.le_refl _
    | succ d ih =>
      intro m
      have := ih (m + 1)
      unfold lfL
      split
      · rw [List.length_cons]
        omega
      · omega
  have hL2 := hLl (2 ^ n) 0
  have hNo := None_eq h1 (by omega) hl hh
  by_cases hno : noneN n l h
  · have e0 : ¬ andn l h = 0 := fun e => (none_andn (by omega) hl hh).1 e hno
    rw [decide_eq_false e0] at hNo
    have eL : lfL (isL n l h) 0 (2 ^ n) = [] := lfL_nil (fun c => by
      cases hc : isL n l h c with
      | false => rfl
      | true => exact absurd hno (has_not_none ((isL_iff _ _ _ _).1 hc))) _ _
    rw [eL] at hLo
    have hH0 := Has_none (x := x) hNo
    rw [hA] at hH0
    rw [Option.some.inj hH0] at hB
    exact left_right hk (by simp) (First_none hNo) (Next_none hNo) hR hLo hNo rfl (Count_none hNo) (Has_none hNo) hB rfl (fun e => absurd e (by simp)) (fun _ => rfl) rfl
  · have e0 : andn l h = 0 := (none_andn (by omega) hl hh).2 hno
    rw [decide_eq_true e0] at hNo
    obtain ⟨hE1, hE2⟩ := has_ends hno
    obtain ⟨g1, g2⟩ := lfL_len (by omega : n ≤ 64) hl hh rfl (rank_count l h (by omega) (by omega)) (2 ^ n) 0 l (by omega) hl hE1 (Nat.zero_le _) (fun c hc1 hc2 _ => (has_le n l h c hl hh hc1 hc2).1)
    rw [rk_low, Nat.add_zero] at g1
    have hC := Count_eq h1 (by omega) hl hh hE1
    rw [← g1] at hC
    have hpos : 1 ≤ (lfL (isL n l h) 0 (2 ^ n)).length := by
      rw [g1]
      exact Nat.one_le_two_pow
    obtain ⟨r, hr1, hr2⟩ := Next_ok h1 (by omega) hl hh hno hx (k := k) (by omega)
    have hsr := srch_next hr2
    generalize lfL (isL n l h) 0 (2 ^ n) = L at hLo hL2 g2 hC hpos hsr
    refine left_right hk (by omega) (First_ok hNo) hr1 hR hLo hNo ?_ hC hA hB ?_ (fun _ => g2.symm) (fun e => absurd e (by simp)) hsr
    · symm
      rw [Bool.not_true, beq_eq_false_iff_ne]
      omega
    · symm
      exact decide_eq_true (by show (L.length : Int) > 0; omega)

theorem j0_true (x n l h : Int) (k : Nat) : pantilelaw04_MaskLeft.j0 (k + 1) x true n l h = some true := by
  simp only [pantilelaw04_MaskLeft.j0]
  rw [if_pos trivial]

theorem left_f {K l h x : Int} (hl : -9223372036854775808 ≤ l ∧ l < 9223372036854775808) (hh : -9223372036854775808 ≤ h ∧ h < 9223372036854775808) (hx : -9223372036854775808 ≤ x ∧ x < 9223372036854775808) {k : Nat} (hk : 3000 ≤ k) :
    pantilelaw04_MaskLeft.f (k + 1) K l h x = some true := by
  unfold pantilelaw04_MaskLeft.f
  rw [awake04_eq (by omega), Option.bind_some, if_pos rfl]
  by_cases h1 : K > 10
  · rw [if_pos h1]
    by_cases h2 : K ≤ 16
    · rw [decide_eq_true h2]
      exact j0_true _ _ _ _ _
    · rw [decide_eq_false h2]
      exact left_wrong (rRight_big K l h (by omega)) (None_bad hl hh (fun e => h2 e.2.1))
  · rw [if_neg h1]
    have hR := rRight_eq K l h (by omega) (by omega : 60 ≤ k)
    by_cases h2 : 1 ≤ K ∧ 0 ≤ l ∧ l.toNat < 2 ^ K.toNat ∧ 0 ≤ h ∧ h.toNat < 2 ^ K.toNat
    · rw [decide_eq_true h2] at hR
      have := j0_right (n := K.toNat) (l := l.toNat) (h := h.toNat) (by omega) (by omega) h2.2.2.1 h2.2.2.2.2 hx hk
      rw [Int.toNat_of_nonneg (by omega), Int.toNat_of_nonneg h2.2.1, Int.toNat_of_nonneg h2.2.2.2.1] at this
      exact this hR
    · rw [decide_eq_false h2] at hR
      exact left_wrong hR (None_bad hl hh (fun e => h2 ⟨e.1, e.2.2⟩))

theorem MaskLeft : pantilelaw04_MaskLeft.Pure := fun K l h x _ hl hh hx => ⟨3000 + 1, left_f (wf_i64 hl) (wf_i64 hh) (wf_i64 hx) (Nat.le_refl _)⟩

end Go.Proofs.Ythdphjbecibeaaa.Pure
