/- The program's and the reference's masks of a point and a box, as printed, in plain numbers. -/
import Derived.Test.YthdphjbecibeaaaMo
import Derived.Test.YthdphjbecibeaaaFbMaskLeft
namespace Go.Proofs.Ythdphjbecibeaaa.FMaskLeft
open Go.RowKit Go.Proofs.Ythdphjbecibeaaa.PMaskLeft Go.Proofs.YthdphjbecibeaaaW.PrintWords Go.Proofs.YthdphjbecibeaaaW.PrintLast Go.Proofs.YthdphjbecibeaaaW.PrintMore Go.Proofs.YthdphjbecibeaaaMz
set_option linter.unusedVariables false
set_option linter.unusedSimpArgs false

theorem check_eq (p l h : List Int) (a least : Int) {k : Nat} (hk : 1 ≤ k) :
    mask_check.f k p a least l h = some (if 1 ≤ p.length ∧ p.length ≤ 16 ∧ l.length = p.length ∧ h.length = p.length then (if a < least ∨ a > 63 then 3 else 0) else 2) := by
  obtain ⟨k, rfl⟩ : ∃ m, k = m + 1 := ⟨k - 1, by omega⟩
  unfold mask_check.f
  rw [zbits_Right_eq]
  simp only [Option.bind_some, mask_check.j0]
  by_cases hr : 1 ≤ p.length ∧ p.length ≤ 16
  · rw [if_pos (by simpa using hr)]
    by_cases h1 : l.length = p.length
    · rw [if_pos (by omega)]
      by_cases h2 : h.length = p.length
      · have hc : 1 ≤ p.length ∧ p.length ≤ 16 ∧ l.length = p.length ∧ h.length = p.length := ⟨hr.1, hr.2, h1, h2⟩
        rw [if_pos hc, if_neg (by simp; omega)]
        by_cases h3 : a < least
        · have h5 : a < least ∨ a > 63 := Or.inl h3
          rw [if_pos h3, if_pos h5]
        · rw [if_neg h3]
          by_cases h4 : a > 63
          · have h5 : a < least ∨ a > 63 := Or.inr h4
            rw [if_pos h4, if_pos h5]
          · have h5 : ¬ (a < least ∨ a > 63) := by omega
            rw [if_neg h4, if_neg h5]
      · have hc : ¬ (1 ≤ p.length ∧ p.length ≤ 16 ∧ l.length = p.length ∧ h.length = p.length) := by omega
        rw [if_neg hc, if_pos (by simp; omega)]
    · have hc : ¬ (1 ≤ p.length ∧ p.length ≤ 16 ∧ l.length = p.length ∧ h.length = p.length) := by omega
      rw [if_neg hc, if_neg (by omega), if_pos trivial]
  · have hc : ¬ (1 ≤ p.length ∧ p.length ≤ 16 ∧ l.length = p.length ∧ h.length = p.length) := by omega
    rw [if_neg hc, if_neg (by simpa using hr), if_pos trivial]
theorem bit_shl (m : Nat) (hm : m < 64) : shl .u64 1 (m : Int) = ((2 ^ m : Nat) : Int) := by
  have h3 : 2 ^ m ≤ 2 ^ 63 := Nat.pow_le_pow_right (by decide) (by omega)
  have hs := shl_nat 1 m (by omega) (by omega)
  rw [Nat.one_mul] at hs
  exact hs

theorem halves_eq (c m : Nat) (hc : c < 18446744073709551616) (hm : m < 64) :
    mask_halves.f (c : Int) (m : Int) = some (((plv c m 0 : Nat) : Int), ((plh c m 0 : Nat) : Int), ((plv c m 1 : Nat) : Int), ((plh c m 1 : Nat) : Int)) := by
  unfold mask_halves.f
  rw [if_pos (by omega), bit_shl m hm]
  have hp := Nat.two_pow_pos m
  have h3 : 2 ^ m ≤ 2 ^ 63 := Nat.pow_le_pow_right (by decide) (by omega)
  have hw : IntKind.u64.wrap (((2 ^ m : Nat) : Int) - 1) = ((2 ^ m - 1 : Nat) : Int) := by
    generalize 2 ^ m = P at hp h3
    rw [wrapu_id (by omega) (by omega)]
    omega
  have h4 : 2 ^ (m + 1) ≤ 2 ^ 64 := Nat.pow_le_pow_right (by decide) (by omega)
  have h5 := Nat.two_pow_pos (m + 1)
  have hl0 : cutv c (m + 1) ≤ c := cutv_le _ _
  have l1 := plv_lt c m 1 64 hc hm (by decide)
  have l0 := plv_lt c m 0 64 hc hm (by decide)
  rw [hw, u64_or_nat _ _ (by omega) (by omega), mask_bits, u64_andNot_nat _ _ hc (by omega)]
  have e : 18446744073709551615 - (2 ^ (m + 1) - 1) = 2 ^ 64 - 2 ^ (m + 1) := by omega
  rw [e, and_mask _ _ hc (by omega), u64_or_nat (cutv c (m + 1)) _ (by omega) (by omega), u64_or_nat (cutv c (m + 1)) (2 ^ m) (by omega) (by omega), plv_one_or, u64_or_nat _ _ l1 (by omega), plv_low]
  have z := plv_low c m 0
  rw [plv_zero] at z
  rw [z]
  unfold plh
  rw [plv_zero]
theorem leaves_eq (c m b lo hi : Nat) : mask_leaves.f ((plv c m b : Nat) : Int) ((plh c m b : Nat) : Int) (lo : Int) (hi : Int) = some (lvB c m b lo hi) := by
  unfold mask_leaves.f lvB
  by_cases h1 : lo ≤ hi
  · rw [if_pos (by omega), decide_eq_true h1]
    by_cases h2 : plv c m b ≤ hi
    · rw [if_pos (by omega), decide_eq_true h2]
      simp only [Bool.true_and]
      congr 1
      apply decide_eq_decide.2
      omega
    · rw [if_neg (by omega), decide_eq_false h2]
      rfl
  · rw [if_neg (by omega), decide_eq_false h1]
    rfl
theorem or_one (x : Nat) (hx : x < 4611686018427387904) : Go.bits .or .i64 (wrap64 ((x : Int) * 2)) 1 = ((2 * x + 1 : Nat) : Int) := by
  have e : wrap64 ((x : Int) * 2) = ((2 * x : Nat) : Int) := by rw [wrap64_id (by omega) (by omega)]; omega
  have := i64_or_nat (2 * x) 1 (by omega) (by omega)
  rw [show ((1 : Nat) : Int) = 1 from rfl] at this
  rw [e, this, or_bit _ _ (by decide)]

theorem Of_loop {p l h : List Int} (hp : U p) (hl : U l) (hh : U h) (h1 : l.length = p.length) (h2 : h.length = p.length) (h16 : p.length ≤ 16) (m : Nat) (hm : m < 64) (K : Int) (d : Nat) : ∀ (k i : Nat), i + d = p.length → d < k →
    mask_Of.l0 k (m : Int) p (p.length : Int) (i : Int) l h K ((mlow (nt p) (nt l) (nt h) m i : Nat) : Int) ((mhigh (nt p) (nt l) (nt h) m i : Nat) : Int) = some (K, ((mlow (nt p) (nt l) (nt h) m p.length : Nat) : Int), ((mhigh (nt p) (nt l) (nt h) m p.length : Nat) : Int), 0) := by
  induction d with
  | zero =>
    intro k i hi hk
    obtain ⟨k, rfl⟩ : ∃ m, k = m + 1 := ⟨k - 1, by omega⟩
    simp only [mask_Of.l0]
    obtain rfl : i = p.length := by omega
    rw [if_neg (by omega)]
  | succ d ih =>
    intro k i hi hk
    obtain ⟨k, rfl⟩ : ∃ m, k = m + 1 := ⟨k - 1, by omega⟩
    simp only [mask_Of.l0]
    have b1 := mlow_lt (nt p) (nt l) (nt h) m i
    have b2 := mhigh_lt (nt p) (nt l) (nt h) m i
    have h3 : 2 ^ i ≤ 2 ^ 16 := Nat.pow_le_pow_right (by decide) (by omega)
    rw [if_pos (by omega), if_pos (by omega), if_pos (by omega), rd_nt hp, halves_eq _ _ (nt_lt hp i) hm]
    simp only [Option.bind_some]
    rw [if_pos (by omega), if_pos (by omega), rd_nt hl, rd_nt hh, leaves_eq, leaves_eq]
    simp only [Option.bind_some]
    have e0 : ∀ x : Nat, x < 2 ^ 16 → wrap64 ((x : Int) * 2) = ((2 * x + 0 : Nat) : Int) := fun x hx => by rw [wrap64_id (by omega) (by omega)]; omega
    have := ih k (i + 1) (by omega) (by omega)
    rw [mlow_succ, mhigh_succ] at this
    rw [or_one _ (by omega), or_one _ (by omega), e0 _ (by omega), e0 _ (by omega), wrap64_id (n := (i : Int) + 1) (by omega) (by omega)]
    cases hv0 : lvB (nt p i) m 0 (nt l i) (nt h i) <;> cases hv1 : lvB (nt p i) m 1 (nt l i) (nt h i) <;> (rw [hv0, hv1] at this; exact this)

theorem Of_ok {p l h : List Int} (hp : U p) (hl : U l) (hh : U h) (hr : 1 ≤ p.length ∧ p.length ≤ 16 ∧ l.length = p.length ∧ h.length = p.length) {a : Int} (ha : 0 ≤ a ∧ a ≤ 63) {k : Nat} (hk : 50 ≤ k) :
    mask_Of.f k p a l h = some ((p.length : Int), ((mlow (nt p) (nt l) (nt h) a.toNat p.length : Nat) : Int), ((mhigh (nt p) (nt l) (nt h) a.toNat p.length : Nat) : Int), 0) := by
  unfold mask_Of.f
  rw [check_eq _ _ _ _ _ (by omega), if_pos hr, if_neg (by omega)]
  simp only [Option.bind_some, if_true]
  have := Of_loop hp hl hh hr.2.2.1 hr.2.2.2 hr.2.1 a.toNat (by omega) (p.length : Int) p.length k 0 (by omega) (by omega)
  rw [Int.toNat_of_nonneg ha.1] at this
  exact this

theorem Of_arg {p l h : List Int} (hr : 1 ≤ p.length ∧ p.length ≤ 16 ∧ l.length = p.length ∧ h.length = p.length) {a : Int} (ha : ¬ (0 ≤ a ∧ a ≤ 63)) {k : Nat} (hk : 1 ≤ k) :
    mask_Of.f k p a l h = some (0, 0, 0, 3) := by
  unfold mask_Of.f
  rw [check_eq _ _ _ _ _ (by omega), if_pos hr, if_pos (by omega)]
  simp only [Option.bind_some]
  rw [if_neg (by decide)]

theorem Of_dim {p l h : List Int} (hr : ¬ (1 ≤ p.length ∧ p.length ≤ 16 ∧ l.length = p.length ∧ h.length = p.length)) {a : Int} {k : Nat} (hk : 1 ≤ k) :
    mask_Of.f k p a l h = some (0, 0, 0, 2) := by
  unfold mask_Of.f
  rw [check_eq _ _ _ _ _ (by omega), if_neg hr]
  simp only [Option.bind_some]
  rw [if_neg (by decide)]
def jq1 (x : Int) : Int := IntKind.u64.wrap (Go.bits .and .u64 (x / 2) 6148914691236517205 + Go.bits .and .u64 x 6148914691236517205)
def jq2 (x : Int) : Int := IntKind.u64.wrap (Go.bits .and .u64 (x / 4) 3689348814741910323 + Go.bits .and .u64 x 3689348814741910323)
def jq3 (x : Int) : Int := Go.bits .and .u64 (IntKind.u64.wrap (x / 16 + x)) 1085102592571150095
def jt1 (x : Int) : Int := IntKind.u64.wrap (x + x / 256)
def jt2 (x : Int) : Int := IntKind.u64.wrap (x + x / 65536)
def jt3 (x : Int) : Int := IntKind.u64.wrap (x + x / 4294967296)

theorem ones_shape (x : Int) : bits_OnesCount64.f x = some (Go.bits .and .i64 (wrap64 (jt3 (jt2 (jt1 (jq3 (jq2 (jq1 x))))))) 127) := rfl

theorem jq1_eq (x : Nat) (hx : x < 65536) : jq1 (x : Int) = ((oq1 x : Nat) : Int) ∧ oq1 x < 131072 := by
  have a1 : x / 2 &&& 6148914691236517205 ≤ x / 2 := Nat.and_le_left
  have a2 : x &&& 6148914691236517205 ≤ x := Nat.and_le_left
  unfold jq1 oq1
  rw [show (x : Int) / 2 = ((x / 2 : Nat) : Int) from by omega, show (6148914691236517205 : Int) = ((6148914691236517205 : Nat) : Int) from rfl, u64_and_nat _ _ (by omega) (by decide), u64_and_nat _ _ (by omega) (by decide), wrapu_id (by omega) (by omega)]
  omega

theorem jq2_eq (x : Nat) (hx : x < 131072) : jq2 (x : Int) = ((oq2 x : Nat) : Int) ∧ oq2 x < 262144 := by
  have a1 : x / 4 &&& 3689348814741910323 ≤ x / 4 := Nat.and_le_left
  have a2 : x &&& 3689348814741910323 ≤ x := Nat.and_le_left
  unfold jq2 oq2
  rw [show (x : Int) / 4 = ((x / 4 : Nat) : Int) from by omega, show (3689348814741910323 : Int) = ((3689348814741910323 : Nat) : Int) from rfl, u64_and_nat _ _ (by omega) (by decide), u64_and_nat _ _ (by omega) (by decide), wrapu_id (by omega) (by omega)]
  omega

theorem jq3_eq (x : Nat) (hx : x < 262144) : jq3 (x : Int) = ((oq3 x : Nat) : Int) ∧ oq3 x < 524288 := by
  have a1 : (x / 16 + x) &&& 1085102592571150095 ≤ x / 16 + x := Nat.and_le_left
  unfold jq3 oq3
  rw [show (x : Int) / 16 + (x : Int) = ((x / 16 + x : Nat) : Int) from by omega, wrapu_id (by omega) (by omega), show (1085102592571150095 : Int) = ((1085102592571150095 : Nat) : Int) from rfl, u64_and_nat _ _ (by omega) (by decide)]
  omega

theorem jt_eq (x : Nat) (hx : x < 524288) : jt3 (jt2 (jt1 (x : Int))) = ((ot3 (ot2 (ot1 x)) : Nat) : Int) ∧ ot3 (ot2 (ot1 x)) < 4194304 := by
  have e1 : jt1 (x : Int) = ((ot1 x : Nat) : Int) := by unfold jt1 ot1; rw [wrapu_id (by omega) (by omega)]; omega
  have b1 : ot1 x < 1048576 := by unfold ot1; omega
  have e2 : jt2 ((ot1 x : Nat) : Int) = ((ot2 (ot1 x) : Nat) : Int) := by unfold jt2 ot2; rw [wrapu_id (by omega) (by omega)]; omega
  have b2 : ot2 (ot1 x) < 2097152 := by unfold ot2; omega
  have e3 : jt3 ((ot2 (ot1 x) : Nat) : Int) = ((ot3 (ot2 (ot1 x)) : Nat) : Int) := by unfold jt3 ot3; rw [wrapu_id (by omega) (by omega)]; omega
  have b3 : ot3 (ot2 (ot1 x)) < 4194304 := by unfold ot3; omega
  rw [e1, e2, e3]
  exact ⟨rfl, b3⟩

theorem OnesCount64_eq (x : Nat) (hx : x < 65536) : bits_OnesCount64.f (x : Int) = some ((pcN x 16 : Nat) : Int) := by
  rw [ones_shape]
  obtain ⟨e1, b1⟩ := jq1_eq x hx
  obtain ⟨e2, b2⟩ := jq2_eq _ b1
  obtain ⟨e3, b3⟩ := jq3_eq _ b2
  obtain ⟨e4, b4⟩ := jt_eq _ b3
  rw [e1, e2, e3, e4, wrap64_nat (by omega), show (127 : Int) = ((127 : Nat) : Int) from rfl, i64_and_nat _ _ (by omega) (by decide), ← ones_pcN x hx]
  rfl

theorem OnesCount_eq (x : Nat) (hx : x < 65536) : bits_OnesCount.f (x : Int) = some ((pcN x 16 : Nat) : Int) := by
  unfold bits_OnesCount.f
  rw [OnesCount64_eq x hx]
  rfl
theorem aw_none : mask_Mask_None.f 2 1 3 = some false := by decide +kernel
theorem aw_sub : IntKind.u64.wrap (Go.bits .andNot .i64 3 1) = ((2 : Nat) : Int) := by decide +kernel
theorem aw_shl : shl .i64 1 ((pcN 2 16 : Nat) : Int) = 2 := by decide +kernel
theorem aw_has1 : mask_Mask_Has.f 2 1 3 1 = some true := by decide +kernel
theorem aw_has3 : mask_Mask_Has.f 2 1 3 3 = some true := by decide +kernel
theorem aw_low : mlow (nt [0, 0]) (nt [1, 2]) (nt [3, 2]) 1 2 = 1 := by decide +kernel
theorem aw_high : mhigh (nt [0, 0]) (nt [1, 2]) (nt [3, 2]) 1 2 = 3 := by decide +kernel

theorem awake_count : mask_Mask_Count.f 2 1 3 = some 2 := by
  unfold mask_Mask_Count.f
  rw [aw_none, aw_sub, OnesCount_eq 2 (by decide)]
  simp only [Option.bind_some]
  rw [if_neg (by simp), if_pos (by omega), aw_shl]

theorem awake_of {k : Nat} (hk : 200 ≤ k) : mask_Of.f k [0, 0] 1 [1, 2] [3, 2] = some (2, 1, 3, 0) := by
  have u0 : U [0, 0] := by intro x hx; simp at hx; subst hx; decide
  have u1 : U [1, 2] := by intro x hx; simp at hx; rcases hx with rfl | rfl <;> decide
  have u2 : U [3, 2] := by intro x hx; simp at hx; rcases hx with rfl | rfl <;> decide
  rw [Of_ok u0 u1 u2 (by decide) (by decide) (by omega)]
  have e1 : mlow (nt [0, 0]) (nt [1, 2]) (nt [3, 2]) (1 : Int).toNat [(0 : Int), 0].length = 1 := aw_low
  have e2 : mhigh (nt [0, 0]) (nt [1, 2]) (nt [3, 2]) (1 : Int).toNat [(0 : Int), 0].length = 3 := aw_high
  rw [e1, e2]
  rfl

theorem awake04_of (k : Nat) (h1 : mask_Of.f k [0, 0] 1 [1, 2] [3, 2] = some (2, 1, 3, 0)) (h2 : mask_Mask_Has.f 2 1 3 1 = some true) (h3 : mask_Mask_Has.f 2 1 3 3 = some true) (h4 : mask_Mask_Count.f 2 1 3 = some 2) : pantilelaw04_awake.f k = some true := by
  unfold pantilelaw04_awake.f
  rw [h1, Option.bind_some]
  dsimp only
  rw [if_pos rfl, if_pos (by decide), h2, Option.bind_some, if_pos rfl, h3, Option.bind_some, if_pos rfl, h4, Option.bind_some]
  rfl

theorem awake04_eq {k : Nat} (hk : 200 ≤ k) : pantilelaw04_awake.f k = some true := awake04_of k (awake_of hk) aw_has1 aw_has3 awake_count

end Go.Proofs.Ythdphjbecibeaaa.FMaskLeft
