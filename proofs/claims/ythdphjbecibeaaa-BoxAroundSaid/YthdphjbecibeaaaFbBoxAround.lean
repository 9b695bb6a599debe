/- The program's and the reference's boxes, as printed, in plain numbers. -/
import Derived.Test.YthdphjbecibeaaaMb
import Derived.Test.YthdphjbecibeaaaFpBoxAround
namespace Go.Proofs.Ythdphjbecibeaaa.FBoxAround
open Go.RowKit Go.Proofs.Ythdphjbecibeaaa.PBoxAround Go.Proofs.YthdphjbecibeaaaW.PrintWords Go.Proofs.YthdphjbecibeaaaW.PrintLast Go.Proofs.YthdphjbecibeaaaW.PrintMore Go.Proofs.YthdphjbecibeaaaMz
set_option linter.unusedVariables false
set_option linter.unusedSimpArgs false

theorem mx_nat (a b : Nat) : mx (a : Int) (b : Int) = ((max a b : Nat) : Int) := by unfold mx; split <;> omega
theorem mn_nat (a b : Nat) : mn (a : Int) (b : Int) = ((min a b : Nat) : Int) := by unfold mn; split <;> omega

theorem mkI_mkL {n : Nat} {F : Nat → Int} {G : Nat → Nat} (h : ∀ i, i < n → F i = ((G i : Nat) : Int)) : Go.Proofs.YthdphjbecibeaaaHe.mkI n F = mkL n G := by
  unfold mkL
  exact Go.Proofs.YthdphjbecibeaaaHe.mkI_congr h

def cellHi (p : List Int) (m : Nat) : List Int := mkL p.length (fun i => chi (nt p i) m)

theorem arLo_eq (x n : Nat) (hx : x < 18446744073709551616) : Go.Proofs.YthdphjbecibeaaaHe.arLo (x : Int) (n : Int) = ((x - n : Nat) : Int) := by
  unfold Go.Proofs.YthdphjbecibeaaaHe.arLo
  rw [mn_nat, wrapu_id (by omega) (by omega)]
  omega

theorem arHi_eq (x n : Nat) (hx : x < 18446744073709551616) (hn : n < 18446744073709551616) : Go.Proofs.YthdphjbecibeaaaHe.arHi (x : Int) (n : Int) = ((ahi x n : Nat) : Int) := by
  unfold Go.Proofs.YthdphjbecibeaaaHe.arHi ahi
  rw [IntKind.wrap_u64]
  split <;> omega

def aroundLo (p : List Int) (n : Nat) : List Int := mkL p.length (fun i => nt p i - n)
def aroundHi (p : List Int) (n : Nat) : List Int := mkL p.length (fun i => ahi (nt p i) n)

theorem Around_ok {p : List Int} (hp : U p) (hr : 1 ≤ p.length ∧ p.length ≤ 16) {n : Int} (hn : 0 ≤ n ∧ n < 18446744073709551616) :
    box_Around.f p n = some (aroundLo p n.toNat, aroundHi p n.toNat, 0) := by
  unfold box_Around.f
  rw [zbits_Right_eq]
  simp only [Option.bind_some]
  rw [if_pos (by simpa using hr)]
  congr 2
  · exact mkI_mkL (fun i hi => by
      rw [rd_nt hp]
      have := arLo_eq (nt p i) n.toNat (nt_lt hp i)
      rwa [Int.toNat_of_nonneg hn.1] at this)
  · congr 1
    exact mkI_mkL (fun i hi => by
      rw [rd_nt hp]
      have := arHi_eq (nt p i) n.toNat (nt_lt hp i) (by omega)
      rwa [Int.toNat_of_nonneg hn.1] at this)

theorem Around_dim {p : List Int} (hr : ¬ (1 ≤ p.length ∧ p.length ≤ 16)) {n : Int} : box_Around.f p n = some ([], [], 2) := by
  unfold box_Around.f
  rw [zbits_Right_eq]
  simp only [Option.bind_some]
  rw [if_neg (by simpa using hr)]
theorem cellLow_eq (m : Nat) (hm : m ≤ 64) : box_Cell.low ((m : Int) - 1) = ((2 ^ m - 1 : Nat) : Int) := by
  unfold box_Cell.low
  rw [show (m : Int) - 1 + 1 = (m : Int) from by omega, wrap64_nat (by omega)]
  by_cases h : m = 64
  · subst h
    rfl
  · have h3 : 2 ^ m ≤ 2 ^ 63 := Nat.pow_le_pow_right (by decide) (by omega)
    have hs := shl_nat 1 m hm (by omega)
    rw [show ((1 : Nat) : Int) = 1 from rfl] at hs
    rw [hs, Nat.one_mul]
    have hp := Nat.two_pow_pos m
    generalize 2 ^ m = P at h3 hp
    rw [wrapu_id (by omega) (by omega)]
    omega

theorem Cell_ok {p : List Int} (hp : U p) (hr : 1 ≤ p.length ∧ p.length ≤ 16) {a : Int} (ha : -1 ≤ a ∧ a ≤ 63) {k : Nat} (hk : 50 ≤ k) :
    box_Cell.f k p a = some (cutL p (a + 1).toNat, cellHi p (a + 1).toNat, 0) := by
  unfold box_Cell.f
  rw [Cut_ok hp hr ha hk]
  simp only [Option.bind_some]
  have hl := cutL_length p (a + 1).toNat
  have hU := cutL_U hp (a + 1).toNat
  rw [if_pos trivial, if_pos (by rw [wrap64_id (by omega) (by omega)]; omega), if_pos ⟨by omega, by omega⟩]
  have hlow := cellLow_eq (a + 1).toNat (by omega)
  rw [Int.toNat_of_nonneg (by omega), show a + 1 - 1 = a from by omega] at hlow
  rw [hlow]
  have hp1 : 2 ^ (a + 1).toNat ≤ 2 ^ 64 := Nat.pow_le_pow_right (by decide) (by omega)
  congr 2
  · exact Eq.trans (mkI_mkL (G := fun i => cutv (nt p i) (a + 1).toNat) (fun i hi => by rw [rd_nt hU, nt_cutL])) (cutL_mkL _).symm
  · congr 1
    exact mkI_mkL (fun i hi => by
      have hc := cutv_le (nt p i) (a + 1).toNat
      have hx := nt_lt hp i
      rw [rd_nt hU, nt_cutL, u64_or_nat _ _ (by omega) (by omega), chi_or])

theorem Cell_arg {p : List Int} (hr : 1 ≤ p.length ∧ p.length ≤ 16) {a : Int} (ha : ¬ (-1 ≤ a ∧ a ≤ 63)) {k : Nat} :
    box_Cell.f k p a = some ([], [], 3) := by
  unfold box_Cell.f
  rw [Cut_arg hr ha]
  simp only [Option.bind_some]
  rw [if_neg (by omega)]

theorem Cell_dim {p : List Int} (hr : ¬ (1 ≤ p.length ∧ p.length ≤ 16)) {a : Int} {k : Nat} :
    box_Cell.f k p a = some ([], [], 2) := by
  unfold box_Cell.f
  rw [Cut_dim hr]
  simp only [Option.bind_some]
  rw [if_neg (by omega)]
theorem gap_eq (x y : Nat) (hx : x < 18446744073709551616) (hy : y < 18446744073709551616) : box_gap.f (x : Int) (y : Int) = some ((gapv x y : Nat) : Int) := by
  unfold box_gap.f gapv
  rw [mx_nat, mn_nat, wrapu_id (by omega) (by omega)]
  congr 1
  omega
theorem Far_loop {p q : List Int} (hp : U p) (hq : U q) (hl : p.length = q.length) (h16 : p.length ≤ 16) (d : Nat) : ∀ (k i : Nat), i + d = p.length → d < k →
    box_Far.l0 k q ((farN (nt p) (nt q) i : Nat) : Int) p (p.length : Int) (i : Int) = some (((farN (nt p) (nt q) p.length : Nat) : Int), 0) := by
  induction d with
  | zero =>
    intro k i hi hk
    obtain ⟨k, rfl⟩ : ∃ m, k = m + 1 := ⟨k - 1, by omega⟩
    simp only [box_Far.l0]
    obtain rfl : i = p.length := by omega
    rw [if_neg (by omega)]
  | succ d ih =>
    intro k i hi hk
    obtain ⟨k, rfl⟩ : ∃ m, k = m + 1 := ⟨k - 1, by omega⟩
    simp only [box_Far.l0]
    rw [if_pos (by omega), if_pos (by omega), if_pos (by omega), if_pos (by omega), rd_nt hp, rd_nt hq, gap_eq _ _ (nt_lt hp i) (nt_lt hq i)]
    simp only [Option.bind_some]
    rw [mx_nat, wrap64_id (by omega) (by omega)]
    exact ih k (i + 1) (by omega) (by omega)

theorem bFar_ok {p q : List Int} (hp : U p) (hq : U q) (hr : 1 ≤ p.length ∧ p.length ≤ 16 ∧ p.length = q.length) {k : Nat} (hk : 50 ≤ k) :
    box_Far.f k p q = some (((farN (nt p) (nt q) p.length : Nat) : Int), 0) := by
  obtain ⟨k, rfl⟩ : ∃ m, k = m + 1 := ⟨k - 1, by omega⟩
  unfold box_Far.f
  rw [zbits_Right_eq]
  simp only [Option.bind_some]
  rw [if_pos (by simp; omega)]
  simp only [box_Far.j0]
  rw [if_neg (by simp; omega)]
  exact Far_loop hp hq hr.2.2 hr.2.1 p.length k 0 (by omega) (by omega)

theorem bFar_dim {p q : List Int} (hr : ¬ (1 ≤ p.length ∧ p.length ≤ 16 ∧ p.length = q.length)) {k : Nat} (hk : 1 ≤ k) :
    box_Far.f k p q = some (0, 2) := by
  obtain ⟨k, rfl⟩ : ∃ m, k = m + 1 := ⟨k - 1, by omega⟩
  unfold box_Far.f
  rw [zbits_Right_eq]
  simp only [Option.bind_some, box_Far.j0]
  split
  · rename_i h
    have h' : 1 ≤ p.length ∧ p.length ≤ 16 := by simpa using h
    rw [if_pos (by simp; omega)]
  · rfl
theorem rFar_loop {p q : List Int} (hp : U p) (hq : U q) (hl : p.length = q.length) (h16 : p.length ≤ 40) (d : Nat) : ∀ (k i : Nat), i + d = p.length → d < k →
    pantileref03_Far.l0 k p q ((farN (nt p) (nt q) i : Nat) : Int) (i : Int) = some ((farN (nt p) (nt q) p.length : Nat) : Int) := by
  induction d with
  | zero =>
    intro k i hi hk
    obtain ⟨k, rfl⟩ : ∃ m, k = m + 1 := ⟨k - 1, by omega⟩
    simp only [pantileref03_Far.l0]
    obtain rfl : i = p.length := by omega
    rw [if_neg (by omega)]
  | succ d ih =>
    intro k i hi hk
    obtain ⟨k, rfl⟩ : ∃ m, k = m + 1 := ⟨k - 1, by omega⟩
    simp only [pantileref03_Far.l0]
    have hx := nt_lt hp i
    have hy := nt_lt hq i
    have := ih k (i + 1) (by omega) (by omega)
    rw [farN_succ, show ((i + 1 : Nat) : Int) = (i : Int) + 1 from by omega] at this
    rw [if_pos (by omega), if_pos (by omega), if_pos (by omega), rd_nt hp, rd_nt hq, wrap64_id (by omega) (by omega)]
    by_cases h1 : (nt p i : Int) < (nt q i : Int)
    · rw [if_pos h1, wrapu_id (by omega) (by omega)]
      by_cases h2 : (nt q i : Int) - (nt p i : Int) > (farN (nt p) (nt q) i : Int)
      · rw [if_pos h2, show (nt q i : Int) - (nt p i : Int) = ((max (farN (nt p) (nt q) i) (gapv (nt p i) (nt q i)) : Nat) : Int) from by unfold gapv; omega]
        exact this
      · rw [if_neg h2]
        rw [show max (farN (nt p) (nt q) i) (gapv (nt p i) (nt q i)) = farN (nt p) (nt q) i from by unfold gapv; omega] at this
        exact this
    · rw [if_neg h1, wrapu_id (by omega) (by omega)]
      by_cases h2 : (nt p i : Int) - (nt q i : Int) > (farN (nt p) (nt q) i : Int)
      · rw [if_pos h2, show (nt p i : Int) - (nt q i : Int) = ((max (farN (nt p) (nt q) i) (gapv (nt p i) (nt q i)) : Nat) : Int) from by unfold gapv; omega]
        exact this
      · rw [if_neg h2]
        rw [show max (farN (nt p) (nt q) i) (gapv (nt p i) (nt q i)) = farN (nt p) (nt q) i from by unfold gapv; omega] at this
        exact this

theorem rFar_ok {p q : List Int} (hp : U p) (hq : U q) (hl : p.length = q.length) (h40 : p.length ≤ 40) {k : Nat} (hk : 50 ≤ k) :
    pantileref03_Far.f k p q = some ((farN (nt p) (nt q) p.length : Nat) : Int) := rFar_loop hp hq hl h40 p.length k 0 (by omega) (by omega)
theorem box_Right_eq (l h : List Int) : box_Right.f l h = some (decide (1 ≤ l.length ∧ l.length ≤ 16 ∧ l.length = h.length)) := by
  unfold box_Right.f
  rw [zbits_Right_eq]
  simp only [Option.bind_some]
  by_cases hr : 1 ≤ l.length ∧ l.length ≤ 16
  · rw [if_pos (by simpa using hr)]
    congr 1
    rw [Bool.eq_iff_iff]
    simp
    omega
  · rw [if_neg (by simpa using hr)]
    congr 1
    symm
    apply decide_eq_false
    omega
theorem box_alike_eq (l h p : List Int) : box_alike.f l h p = some (decide (1 ≤ l.length ∧ l.length ≤ 16 ∧ l.length = h.length ∧ p.length = l.length)) := by
  unfold box_alike.f
  rw [box_Right_eq]
  simp only [Option.bind_some]
  by_cases hr : 1 ≤ l.length ∧ l.length ≤ 16 ∧ l.length = h.length
  · rw [if_pos (by simpa using hr)]
    congr 1
    rw [Bool.eq_iff_iff]
    simp
    omega
  · rw [if_neg (by simpa using hr)]
    congr 1
    symm
    apply decide_eq_false
    omega
theorem In_loop {l h p : List Int} (hl : U l) (hh : U h) (hp : U p) (e1 : l.length = h.length) (e2 : p.length = l.length) (h16 : p.length ≤ 16) (d : Nat) : ∀ (k i : Nat), i + d = p.length → d < k →
    box_In.l0 k p (p.length : Int) (i : Int) l h = some (inF (nt l) (nt h) (nt p) i d, 0) := by
  induction d with
  | zero =>
    intro k i hi hk
    obtain ⟨k, rfl⟩ : ∃ m, k = m + 1 := ⟨k - 1, by omega⟩
    simp only [box_In.l0]
    rw [if_neg (by omega)]
    rfl
  | succ d ih =>
    intro k i hi hk
    obtain ⟨k, rfl⟩ : ∃ m, k = m + 1 := ⟨k - 1, by omega⟩
    simp only [box_In.l0]
    rw [if_pos (by omega), if_pos (by omega), if_pos (by omega), if_pos (by omega), rd_nt hl, rd_nt hp, rd_nt hh]
    unfold inF
    by_cases h1 : (nt p i : Int) < (nt l i : Int)
    · rw [if_pos h1, decide_eq_false (by omega)]
      simp
    · rw [if_neg h1, if_pos (by omega), decide_eq_true (by omega : nt l i ≤ nt p i)]
      by_cases h2 : (nt p i : Int) > (nt h i : Int)
      · rw [if_pos h2, decide_eq_false (by omega)]
        simp
      · rw [if_neg h2, decide_eq_true (by omega : nt p i ≤ nt h i), wrap64_id (by omega) (by omega)]
        simp only [Bool.and_self, Bool.true_and]
        exact ih k (i + 1) (by omega) (by omega)

theorem In_ok {l h p : List Int} (hl : U l) (hh : U h) (hp : U p) (hr : 1 ≤ l.length ∧ l.length ≤ 16 ∧ l.length = h.length ∧ p.length = l.length) {k : Nat} (hk : 50 ≤ k) :
    box_In.f k l h p = some (inF (nt l) (nt h) (nt p) 0 p.length, 0) := by
  unfold box_In.f
  rw [box_alike_eq]
  simp only [Option.bind_some]
  rw [if_pos (by simpa using hr)]
  exact In_loop hl hh hp hr.2.2.1 hr.2.2.2 (by omega) p.length k 0 (by omega) (by omega)

theorem In_dim {l h p : List Int} (hr : ¬ (1 ≤ l.length ∧ l.length ≤ 16 ∧ l.length = h.length ∧ p.length = l.length)) {k : Nat} :
    box_In.f k l h p = some (false, 2) := by
  unfold box_In.f
  rw [box_alike_eq]
  simp only [Option.bind_some]
  rw [if_neg (by simpa using hr)]
theorem Same3_eq {a b c d : List Int} (h1 : a.length ≤ 100000) (h2 : b.length ≤ 100000) {k : Nat} (hk : a.length < k) (hk2 : b.length < k) :
    pantileref03_Same.f k a b c d = some (decide (a = c ∧ b = d)) := by
  unfold pantileref03_Same.f
  rw [Same_eq h1 hk]
  simp only [Option.bind_some]
  by_cases h : a = c
  · rw [if_pos (by simpa using h), Same_eq h2 hk2]
    simp only [Option.bind_some]
    congr 1
    apply decide_eq_decide.2
    exact ⟨fun x => ⟨h, x⟩, fun x => x.2⟩
  · rw [if_neg (by simpa using h)]
    congr 1
    symm
    apply decide_eq_false
    exact fun x => h x.1
theorem rAround_loop {p : List Int} (hp : U p) (h40 : p.length ≤ 40) (n : Nat) (hn : n < 18446744073709551616) (d : Nat) : ∀ (k i : Nat), i + d = p.length → d < k →
    pantileref03_Around.l0 k p (n : Int) (i : Int) (mkL i (fun i => nt p i - n)) (mkL i (fun i => ahi (nt p i) n)) = some (aroundLo p n, aroundHi p n) := by
  induction d with
  | zero =>
    intro k i hi hk
    obtain ⟨k, rfl⟩ : ∃ m, k = m + 1 := ⟨k - 1, by omega⟩
    simp only [pantileref03_Around.l0]
    obtain rfl : i = p.length := by omega
    rw [if_neg (by omega)]
    rfl
  | succ d ih =>
    intro k i hi hk
    obtain ⟨k, rfl⟩ : ∃ m, k = m + 1 := ⟨k - 1, by omega⟩
    simp only [pantileref03_Around.l0]
    have hx := nt_lt hp i
    have := ih k (i + 1) (by omega) (by omega)
    rw [mkL_succ, mkL_succ, show ((i + 1 : Nat) : Int) = (i : Int) + 1 from by omega] at this
    have hl1 : (mkL i (fun i => nt p i - n)).length < 17592186044416 := by rw [mkL_length]; omega
    have hl2 : (mkL i (fun i => ahi (nt p i) n)).length < 17592186044416 := by rw [mkL_length]; omega
    rw [if_pos (by omega), if_pos (by omega), rd_nt hp, wrap64_id (n := (i : Int) + 1) (by omega) (by omega), wrapu_id (n := 18446744073709551615 - (n : Int)) (by omega) (by omega)]
    by_cases h1 : (nt p i : Int) > (n : Int)
    · rw [if_pos h1, wrapu_id (n := (nt p i : Int) - (n : Int)) (by omega) (by omega)]
      have e1 : (nt p i : Int) - (n : Int) = ((nt p i - n : Nat) : Int) := by omega
      by_cases h2 : (nt p i : Int) < 18446744073709551615 - (n : Int)
      · rw [if_pos h2, if_pos hl1, if_pos hl2, wrapu_id (by omega) (by omega), e1, show (nt p i : Int) + (n : Int) = ((ahi (nt p i) n : Nat) : Int) from by unfold ahi; omega]
        exact this
      · rw [if_neg h2, if_pos hl1, if_pos hl2, e1, show (18446744073709551615 : Int) = ((ahi (nt p i) n : Nat) : Int) from by unfold ahi; omega]
        exact this
    · rw [if_neg h1]
      have e1 : (0 : Int) = ((nt p i - n : Nat) : Int) := by omega
      by_cases h2 : (nt p i : Int) < 18446744073709551615 - (n : Int)
      · rw [if_pos h2, if_pos hl1, if_pos hl2, wrapu_id (by omega) (by omega), e1, show (nt p i : Int) + (n : Int) = ((ahi (nt p i) n : Nat) : Int) from by unfold ahi; omega]
        exact this
      · rw [if_neg h2, if_pos hl1, if_pos hl2, e1, show (18446744073709551615 : Int) = ((ahi (nt p i) n : Nat) : Int) from by unfold ahi; omega]
        exact this

theorem rAround_ok {p : List Int} (hp : U p) (h40 : p.length ≤ 40) {n : Int} (hn : 0 ≤ n ∧ n < 18446744073709551616) {k : Nat} (hk : 50 ≤ k) :
    pantileref03_Around.f k p n = some (aroundLo p n.toNat, aroundHi p n.toNat) := by
  have := rAround_loop hp h40 n.toNat (by omega) p.length k 0 (by omega) (by omega)
  rw [Int.toNat_of_nonneg hn.1] at this
  exact this
theorem rCell_bits {p : List Int} (a : Int) (m : Nat) (ham : a = (m : Int) - 1) (hm : m ≤ 64) (i : Nat) (x : Nat) (hx : x + (2 ^ m - 1) < 18446744073709551616) (L H : List Int) (d : Nat) : ∀ (k j : Nat), j + d = m → d + 1 < k →
    ∃ k', k' + d + 1 = k ∧ pantileref03_Cell.l1 k p a (i : Int) ((x + (2 ^ j - 1) : Nat) : Int) (j : Int) L H =
      (if H.length < 17592186044416 then pantileref03_Cell.l0 k' p a (wrap64 ((i : Int) + 1)) L (H ++ [((x + (2 ^ m - 1) : Nat) : Int)]) else none) := by
  induction d with
  | zero =>
    intro k j hj hk
    obtain ⟨k, rfl⟩ : ∃ m, k = m + 1 := ⟨k - 1, by omega⟩
    refine ⟨k, by omega, ?_⟩
    simp only [pantileref03_Cell.l1]
    obtain rfl : j = m := by omega
    rw [if_neg (by omega)]
  | succ d ih =>
    intro k j hj hk
    obtain ⟨k, rfl⟩ : ∃ m, k = m + 1 := ⟨k - 1, by omega⟩
    obtain ⟨k', hk', he⟩ := ih k (j + 1) (by omega) (by omega)
    refine ⟨k', by omega, ?_⟩
    rw [← he]
    simp only [pantileref03_Cell.l1]
    have hp1 : 2 ^ (j + 1) ≤ 2 ^ m := Nat.pow_le_pow_right (by decide) (by omega)
    have hp0 := Nat.two_pow_pos j
    have hp2 : 2 ^ (j + 1) = 2 * 2 ^ j := by rw [Nat.pow_succ, Nat.mul_comm]
    have hs := shl_nat 1 j (by omega) (by omega)
    rw [Nat.one_mul, show ((1 : Nat) : Int) = 1 from rfl] at hs
    rw [if_pos (by omega), if_pos (by omega), hs, wrap64_id (n := (j : Int) + 1) (by omega) (by omega), hp2]
    rw [hp2] at hp1
    generalize 2 ^ j = P at hp0 hp1
    generalize 2 ^ m = Q at hx hp1
    rw [wrapu_id (by omega) (by omega), show ((x + (P - 1) : Nat) : Int) + (P : Int) = ((x + (2 * P - 1) : Nat) : Int) from by omega]
    rfl

theorem rCell_loop {p : List Int} (hp : U p) (h40 : p.length ≤ 40) {a : Int} (ha : -1 ≤ a ∧ a ≤ 63) (d : Nat) : ∀ (k i : Nat), i + d = p.length → d * 70 < k →
    pantileref03_Cell.l0 k p a (i : Int) (cutL p (a + 1).toNat) (mkL i (fun i => chi (nt p i) (a + 1).toNat)) = some (cutL p (a + 1).toNat, cellHi p (a + 1).toNat) := by
  induction d with
  | zero =>
    intro k i hi hk
    obtain ⟨k, rfl⟩ : ∃ m, k = m + 1 := ⟨k - 1, by omega⟩
    simp only [pantileref03_Cell.l0]
    obtain rfl : i = p.length := by omega
    rw [if_neg (by omega)]
    rfl
  | succ d ih =>
    intro k i hi hk
    obtain ⟨k, rfl⟩ : ∃ m, k = m + 1 := ⟨k - 1, by omega⟩
    simp only [pantileref03_Cell.l0]
    have hcl := cutL_length p (a + 1).toNat
    have hlt := chi_lt (nt_lt' hp i) (m := (a + 1).toNat) (by omega)
    rw [if_pos (by omega), if_pos (by omega), if_pos (by omega), rd_nt (cutL_U hp _), nt_cutL]
    obtain ⟨k', hk', he⟩ := rCell_bits (p := p) a (a + 1).toNat (by omega) (by omega) i (cutv (nt p i) (a + 1).toNat) hlt (cutL p (a + 1).toNat) (mkL i (fun i => chi (nt p i) (a + 1).toNat)) (a + 1).toNat k 0 (by omega) (by omega)
    rw [Nat.pow_zero, Nat.sub_self, Nat.add_zero] at he
    rw [show (0 : Int) = ((0 : Nat) : Int) from rfl, he, if_pos (by rw [mkL_length]; omega), wrap64_id (by omega) (by omega)]
    have := ih k' (i + 1) (by omega) (by omega)
    rw [mkL_succ] at this
    exact this

theorem rCell_ok {p : List Int} (hp : U p) (h40 : p.length ≤ 40) {a : Int} (ha : -1 ≤ a ∧ a ≤ 63) {k : Nat} (hk : 3000 ≤ k) :
    pantileref03_Cell.f k p a = some (cutL p (a + 1).toNat, cellHi p (a + 1).toNat) := by
  unfold pantileref03_Cell.f
  rw [rCut_ok hp h40 ha hk]
  simp only [Option.bind_some]
  exact rCell_loop hp h40 ha p.length k 0 (by omega) (by omega)
theorem awake03_eq {k : Nat} (hk : 200 ≤ k) : pantilelaw03_awake.f k = some true := by
  unfold pantilelaw03_awake.f
  rw [Around_ok (p := [3, 0]) (by intro x hx; simp at hx; rcases hx with rfl | rfl <;> decide) (by decide) (by decide), Cell_ok (p := [6, 1]) (by intro x hx; simp at hx; rcases hx with rfl | rfl <;> decide) (by decide) (by decide) (by omega)]
  simp only [Option.bind_some]
  rw [if_pos trivial, if_pos trivial, Same3_eq (by decide) (by decide) (by show 2 < k; omega) (by show 2 < k; omega)]
  simp only [Option.bind_some]
  rw [if_pos (by decide), Same3_eq (by decide) (by decide) (by show 2 < k; omega) (by show 2 < k; omega)]
  decide +kernel

end Go.Proofs.Ythdphjbecibeaaa.FBoxAround
