/- pantilelaw33.CoverWithin answers true for every two cells; no condition beyond the row's own. -/
import Derived.Test.YthdphjbecibeaaaFbCoverWithin
import Derived.KernelRfl
namespace Go.Proofs.Ythdphjbecibeaaa.Pure
open Go.RowKit Go.Proofs.Ythdphjbecibeaaa.PCoverWithin Go.Proofs.YthdphjbecibeaaaW.PrintWords Go.Proofs.YthdphjbecibeaaaW.PrintLast Go.Proofs.YthdphjbecibeaaaW.PrintMore Go.Proofs.Ythdphjbecibeaaa.FCoverWithin Go.Proofs.YthdphjbecibeaaaMz
set_option linter.unusedVariables false
set_option linter.unusedSimpArgs false

theorem awake33 : pantilelaw33_awake.f 5000 = some true := by kernel_rfl

theorem Equal_loop {p q : List Int} (hl : p.length = q.length) (h40 : p.length ≤ 100000) (d : Nat) : ∀ (k i : Nat), i + d = p.length → d < k →
    slices_Equal_uint64_uint64.l0 k p q (p.length : Int) (i : Int) = some (decide (p.drop i = q.drop i)) := by
  induction d with
  | zero =>
    intro k i hi hk
    obtain ⟨k, rfl⟩ : ∃ m, k = m + 1 := ⟨k - 1, by omega⟩
    simp only [slices_Equal_uint64_uint64.l0]
    rw [if_neg (by omega), List.drop_eq_nil_of_le (by omega), List.drop_eq_nil_of_le (by omega)]
    simp
  | succ d ih =>
    intro k i hi hk
    obtain ⟨k, rfl⟩ : ∃ m, k = m + 1 := ⟨k - 1, by omega⟩
    have hp : i < p.length := by omega
    have hq : i < q.length := by omega
    have ep : rd p (i : Int) = p[i] := by unfold rd; rw [Int.toNat_natCast]; exact getD_at hp
    have eq : rd q (i : Int) = q[i] := by unfold rd; rw [Int.toNat_natCast]; exact getD_at hq
    have ew : wrap64 ((i : Int) + 1) = ((i + 1 : Nat) : Int) := by rw [wrap64_id (by omega) (by omega)]; omega
    simp only [slices_Equal_uint64_uint64.l0]
    rw [if_pos (by omega), if_pos (by omega), if_pos (by omega), if_pos (by omega), ep, eq, ew]
    rw [List.drop_eq_getElem_cons hp, List.drop_eq_getElem_cons hq]
    by_cases h : p[i] = q[i]
    · rw [if_pos h, ih k (i + 1) (by omega) (by omega), h]
      congr 1
      apply decide_eq_decide.2
      exact ⟨fun e => by rw [e], fun e => (List.cons.inj e).2⟩
    · rw [if_neg h]
      congr 1
      symm
      apply decide_eq_false
      intro e
      exact h (List.cons.inj e).1

theorem Equal_eq {p q : List Int} (h40 : p.length ≤ 100000) {k : Nat} (hk : p.length < k) : slices_Equal_uint64_uint64.f k p q = some (decide (p = q)) := by
  unfold slices_Equal_uint64_uint64.f
  by_cases hl : p.length = q.length
  · rw [if_pos (by omega)]
    exact Equal_loop hl h40 p.length k 0 (by omega) (by omega)
  · rw [if_neg (by omega)]
    have : p ≠ q := fun e => hl (by rw [e])
    simp [this]

/-- the code of a cell -/
def chkV (p : List Int) (a : Int) : Int := if 1 ≤ p.length ∧ p.length ≤ 16 then (if -1 ≤ a ∧ a ≤ 63 then (if cutL p (a + 1).toNat = p then 0 else 9) else 3) else 2

theorem check_eq {p : List Int} (hp : U p) (a : Int) {k : Nat} (hk : 50 ≤ k) : cover_check.f k p a = some (chkV p a) := by
  unfold cover_check.f chkV
  by_cases hr : 1 ≤ p.length ∧ p.length ≤ 16
  · rw [if_pos hr]
    by_cases ha : -1 ≤ a ∧ a ≤ 63
    · rw [if_pos ha, Cut_ok hp hr ha hk, Option.bind_some]
      dsimp only
      rw [if_pos rfl, Equal_eq (by rw [cutL_length]; omega) (by rw [cutL_length]; omega), Option.bind_some]
      by_cases h : cutL p (a + 1).toNat = p
      · rw [decide_eq_true h, if_pos rfl, if_pos h]
      · rw [decide_eq_false h, if_neg (by simp), if_neg h]
    · rw [if_neg ha, Cut_arg hr ha]
      rfl
  · rw [if_neg hr, Cut_dim hr]
    rfl

theorem rCheck_eq {p : List Int} (hp : U p) (a : Int) {k : Nat} (hk : 3010 ≤ k) : pantileref33_Check.f k p a = some (chkV p a) := by
  unfold pantileref33_Check.f chkV
  rw [ref_Right_eq, Option.bind_some]
  obtain ⟨k, rfl⟩ : ∃ m, k = m + 1 := ⟨k - 1, by omega⟩
  by_cases hr : 1 ≤ p.length ∧ p.length ≤ 16
  · rw [if_pos hr, decide_eq_true hr, if_pos rfl]
    by_cases h1 : a < -1
    · rw [if_pos h1, if_neg (by omega)]
      rfl
    · rw [if_neg h1]
      by_cases h2 : a > 63
      · rw [decide_eq_true h2, if_neg (by omega)]
        rfl
      · rw [decide_eq_false h2, if_pos (by omega)]
        simp only [pantileref33_Check.j0]
        rw [if_neg (by simp), rCut_ok hp (by omega) (by omega) (by omega), Option.bind_some, Same_eq (by omega) (by omega), Option.bind_some]
        by_cases h : cutL p (a + 1).toNat = p
        · rw [decide_eq_true h.symm, if_pos rfl, if_pos h]
        · rw [decide_eq_false (fun e => h e.symm), if_neg (by simp), if_neg h]
  · rw [if_neg hr, decide_eq_false hr, if_neg (by simp)]

theorem chk_zero {p : List Int} {a : Int} : chkV p a = 0 ↔ (1 ≤ p.length ∧ p.length ≤ 16) ∧ (-1 ≤ a ∧ a ≤ 63) ∧ cutL p (a + 1).toNat = p := by
  unfold chkV
  by_cases h1 : 1 ≤ p.length ∧ p.length ≤ 16
  · rw [if_pos h1]
    by_cases h2 : -1 ≤ a ∧ a ≤ 63
    · rw [if_pos h2]
      by_cases h3 : cutL p (a + 1).toNat = p
      · rw [if_pos h3]
        exact ⟨fun _ => ⟨h1, h2, h3⟩, fun _ => rfl⟩
      · rw [if_neg h3]
        exact ⟨fun h => absurd h (by decide), fun h => absurd h.2.2 h3⟩
    · rw [if_neg h2]
      exact ⟨fun h => absurd h (by decide), fun h => absurd h.2.1 h2⟩
  · rw [if_neg h1]
    exact ⟨fun h => absurd h (by decide), fun h => absurd h.1 h1⟩

theorem Range_eq {p : List Int} (hp : U p) (a : Int) {k : Nat} (hk : 50 ≤ k) : cover_Range.f k p a = some (if chkV p a = 0 then (cutL p (a + 1).toNat, cellHi p (a + 1).toNat, 0) else ([], [], chkV p a)) := by
  unfold cover_Range.f
  rw [check_eq hp a hk, Option.bind_some]
  by_cases h : chkV p a = 0
  · rw [if_pos h, if_pos h]
    obtain ⟨h1, h2, h3⟩ := chk_zero.1 h
    rw [Cell_ok hp h1 h2 hk, Option.bind_some]
  · rw [if_neg h, if_neg h]

/-- lies the one within the other one, of two cells -/
def wIn (p : List Int) (a : Int) (q : List Int) (b : Int) : Bool := decide (a ≤ b) && decide (cutL p (b + 1).toNat = q)

theorem Within_eq {p q : List Int} (hp : U p) (hq : U q) (a b : Int) {k : Nat} (hk : 50 ≤ k) : cover_Within.f k p a q b =
    some (if chkV p a = 0 then (if chkV q b = 0 then (if p.length = q.length then (wIn p a q b, 0) else (false, 2)) else (false, chkV q b)) else (false, chkV p a)) := by
  unfold cover_Within.f
  rw [check_eq hp a hk, Option.bind_some]
  by_cases h : chkV p a = 0
  · rw [if_pos h, if_pos h, check_eq hq b hk, Option.bind_some]
    by_cases h2 : chkV q b = 0
    · rw [if_pos h2, if_pos h2]
      by_cases hl : p.length = q.length
      · rw [if_pos (by omega), if_pos hl]
        obtain ⟨h3, _, _⟩ := chk_zero.1 h
        obtain ⟨_, h5, _⟩ := chk_zero.1 h2
        rw [Cut_ok hp h3 h5 hk, Option.bind_some]
        dsimp only
        unfold wIn
        by_cases hab : a ≤ b
        · rw [if_pos hab, Equal_eq (by rw [cutL_length]; omega) (by rw [cutL_length]; omega), Option.bind_some, decide_eq_true hab, Bool.true_and]
        · rw [if_neg hab, decide_eq_false hab, Bool.false_and]
      · rw [if_neg (by omega), if_neg hl]
    · rw [if_neg h2, if_neg h2]
  · rw [if_neg h, if_neg h]

/-- one coordinate: a piece of 2^m numbers lies in one of 2^n -/
theorem piece_iff {x y m n : Nat} (hx : cutv x m = x) (hy : cutv y n = y) : (y ≤ x ∧ x + (2 ^ m - 1) ≤ y + (2 ^ n - 1)) ↔ (m ≤ n ∧ cutv x n = y) := by
  have hm := Nat.two_pow_pos m
  have hn := Nat.two_pow_pos n
  constructor
  · rintro ⟨h1, h2⟩
    have h3 : 2 ^ m ≤ 2 ^ n := by omega
    have h4 : m ≤ n := (Nat.pow_le_pow_iff_right (by decide)).1 h3
    refine ⟨h4, ?_⟩
    have h5 := (in_cell1 y x n).1 ⟨by rw [hy]; exact h1, by unfold chi; rw [hy]; omega⟩
    rw [← h5, hy]
  · rintro ⟨h1, h2⟩
    have h3 := (in_cell1 y x n).2 (by rw [hy, h2])
    rw [hy] at h3
    refine ⟨h3.1, ?_⟩
    have hdx : 2 ^ m ∣ x := ⟨x / 2 ^ m, by rw [Nat.mul_comm]; exact hx.symm⟩
    have hdn : 2 ^ m ∣ 2 ^ n := Nat.pow_dvd_pow 2 h1
    have hdr : 2 ^ m ∣ x % 2 ^ n := (Nat.dvd_mod_iff hdn).2 hdx
    have hr : cutv (x % 2 ^ n) m = x % 2 ^ n := Nat.div_mul_cancel hdr
    have hb := cutv_bound (x % 2 ^ n) m n (Nat.mod_lt _ hn) h1
    rw [hr] at hb
    have e : y + x % 2 ^ n = x := by rw [← h2]; exact Nat.div_add_mod' x (2 ^ n)
    omega

theorem cut_self {p : List Int} (hp : U p) {m : Nat} (h : cutL p m = p) (i : Nat) : cutv (nt p i) m = nt p i := by
  rw [← nt_cutL, h]

theorem wIn_iff {p q : List Int} (hp : U p) (hq : U q) {a b : Int} (h1 : chkV p a = 0) (h2 : chkV q b = 0) (hl : p.length = q.length) :
    wIn p a q b = (inF (nt (cutL q (b + 1).toNat)) (nt (cellHi q (b + 1).toNat)) (nt (cutL p (a + 1).toNat)) 0 p.length && inF (nt (cutL q (b + 1).toNat)) (nt (cellHi q (b + 1).toNat)) (nt (cellHi p (a + 1).toNat)) 0 p.length) := by
  obtain ⟨hr, ha, hp0⟩ := chk_zero.1 h1
  obtain ⟨hs, hb, hq0⟩ := chk_zero.1 h2
  rw [hp0, hq0]
  have key : ∀ j, j < p.length → ((nt q j ≤ nt p j ∧ nt p j ≤ nt (cellHi q (b + 1).toNat) j) ∧ (nt q j ≤ nt (cellHi p (a + 1).toNat) j ∧ nt (cellHi p (a + 1).toNat) j ≤ nt (cellHi q (b + 1).toNat) j) ↔ ((a + 1).toNat ≤ (b + 1).toNat ∧ cutv (nt p j) (b + 1).toNat = nt q j)) := by
    intro j hj
    have e1 := cut_self hp hp0 j
    have e2 := cut_self hq hq0 j
    rw [← piece_iff e1 e2]
    have e3 : nt (cellHi q (b + 1).toNat) j = nt q j + (2 ^ (b + 1).toNat - 1) := by unfold cellHi; rw [nt_mkL (by omega)]; unfold chi; rw [e2]
    have e4 : nt (cellHi p (a + 1).toNat) j = nt p j + (2 ^ (a + 1).toNat - 1) := by unfold cellHi; rw [nt_mkL hj]; unfold chi; rw [e1]
    rw [e3, e4]
    have := Nat.two_pow_pos (a + 1).toNat
    generalize 2 ^ (a + 1).toNat = A at *
    generalize 2 ^ (b + 1).toNat = B at *
    omega
  rw [Bool.eq_iff_iff, Bool.and_eq_true, inF_iff, inF_iff]
  unfold wIn
  rw [Bool.and_eq_true, decide_eq_true_eq, decide_eq_true_eq]
  constructor
  · rintro ⟨hab, hc⟩
    have hk : ∀ j, j < p.length → (a + 1).toNat ≤ (b + 1).toNat ∧ cutv (nt p j) (b + 1).toNat = nt q j := fun j hj => ⟨by omega, by rw [← nt_cutL, hc]⟩
    exact ⟨fun j _ hj => ((key j (by omega)).2 (hk j (by omega))).1, fun j _ hj => ((key j (by omega)).2 (hk j (by omega))).2⟩
  · rintro ⟨h3, h4⟩
    have hk : ∀ j, j < p.length → (a + 1).toNat ≤ (b + 1).toNat ∧ cutv (nt p j) (b + 1).toNat = nt q j := fun j hj => (key j hj).1 ⟨h3 j (Nat.zero_le _) (by omega), h4 j (Nat.zero_le _) (by omega)⟩
    refine ⟨by have := (hk 0 (by omega)).1; omega, ?_⟩
    refine (same_iff (cutL_U hp _) hq (by rw [cutL_length]; exact hl)).2 (fun i hi => ?_)
    rw [cutL_length] at hi
    rw [nt_cutL]
    exact (hk i hi).2

theorem cellHi_U {p : List Int} (hp : U p) {m : Nat} (hm : m ≤ 64) : U (cellHi p m) := mkL_U fun i _ => chi_lt (nt_lt' hp i) hm

theorem law_j0 {p q : List Int} (hp : U p) (hq : U q) (h1 : p.length ≤ 40) (h2 : q.length ≤ 40) (a b : Int) {k : Nat} (hk : 4000 ≤ k) : pantilelaw33_CoverWithin.j0 k false p a q b = some true := by
  obtain ⟨k, rfl⟩ : ∃ m, k = m + 1 + 1 := ⟨k - 2, by omega⟩
  simp only [pantilelaw33_CoverWithin.j0]
  rw [if_neg (by simp), Range_eq hp a (by omega), Option.bind_some, Within_eq hp hq a b (by omega), Option.bind_some, rCheck_eq hp a (by omega), Option.bind_some, rCheck_eq hq b (by omega), Option.bind_some]
  by_cases hc : chkV p a = 0
  · obtain ⟨hr, ha, hp0⟩ := chk_zero.1 hc
    rw [if_pos hc, rCell_ok hp h1 ha (by omega), Option.bind_some, if_pos hc]
    dsimp only
    rw [if_pos rfl, Same_eq (by rw [cutL_length]; omega) (by rw [cutL_length]; omega), Option.bind_some, decide_eq_true rfl, if_pos rfl, Same_eq (by unfold cellHi; rw [mkL_length]; omega) (by unfold cellHi; rw [mkL_length]; omega), Option.bind_some, decide_eq_true rfl]
    simp only [pantilelaw33_CoverWithin.j1]
    rw [if_neg (by simp)]
    by_cases hd : chkV q b = 0
    · rw [if_pos hd]
      by_cases hl : p.length = q.length
      · obtain ⟨hs, hb, hq0⟩ := chk_zero.1 hd
        rw [if_pos (by omega), rCell_ok hq h2 hb (by omega), Option.bind_some, if_pos hc, if_pos hd, if_pos hl]
        dsimp only
        rw [if_pos rfl, rIn_ok (cutL_U hq _) (cellHi_U hq (by omega)) (cutL_U hp _) (by rw [cutL_length, cutL_length]; omega) (by unfold cellHi; rw [cutL_length, mkL_length]; omega) (by rw [cutL_length]; omega) (by omega), Option.bind_some, cutL_length, wIn_iff hp hq hc hd hl]
        have e1 : (cellHi p (a + 1).toNat).length = p.length := by unfold cellHi; exact mkL_length _ _
        cases h5 : inF (nt (cutL q (b + 1).toNat)) (nt (cellHi q (b + 1).toNat)) (nt (cutL p (a + 1).toNat)) 0 p.length with
        | true =>
          rw [if_pos rfl, rIn_ok (cutL_U hq _) (cellHi_U hq (by omega)) (cellHi_U hp (by omega)) (by rw [cutL_length, e1]; omega) (by rw [e1]; unfold cellHi; rw [mkL_length]; omega) (by rw [e1]; omega) (by omega), Option.bind_some, e1, Bool.true_and, beq_self_eq_true]
        | false =>
          rw [if_neg (by simp), Bool.false_and]
          rfl
      · rw [if_neg (by omega), if_pos hc, if_pos hd, if_neg hl]
        rfl
    · rw [if_neg hd, if_pos hc, if_neg hd]
      dsimp only
      rw [if_neg (by simp), beq_self_eq_true]
  · rw [if_neg hc, if_neg hc, if_neg hc]
    dsimp only
    rw [if_pos (by simp), if_pos (by simp), if_pos rfl, if_neg (by simp), beq_self_eq_true]

theorem CoverWithin : pantilelaw33_CoverWithin.Pure := by
  intro p a q b _ _ hp _ _ _ hq _
  refine ⟨5000, ?_⟩
  unfold pantilelaw33_CoverWithin.f
  rw [awake33, Option.bind_some, if_pos rfl]
  by_cases h1 : (p.length : Int) > 40
  · rw [if_pos h1]
    rfl
  · rw [if_neg h1]
    by_cases h2 : (q.length : Int) > 40
    · rw [decide_eq_true h2]
      rfl
    · rw [decide_eq_false h2]
      exact law_j0 hp hq (by omega) (by omega) a b (by omega)
end Go.Proofs.Ythdphjbecibeaaa.Pure
