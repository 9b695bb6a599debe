/- The program's Range and Within of cells, in plain numbers. -/
import Derived.Test.YthdphjbecibeaaaFtCoverOnce
namespace Go.Proofs.Ythdphjbecibeaaa.FCoverOnce
open Go.RowKit Go.Proofs.Ythdphjbecibeaaa.PCoverOnce Go.Proofs.YthdphjbecibeaaaW.PrintWords Go.Proofs.YthdphjbecibeaaaW.PrintLast Go.Proofs.YthdphjbecibeaaaW.PrintMore Go.Proofs.YthdphjbecibeaaaMz
set_option linter.unusedVariables false
set_option linter.unusedSimpArgs false

theorem Equal_loop {p q : List Int} (hl : p.length = q.length) (h40 : p.length ≤ 100000) (d : Nat) : ∀ (k i : Nat), i + d = p.length → d < k →
    slices_Equal_uint64_uint64.l0 k p q (p.length : Int) (i : Int) = some (decide (p.drop i = q.drop i)) := by
  induction d with
  | zero =>
    intro k i hi hk
    obtain ⟨k, rfl⟩ : ∃ m, k = m + 1 := ⟨k - 1, by omega⟩
    simp only [slices_Equal_uint64_uint64.l0]
    rw [if_neg (by omega), List.drop_eq_nil_of_le (by omega), List.drop_eq_nil_of_le (by omega)]
    simp
  | succ d ih =>
    intro k i hi hk
    obtain ⟨k, rfl⟩ : ∃ m, k = m + 1 := ⟨k - 1, by omega⟩
    have hp : i < p.length := by omega
    have hq : i < q.length := by omega
    have ep : rd p (i : Int) = p[i] := by unfold rd; rw [Int.toNat_natCast]; exact getD_at hp
    have eq : rd q (i : Int) = q[i] := by unfold rd; rw [Int.toNat_natCast]; exact getD_at hq
    have ew : wrap64 ((i : Int) + 1) = ((i + 1 : Nat) : Int) := by rw [wrap64_id (by omega) (by omega)]; omega
    simp only [slices_Equal_uint64_uint64.l0]
    rw [if_pos (by omega), if_pos (by omega), if_pos (by omega), if_pos (by omega), ep, eq, ew]
    rw [List.drop_eq_getElem_cons hp, List.drop_eq_getElem_cons hq]
    by_cases h : p[i] = q[i]
    · rw [if_pos h, ih k (i + 1) (by omega) (by omega), h]
      congr 1
      apply decide_eq_decide.2
      exact ⟨fun e => by rw [e], fun e => (List.cons.inj e).2⟩
    · rw [if_neg h]
      congr 1
      symm
      apply decide_eq_false
      intro e
      exact h (List.cons.inj e).1

theorem Equal_eq {p q : List Int} (h40 : p.length ≤ 100000) {k : Nat} (hk : p.length < k) : slices_Equal_uint64_uint64.f k p q = some (decide (p = q)) := by
  unfold slices_Equal_uint64_uint64.f
  by_cases hl : p.length = q.length
  · rw [if_pos (by omega)]
    exact Equal_loop hl h40 p.length k 0 (by omega) (by omega)
  · rw [if_neg (by omega)]
    have : p ≠ q := fun e => hl (by rw [e])
    simp [this]

/-- the code of a cell -/
def chkV (p : List Int) (a : Int) : Int := if 1 ≤ p.length ∧ p.length ≤ 16 then (if -1 ≤ a ∧ a ≤ 63 then (if cutL p (a + 1).toNat = p then 0 else 9) else 3) else 2

theorem chk_eq {p : List Int} (hp : U p) (a : Int) {k : Nat} (hk : 50 ≤ k) : cover_check.f k p a = some (chkV p a) := by
  unfold cover_check.f chkV
  by_cases hr : 1 ≤ p.length ∧ p.length ≤ 16
  · rw [if_pos hr]
    by_cases ha : -1 ≤ a ∧ a ≤ 63
    · rw [if_pos ha, Cut_ok hp hr ha hk, Option.bind_some]
      dsimp only
      rw [if_pos rfl, Equal_eq (by rw [cutL_length]; omega) (by rw [cutL_length]; omega), Option.bind_some]
      by_cases h : cutL p (a + 1).toNat = p
      · rw [decide_eq_true h, if_pos rfl, if_pos h]
      · rw [decide_eq_false h, if_neg (by simp), if_neg h]
    · rw [if_neg ha, Cut_arg hr ha]
      rfl
  · rw [if_neg hr, Cut_dim hr]
    rfl

theorem chk_zero {p : List Int} {a : Int} : chkV p a = 0 ↔ (1 ≤ p.length ∧ p.length ≤ 16) ∧ (-1 ≤ a ∧ a ≤ 63) ∧ cutL p (a + 1).toNat = p := by
  unfold chkV
  by_cases h1 : 1 ≤ p.length ∧ p.length ≤ 16
  · rw [if_pos h1]
    by_cases h2 : -1 ≤ a ∧ a ≤ 63
    · rw [if_pos h2]
      by_cases h3 : cutL p (a + 1).toNat = p
      · rw [if_pos h3]
        exact ⟨fun _ => ⟨h1, h2, h3⟩, fun _ => rfl⟩
      · rw [if_neg h3]
        exact ⟨fun h => absurd h (by decide), fun h => absurd h.2.2 h3⟩
    · rw [if_neg h2]
      exact ⟨fun h => absurd h (by decide), fun h => absurd h.2.1 h2⟩
  · rw [if_neg h1]
    exact ⟨fun h => absurd h (by decide), fun h => absurd h.1 h1⟩

theorem Range_eq {p : List Int} (hp : U p) (a : Int) {k : Nat} (hk : 50 ≤ k) : cover_Range.f k p a = some (if chkV p a = 0 then (cutL p (a + 1).toNat, cellHi p (a + 1).toNat, 0) else ([], [], chkV p a)) := by
  unfold cover_Range.f
  rw [chk_eq hp a hk, Option.bind_some]
  by_cases h : chkV p a = 0
  · rw [if_pos h, if_pos h]
    obtain ⟨h1, h2, h3⟩ := chk_zero.1 h
    rw [Cell_ok hp h1 h2 hk, Option.bind_some]
  · rw [if_neg h, if_neg h]

/-- lies the one within the other one, of two cells -/
def wIn (p : List Int) (a : Int) (q : List Int) (b : Int) : Bool := decide (a ≤ b) && decide (cutL p (b + 1).toNat = q)

theorem Within_eq {p q : List Int} (hp : U p) (hq : U q) (a b : Int) {k : Nat} (hk : 50 ≤ k) : cover_Within.f k p a q b =
    some (if chkV p a = 0 then (if chkV q b = 0 then (if p.length = q.length then (wIn p a q b, 0) else (false, 2)) else (false, chkV q b)) else (false, chkV p a)) := by
  unfold cover_Within.f
  rw [chk_eq hp a hk, Option.bind_some]
  by_cases h : chkV p a = 0
  · rw [if_pos h, if_pos h, chk_eq hq b hk, Option.bind_some]
    by_cases h2 : chkV q b = 0
    · rw [if_pos h2, if_pos h2]
      by_cases hl : p.length = q.length
      · rw [if_pos (by omega), if_pos hl]
        obtain ⟨h3, _, _⟩ := chk_zero.1 h
        obtain ⟨_, h5, _⟩ := chk_zero.1 h2
        rw [Cut_ok hp h3 h5 hk, Option.bind_some]
        dsimp only
        unfold wIn
        by_cases hab : a ≤ b
        · rw [if_pos hab, Equal_eq (by rw [cutL_length]; omega) (by rw [cutL_length]; omega), Option.bind_some, decide_eq_true hab, Bool.true_and]
        · rw [if_neg hab, decide_eq_false hab, Bool.false_and]
      · rw [if_neg (by omega), if_neg hl]
    · rw [if_neg h2, if_neg h2]
  · rw [if_neg h, if_neg h]

theorem cut_self {p : List Int} (hp : U p) {m : Nat} (h : cutL p m = p) (i : Nat) : cutv (nt p i) m = nt p i := by
  rw [← nt_cutL, h]

end Go.Proofs.Ythdphjbecibeaaa.FCoverOnce
