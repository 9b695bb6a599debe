/- pantilelaw03.BoxAround answers true for every two lists of coordinates, every number and level; no condition beyond the row's own. -/
import Derived.Test.YthdphjbecibeaaaFbBoxAround
namespace Go.Proofs.Ythdphjbecibeaaa.Pure
open Go.RowKit Go.Proofs.Ythdphjbecibeaaa.PBoxAround Go.Proofs.YthdphjbecibeaaaW.PrintWords Go.Proofs.YthdphjbecibeaaaW.PrintLast Go.Proofs.Ythdphjbecibeaaa.FBoxAround Go.Proofs.YthdphjbecibeaaaMz
set_option linter.unusedVariables false
set_option linter.unusedSimpArgs false

theorem around_j4 {p q : List Int} (hp : U p) (hq : U q) (ha : 1 ≤ p.length ∧ p.length ≤ 16 ∧ p.length = q.length) {a : Int} (c d : List Int) (b : Bool)
    (hb : b = true → (-1 ≤ a ∧ a ≤ 63) ∧ c = cutL p (a + 1).toNat ∧ d = cellHi p (a + 1).toNat) {k : Nat} (hk : 4000 ≤ k) :
    pantilelaw03_BoxAround.j4 k p q a b false c d = some true := by
  obtain ⟨k, rfl⟩ : ∃ m, k = m + 1 := ⟨k - 1, by omega⟩
  simp only [pantilelaw03_BoxAround.j4]
  rw [if_neg (by simp)]
  cases b with
  | false => rfl
  | true =>
    obtain ⟨hl, rfl, rfl⟩ := hb rfl
    obtain ⟨m, hm⟩ : ∃ m : Nat, (a + 1).toNat = m := ⟨_, rfl⟩
    have ham : a = (m : Int) - 1 := by omega
    rw [hm]
    have hcl := cutL_length p m
    have hch : (cellHi p m).length = p.length := mkL_length _ _
    have hUh : U (cellHi p m) := mkL_U (fun i _ => chi_lt (nt_lt' hp i) (by omega))
    rw [if_pos rfl, In_ok (cutL_U hp m) hUh hq (by omega) (by omega)]
    simp only [Option.bind_some, if_true]
    rw [refPart_eq hp hq ha.2.2 (by omega) (by omega)]
    simp only [Option.bind_some]
    congr 1
    rw [beq_iff_eq, Bool.eq_iff_iff, decide_eq_true_eq, ham, ← ha.2.2, part_le_iff hp hq ha.2.2 m]
    rw [in_cell (f := nt p) (g := nt q) (k := p.length) (lo := nt (cutL p m)) (hi := nt (cellHi p m)) (m := m) (fun i hi => nt_cutL p m i) (fun i hi => nt_mkL hi)]
    rw [same_iff (cutL_U hp m) (cutL_U hq m) (by rw [cutL_length, cutL_length]; exact ha.2.2), hcl]
    constructor
    · intro h i hi
      rw [nt_cutL, nt_cutL]
      exact h i hi
    · intro h i hi
      have := h i hi
      rw [nt_cutL, nt_cutL] at this
      exact this

theorem around_j3 {p q : List Int} (hp : U p) (hq : U q) (ha : 1 ≤ p.length ∧ p.length ≤ 16) {n : Int} (hn : 0 ≤ n ∧ n < 18446744073709551616) {a : Int} (c d : List Int) (b : Bool)
    (hb : b = true → (-1 ≤ a ∧ a ≤ 63) ∧ c = cutL p (a + 1).toNat ∧ d = cellHi p (a + 1).toNat) (f e : Int) {k : Nat} (hk : 4100 ≤ k)
    (hf : box_Far.f k p q = some (f, e)) :
    pantilelaw03_BoxAround.j3 k p q n a f e b false (aroundLo p n.toNat) (aroundHi p n.toNat) c d = some true := by
  by_cases hl : p.length = q.length
  · rw [bFar_ok hp hq ⟨ha.1, ha.2, hl⟩ (by omega)] at hf
    simp only [Option.some.injEq, Prod.mk.injEq] at hf
    obtain ⟨rfl, rfl⟩ := hf
    obtain ⟨k, rfl⟩ : ∃ m, k = m + 1 := ⟨k - 1, by omega⟩
    simp only [pantilelaw03_BoxAround.j3]
    have l1 : (aroundLo p n.toNat).length = p.length := mkL_length _ _
    have l2 : (aroundHi p n.toNat).length = p.length := mkL_length _ _
    have u1 : U (aroundLo p n.toNat) := mkL_U (fun i _ => by have := nt_lt hp i; omega)
    have u2 : U (aroundHi p n.toNat) := mkL_U (fun i _ => by unfold ahi; omega)
    rw [if_neg (by simp), if_pos (by omega), In_ok u1 u2 hq (by omega) (by omega)]
    simp only [Option.bind_some, if_true]
    rw [rFar_ok hp hq hl (by omega) (by omega)]
    simp only [Option.bind_some, if_true]
    rw [← hl, in_around (f := nt p) (g := nt q) (lo := nt (aroundLo p n.toNat)) (hi := nt (aroundHi p n.toNat)) (k := p.length) (n := n.toNat) (fun i _ => nt_lt hq i) (fun i hi => nt_mkL hi) (fun i hi => nt_mkL hi)]
    have e : (decide (farN (nt p) (nt q) p.length ≤ n.toNat) != decide (((farN (nt p) (nt q) p.length : Nat) : Int) ≤ n)) = false := by
      rw [bne_eq_false_iff_eq]
      apply decide_eq_decide.2
      omega
    rw [e]
    exact around_j4 hp hq ⟨ha.1, ha.2, hl⟩ c d b hb (by omega)
  · rw [bFar_dim (by omega) (by omega)] at hf
    simp only [Option.some.injEq, Prod.mk.injEq] at hf
    obtain ⟨rfl, rfl⟩ := hf
    obtain ⟨k, rfl⟩ : ∃ m, k = m + 1 := ⟨k - 1, by omega⟩
    simp only [pantilelaw03_BoxAround.j3]
    rw [if_neg (by simp), if_neg (by omega), if_pos trivial]
    rfl

theorem far_rounds {p q : List Int} (hp : U p) (hq : U q) {k k' : Nat} (hk : 100 ≤ k) (hk' : 100 ≤ k') : box_Far.f k p q = box_Far.f k' p q := by
  by_cases h : 1 ≤ p.length ∧ p.length ≤ 16 ∧ p.length = q.length
  · rw [bFar_ok hp hq h (by omega), bFar_ok hp hq h (by omega)]
  · rw [bFar_dim h (by omega), bFar_dim h (by omega)]

theorem around_j1 {p q : List Int} (hp : U p) (hq : U q) (ha : 1 ≤ p.length ∧ p.length ≤ 16) {n : Int} (hn : 0 ≤ n ∧ n < 18446744073709551616) {a : Int} (c d : List Int) (ce : Int) (f e : Int) {k : Nat} (hk : 4300 ≤ k)
    (hf : box_Far.f k p q = some (f, e)) (hc : box_Cell.f k p a = some (c, d, ce)) :
    pantilelaw03_BoxAround.j1 k p q n a ce f e false (aroundLo p n.toNat) (aroundHi p n.toNat) c d = some true := by
  obtain ⟨k, rfl⟩ : ∃ m, k = m + 1 + 1 := ⟨k - 2, by omega⟩
  rw [far_rounds hp hq (by omega) (by omega : 100 ≤ k)] at hf
  simp only [pantilelaw03_BoxAround.j1]
  rw [if_neg (by simp)]
  by_cases hl : -1 ≤ a ∧ a ≤ 63
  · rw [Cell_ok hp ha hl (by omega)] at hc
    simp only [Option.some.injEq, Prod.mk.injEq] at hc
    obtain ⟨rfl, rfl, rfl⟩ := hc
    rw [if_pos hl.1, decide_eq_true hl.2]
    simp only [pantilelaw03_BoxAround.j2]
    have l1 := cutL_length p (a + 1).toNat
    have l2 : (cellHi p (a + 1).toNat).length = p.length := mkL_length _ _
    rw [if_pos trivial, if_pos trivial, rCell_ok hp (by omega) hl (by omega)]
    simp only [Option.bind_some]
    rw [Same3_eq (by omega) (by omega) (by omega) (by omega)]
    simp only [Option.bind_some]
    rw [if_pos (by simp)]
    exact around_j3 hp hq ha hn _ _ true (fun _ => ⟨hl, rfl, rfl⟩) f e (by omega) hf
  · rw [Cell_arg ha hl] at hc
    simp only [Option.some.injEq, Prod.mk.injEq] at hc
    obtain ⟨rfl, rfl, rfl⟩ := hc
    have key : pantilelaw03_BoxAround.j2 (k + 1) p q n a 3 f e false (aroundLo p n.toNat) (aroundHi p n.toNat) [] [] = some true := by
      simp only [pantilelaw03_BoxAround.j2]
      rw [if_neg (by simp), if_pos trivial, if_pos (by simp)]
      exact around_j3 hp hq ha hn _ _ false (fun h => by simp at h) f e (by omega) hf
    by_cases h1 : a ≥ -1
    · rw [if_pos h1, decide_eq_false (by omega)]
      exact key
    · rw [if_neg h1]
      exact key

theorem around_j0 {p q : List Int} (hp : U p) (hq : U q) {n : Int} (hn : 0 ≤ n ∧ n < 18446744073709551616) {a : Int} (b : Bool) (hb : b = false → p.length ≤ 40) {k : Nat} (hk : 4500 ≤ k) :
    pantilelaw03_BoxAround.j0 k p q n a b = some true := by
  obtain ⟨k, rfl⟩ : ∃ m, k = m + 1 := ⟨k - 1, by omega⟩
  simp only [pantilelaw03_BoxAround.j0]
  cases b with
  | true => rfl
  | false =>
    have h40 := hb rfl
    rw [if_neg (by simp)]
    by_cases hr : 1 ≤ p.length ∧ p.length ≤ 16
    · have h2 : ∃ c d ce, box_Cell.f k p a = some (c, d, ce) := by
        by_cases h : -1 ≤ a ∧ a ≤ 63
        · exact ⟨_, _, _, Cell_ok hp hr h (by omega)⟩
        · exact ⟨_, _, _, Cell_arg hr h⟩
      have h3 : ∃ f e, box_Far.f k p q = some (f, e) := by
        by_cases h : 1 ≤ p.length ∧ p.length ≤ 16 ∧ p.length = q.length
        · exact ⟨_, _, bFar_ok hp hq h (by omega)⟩
        · exact ⟨_, _, bFar_dim h (by omega)⟩
      obtain ⟨c, d, ce, h2⟩ := h2
      obtain ⟨f, e, h3⟩ := h3
      have l1 : (aroundLo p n.toNat).length = p.length := mkL_length _ _
      have l2 : (aroundHi p n.toNat).length = p.length := mkL_length _ _
      rw [Around_ok hp hr hn, h2, h3, ref_Right_eq]
      simp only [Option.bind_some]
      rw [if_pos (by simpa using hr), if_pos trivial, rAround_ok hp h40 hn (by omega)]
      simp only [Option.bind_some]
      rw [Same3_eq (by omega) (by omega) (by omega) (by omega)]
      simp only [Option.bind_some, and_self, decide_true, Bool.not_true]
      exact around_j1 hp hq hr hn c d ce f e (by omega) h3 h2
    · rw [Around_dim hr, Cell_dim hr, bFar_dim (by omega) (by omega), ref_Right_eq]
      simp only [Option.bind_some]
      rw [if_neg (by simpa using hr), if_pos (by simp), if_pos trivial, if_pos (by simp), if_pos trivial, if_pos trivial]
      rfl

theorem BoxAround : pantilelaw03_BoxAround.Pure := by
  intro p q n a _ _ hp _ _ hq hn ha
  refine ⟨5000, ?_⟩
  unfold pantilelaw03_BoxAround.f
  rw [awake03_eq (by omega)]
  simp only [Option.bind_some]
  rw [if_pos trivial]
  have hn' := wf_u64 hn
  by_cases h1 : (p.length : Int) > 40
  · rw [if_pos h1]
    exact around_j0 hp hq hn' true (fun h => by simp at h) (by omega)
  · rw [if_neg h1]
    exact around_j0 hp hq hn' _ (fun _ => by omega) (by omega)

end Go.Proofs.Ythdphjbecibeaaa.Pure
