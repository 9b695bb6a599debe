/- The program's Cut, as printed, in plain numbers. -/
import Derived.Test.YthdphjbecibeaaaMc
import Derived.Test.YthdphjbecibeaaaFlCoverOnce
namespace Go.Proofs.Ythdphjbecibeaaa.FCoverOnce
open Go.RowKit Go.Proofs.Ythdphjbecibeaaa.PCoverOnce Go.Proofs.YthdphjbecibeaaaW.PrintWords Go.Proofs.YthdphjbecibeaaaW.PrintLast Go.Proofs.YthdphjbecibeaaaW.PrintMore Go.Proofs.YthdphjbecibeaaaMz
set_option linter.unusedVariables false
set_option linter.unusedSimpArgs false

/-- a list of coordinates, each cut -/
def cutL (p : List Int) (m : Nat) : List Int := p.map fun x => ((cutv x.toNat m : Nat) : Int)

theorem cutL_length (p : List Int) (m : Nat) : (cutL p m).length = p.length := List.length_map _

theorem cutL_getD (p : List Int) (m i : Nat) : (cutL p m).getD i 0 = ((cutv (nt p i) m : Nat) : Int) := by
  unfold cutL nt
  rw [List.getD_eq_getElem?_getD, List.getD_eq_getElem?_getD, List.getElem?_map]
  cases p[i]? with
  | none => simp [cutv]
  | some x => rfl

theorem nt_cutL (p : List Int) (m i : Nat) : nt (cutL p m) i = cutv (nt p i) m := by
  unfold nt
  rw [cutL_getD]
  simp [nt]

theorem cutL_U {p : List Int} (hp : U p) (m : Nat) : U (cutL p m) := by
  intro x hx
  obtain ⟨y, hy, rfl⟩ := List.mem_map.1 hx
  have := wf_u64 (hp y hy)
  have := cutv_le y.toNat m
  exact wf_u64_mk (by omega) (by omega)

theorem above_eq (m : Nat) (hm : m ≤ 64) : zbits_above.f ((m : Int) - 1) = some ((2 ^ 64 - 2 ^ m : Nat) : Int) := by
  unfold zbits_above.f
  by_cases h : m = 64
  · subst h
    rfl
  · rw [if_neg (by omega), wrap64_id (by omega) (by omega), if_pos (by omega)]
    congr 1
    rw [show ((m : Int) - 1 + 1) = (m : Int) from by omega]
    unfold shl
    rw [Int.toNat_natCast, Nat.min_eq_left (by simp [IntKind.bits]; omega), IntKind.wrap_u64]
    have hp : 2 ^ m ≤ 2 ^ 63 := Nat.pow_le_pow_right (by decide) (by omega)
    have hq : 0 < 2 ^ m := Nat.two_pow_pos m
    have e : (18446744073709551615 : Int) * 2 ^ m = ((18446744073709551615 * 2 ^ m : Nat) : Int) := by
      rw [Int.natCast_mul, Int.natCast_pow]
      rfl
    rw [e]
    have e2 : (18446744073709551615 * 2 ^ m : Nat) = (2 ^ 64 - 2 ^ m) + 18446744073709551616 * (2 ^ m - 1) := by omega
    rw [e2]
    omega

theorem set_at {a b : List Int} {x y : Int} : (a ++ x :: b).set a.length y = a ++ y :: b := by
  rw [List.set_append_right _ _ (Nat.le_refl _)]
  simp

theorem Cut_loop {p : List Int} (hp : U p) (h16 : p.length ≤ 16) (m : Nat) (hm : m ≤ 64) (d : Nat) : ∀ (k i : Nat), i + d = p.length → d < k →
    zbits_Cut.l0 k ((m : Int) - 1) ((cutL p m).take i ++ p.drop i) (p.length : Int) (i : Int) = some (cutL p m, 0) := by
  induction d with
  | zero =>
    intro k i hi hk
    obtain ⟨k, rfl⟩ : ∃ m, k = m + 1 := ⟨k - 1, by omega⟩
    simp only [zbits_Cut.l0]
    rw [if_neg (by omega), List.take_of_length_le (by rw [cutL_length]; omega), List.drop_eq_nil_of_le (by omega), List.append_nil]
  | succ d ih =>
    intro k i hi hk
    obtain ⟨k, rfl⟩ : ∃ m, k = m + 1 := ⟨k - 1, by omega⟩
    simp only [zbits_Cut.l0]
    have hc := cutL_length p m
    have hlen : ((cutL p m).take i ++ p.drop i).length = p.length := by
      rw [List.length_append, List.length_take, List.length_drop]; omega
    rw [if_pos (by omega), if_pos (by omega), if_pos (by omega), above_eq m hm]
    simp only [Option.bind_some]
    have d1 : p.drop i = p[i]'(by omega) :: p.drop (i + 1) := List.drop_eq_getElem_cons (by omega)
    have hti : ((cutL p m).take i).length = i := by rw [List.length_take]; omega
    have hrd : rd ((cutL p m).take i ++ p.drop i) (i : Int) = ((nt p i : Nat) : Int) := by
      rw [← rd_nt hp]
      unfold rd
      rw [Int.toNat_natCast, List.getD_eq_getElem?_getD, List.getD_eq_getElem?_getD, List.getElem?_append_right (by omega), hti, List.getElem?_drop]
      simp
    rw [hrd, u64_and_nat _ _ (nt_lt hp i) (by have := Nat.two_pow_pos m; omega), and_mask _ _ (nt_lt' hp i) hm, Int.toNat_natCast, wrap64_id (by omega) (by omega)]
    have hset : ((cutL p m).take i ++ p.drop i).set i ((cutv (nt p i) m : Nat) : Int) = (cutL p m).take (i + 1) ++ p.drop (i + 1) := by
      rw [d1]
      have e := @set_at ((cutL p m).take i) (p.drop (i + 1)) (p[i]'(by omega)) ((cutv (nt p i) m : Nat) : Int)
      rw [hti] at e
      rw [e, List.take_succ_eq_append_getElem (by omega), List.append_assoc]
      congr 1
      have hg : (cutL p m)[i]'(by omega) = ((cutv (nt p i) m : Nat) : Int) := by
        rw [← cutL_getD, getD_at]
      rw [hg]
      rfl
    rw [hset]
    exact ih k (i + 1) (by omega) (by omega)

theorem Clone_eq {p : List Int} (h : p.length < 1000) : slices_Clone_uint64_uint64.f p = some p := by
  unfold slices_Clone_uint64_uint64.f
  simp only [Option.bind_some, List.nil_append, List.length_nil]
  rw [if_pos (by omega)]

theorem Cut_ok {p : List Int} (hp : U p) (hr : 1 ≤ p.length ∧ p.length ≤ 16) {a : Int} (ha : -1 ≤ a ∧ a ≤ 63) {k : Nat} (hk : 50 ≤ k) :
    zbits_Cut.f k p a = some (cutL p (a + 1).toNat, 0) := by
  obtain ⟨k, rfl⟩ : ∃ m, k = m + 1 := ⟨k - 1, by omega⟩
  have hj : zbits_Cut.j0 (k + 1) p a = some (cutL p (a + 1).toNat, 0) := by
    simp only [zbits_Cut.j0]
    rw [Clone_eq (by omega)]
    simp only [Option.bind_some]
    have := Cut_loop hp hr.2 (a + 1).toNat (by omega) p.length k 0 (by omega) (by omega)
    rw [show (((a + 1).toNat : Nat) : Int) - 1 = a from by omega] at this
    exact this
  unfold zbits_Cut.f
  rw [zbits_Right_eq, zbits_level_eq]
  simp only [Option.bind_some]
  rw [if_pos (by simpa using hr)]
  by_cases h : a = -1
  · rw [if_pos h, hj]
  · rw [if_neg h, if_pos (by simp; omega), hj]

theorem Cut_arg {p : List Int} (hr : 1 ≤ p.length ∧ p.length ≤ 16) {a : Int} (ha : ¬ (-1 ≤ a ∧ a ≤ 63)) {k : Nat} :
    zbits_Cut.f k p a = some ([], 3) := by
  unfold zbits_Cut.f
  rw [zbits_Right_eq, zbits_level_eq]
  simp only [Option.bind_some]
  rw [if_pos (by simpa using hr), if_neg (by omega), if_neg (by simp; omega)]

theorem Cut_dim {p : List Int} (hr : ¬ (1 ≤ p.length ∧ p.length ≤ 16)) {a : Int} {k : Nat} :
    zbits_Cut.f k p a = some ([], 2) := by
  unfold zbits_Cut.f
  rw [zbits_Right_eq]
  simp only [Option.bind_some]
  rw [if_neg (by simpa using hr)]

/-- two points part at a level, or below, just if they are the same, cut there -/
theorem part_le_iff {p q : List Int} (hp : U p) (hq : U q) (hl : p.length = q.length) (m : Nat) : partN (nt p) (nt q) p.length 64 ≤ (m : Int) - 1 ↔ cutL p m = cutL q m := by
  rw [Part_blen hp hq, same_iff (cutL_U hp m) (cutL_U hq m) (by rw [cutL_length, cutL_length, hl]), cutL_length]
  have h := blen_le_iff (orxN (nt p) (nt q) p.length) m
  have h2 := orxN_le (nt p) (nt q) p.length m
  constructor
  · intro hb i hi
    rw [nt_cutL, nt_cutL]
    exact (cutv_eq_iff _ _ _).2 (h2.1 (h.1 (by omega)) i hi)
  · intro hs
    have := h.2 (h2.2 (fun i hi => by
      have := hs i hi
      rw [nt_cutL, nt_cutL] at this
      exact (cutv_eq_iff _ _ _).1 this))
    omega

end Go.Proofs.Ythdphjbecibeaaa.FCoverOnce
