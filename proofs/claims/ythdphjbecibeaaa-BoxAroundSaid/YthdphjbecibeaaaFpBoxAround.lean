/- The reference's Cut, Power, Place, and the program's Place, as printed, in plain numbers. -/
import Derived.Test.YthdphjbecibeaaaMp
import Derived.Test.YthdphjbecibeaaaFcBoxAround
namespace Go.Proofs.Ythdphjbecibeaaa.FBoxAround
open Go.RowKit Go.Proofs.Ythdphjbecibeaaa.PBoxAround Go.Proofs.YthdphjbecibeaaaW.PrintWords Go.Proofs.YthdphjbecibeaaaW.PrintLast Go.Proofs.YthdphjbecibeaaaW.PrintMore Go.Proofs.YthdphjbecibeaaaMz
set_option linter.unusedVariables false
set_option linter.unusedSimpArgs false

theorem nt_mkL {n : Nat} {F : Nat → Nat} {i : Nat} (h : i < n) : nt (mkL n F) i = F i := by
  unfold nt
  rw [mkL_getD h]
  exact Int.toNat_natCast _

theorem rd_mkL {n : Nat} {F : Nat → Nat} {i : Nat} (h : i < n) : rd (mkL n F) (i : Int) = ((F i : Nat) : Int) := by
  unfold rd
  rw [Int.toNat_natCast, mkL_getD h]

theorem mkL_U {n : Nat} {F : Nat → Nat} (h : ∀ i, i < n → F i < 2 ^ 64) : U (mkL n F) := by
  intro x hx
  obtain ⟨i, hi, rfl⟩ := List.mem_map.1 hx
  have := h i (List.mem_range.1 hi)
  exact wf_u64_mk (by omega) (by omega)

theorem eq_mkL {p : List Int} (hp : U p) : p = mkL p.length (nt p) := by
  apply List.ext_getElem
  · rw [mkL_length]
  · intro i h1 h2
    have := getD_U hp i
    have e : p.getD i 0 = p[i] := getD_at h1
    rw [mkL_getElem]
    unfold nt
    rw [e] at this ⊢
    omega

theorem cutL_mkL {p : List Int} (m : Nat) : cutL p m = mkL p.length (fun i => cutv (nt p i) m) := by
  apply List.ext_getElem
  · rw [mkL_length, cutL_length]
  · intro i h1 h2
    rw [cutL_length] at h1
    have e : (cutL p m).getD i 0 = (cutL p m)[i]'(by rw [cutL_length]; exact h1) := getD_at _
    rw [← e, cutL_getD, mkL_getElem]

theorem shl_nat (x m : Nat) (hm : m ≤ 64) (h : x * 2 ^ m < 18446744073709551616) : shl .u64 (x : Int) (m : Int) = ((x * 2 ^ m : Nat) : Int) := by
  unfold shl
  rw [Int.toNat_natCast, Nat.min_eq_left (by simpa [IntKind.bits] using hm), IntKind.wrap_u64]
  have e : (x : Int) * 2 ^ m = ((x * 2 ^ m : Nat) : Int) := by
    rw [Int.natCast_mul, Int.natCast_pow]
    rfl
  rw [e]
  omega

/-- the inner loop: bit by bit -/
theorem rCut_bits {p : List Int} (hp : U p) (h16 : p.length ≤ 40) (a : Int) (m : Nat) (hm : m ≤ 64) (x5 : List Int) (i : Nat) (hi : i < p.length) (d : Nat) : ∀ (k j : Nat), j + d = 64 → m ≤ j → d + 1 < k →
    ∃ k', k' + d + 1 = k ∧ pantileref01_Cut.l1 k p a x5 (i : Int) ((cutv (nt p i % 2 ^ j) m : Nat) : Int) (j : Int) =
      (if x5.length < 17592186044416 then pantileref01_Cut.l0 k' p a (x5 ++ [((cutv (nt p i) m : Nat) : Int)]) ((i : Int) + 1) else none) := by
  induction d with
  | zero =>
    intro k j hj hmj hk
    obtain ⟨k, rfl⟩ : ∃ m, k = m + 1 := ⟨k - 1, by omega⟩
    refine ⟨k, by omega, ?_⟩
    simp only [pantileref01_Cut.l1]
    rw [if_neg (by omega)]
    obtain rfl : j = 64 := by omega
    rw [cutv_full _ _ (nt_lt' hp i), wrap64_id (by omega) (by omega)]
  | succ d ih =>
    intro k j hj hmj hk
    obtain ⟨k, rfl⟩ : ∃ m, k = m + 1 := ⟨k - 1, by omega⟩
    obtain ⟨k', hk', he⟩ := ih k (j + 1) (by omega) (by omega) (by omega)
    refine ⟨k', by omega, ?_⟩
    rw [← he]
    simp only [pantileref01_Cut.l1]
    have hb := bt1_lt (nt p i) j
    have hx := nt_lt hp i
    have hst := cutv_step (nt p i) m j hmj
    have hle := cutv_le (nt p i % 2 ^ (j + 1)) m
    have hmd := Nat.mod_le (nt p i) (2 ^ (j + 1))
    rw [if_pos (by omega), if_pos (by omega), if_pos (by omega), rd_nt hp, ref_Bit_eq _ _ hx (by omega)]
    simp only [Option.bind_some]
    have hs2 : bt1 (nt p i) j * 2 ^ j < 18446744073709551616 := by omega
    rw [if_pos (by omega), wrapu_id (n := ((bt1 (nt p i) j : Nat) : Int)) (by omega) (by omega), shl_nat _ _ (by omega) hs2]
    rw [show ((cutv (nt p i % 2 ^ j) m : Nat) : Int) + ((bt1 (nt p i) j * 2 ^ j : Nat) : Int) = ((cutv (nt p i % 2 ^ (j + 1)) m : Nat) : Int) from by rw [hst, Int.natCast_add]]
    rw [wrapu_id (by omega) (by omega), wrap64_id (by omega) (by omega)]
    rfl

theorem rCut_loop {p : List Int} (hp : U p) (h16 : p.length ≤ 40) (a : Int) (ha : -1 ≤ a ∧ a ≤ 63) (d : Nat) : ∀ (k i : Nat), i + d = p.length → d * 70 < k →
    pantileref01_Cut.l0 k p a (mkL i (fun i => cutv (nt p i) (a + 1).toNat)) (i : Int) = some (cutL p (a + 1).toNat) := by
  induction d with
  | zero =>
    intro k i hi hk
    obtain ⟨k, rfl⟩ : ∃ m, k = m + 1 := ⟨k - 1, by omega⟩
    simp only [pantileref01_Cut.l0]
    obtain rfl : i = p.length := by omega
    rw [if_neg (by omega), cutL_mkL]
  | succ d ih =>
    intro k i hi hk
    obtain ⟨k, rfl⟩ : ∃ m, k = m + 1 := ⟨k - 1, by omega⟩
    simp only [pantileref01_Cut.l0]
    rw [if_pos (by omega), wrap64_id (by omega) (by omega)]
    obtain ⟨k', hk', he⟩ := rCut_bits hp h16 a (a + 1).toNat (by omega) (mkL i (fun i => cutv (nt p i) (a + 1).toNat)) i (by omega) (64 - (a + 1).toNat) k (a + 1).toNat (by omega) (Nat.le_refl _) (by omega)
    rw [cutv_mod_zero, Int.toNat_of_nonneg (by omega)] at he
    rw [show (0 : Int) = ((0 : Nat) : Int) from rfl, he, if_pos (by rw [mkL_length]; omega)]
    have := ih k' (i + 1) (by omega) (by omega)
    rw [mkL_succ] at this
    exact this

theorem rCut_ok {p : List Int} (hp : U p) (h16 : p.length ≤ 40) {a : Int} (ha : -1 ≤ a ∧ a ≤ 63) {k : Nat} (hk : 3000 ≤ k) :
    pantileref01_Cut.f k p a = some (cutL p (a + 1).toNat) := rCut_loop hp h16 a ha p.length k 0 (by omega) (by omega)

/-- a point cut at the level a with an address there -/
def placeL (p : List Int) (a addr : Nat) : List Int := mkL p.length (fun i => plv (nt p i) a (abit p.length addr i))

theorem placeL_length (p : List Int) (a addr : Nat) : (placeL p a addr).length = p.length := mkL_length _ _

theorem placeL_U {p : List Int} (hp : U p) {a addr : Nat} (ha : a < 64) : U (placeL p a addr) :=
  mkL_U (fun i _ => plv_lt _ _ _ _ (nt_lt' hp i) ha (abit_lt _ _ _))

theorem nt_placeL {p : List Int} {a addr i : Nat} (h : i < p.length) : nt (placeL p a addr) i = plv (nt p i) a (abit p.length addr i) := nt_mkL h

theorem place_step {p : List Int} {a addr i : Nat} (hi : i < p.length) :
    (mkL p.length (fun j => if i < j then plv (nt p j) a (abit p.length addr j) else cutv (nt p j) (a + 1))).set i ((plv (nt p i) a (abit p.length addr i) : Nat) : Int)
      = mkL p.length (fun j => if i ≤ j then plv (nt p j) a (abit p.length addr j) else cutv (nt p j) (a + 1)) := by
  rw [mkL_set]
  apply mkL_congr
  intro j hj
  by_cases h1 : j = i
  · subst h1
    rw [if_pos rfl, if_pos (Nat.le_refl _)]
  · rw [if_neg h1]
    by_cases h2 : i < j
    · rw [if_pos h2, if_pos (by omega)]
    · rw [if_neg h2, if_neg (by omega)]

theorem shl_one (n : Nat) (hn : n ≤ 16) : shl .i64 1 (n : Int) = ((2 ^ n : Nat) : Int) := by
  have h3 : 2 ^ n ≤ 2 ^ 16 := Nat.pow_le_pow_right (by decide) hn
  unfold shl
  rw [Int.toNat_natCast, Nat.min_eq_left (by simp [IntKind.bits]; omega), Int.one_mul, IntKind.wrap_i64]
  have e : (2 : Int) ^ n = ((2 ^ n : Nat) : Int) := by rw [Int.natCast_pow]; rfl
  rw [e]
  generalize 2 ^ n = P at h3
  omega


end Go.Proofs.Ythdphjbecibeaaa.FBoxAround
