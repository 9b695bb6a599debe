/- The reference's Cut, Power, Place, and the program's Place, as printed, in plain numbers. -/
import Derived.Test.YthdphjbecibeaaaMp
import Derived.Test.YthdphjbecibeaaaFcMaskLeft
namespace Go.Proofs.Ythdphjbecibeaaa.FMaskLeft
open Go.RowKit Go.Proofs.Ythdphjbecibeaaa.PMaskLeft Go.Proofs.YthdphjbecibeaaaW.PrintWords Go.Proofs.YthdphjbecibeaaaW.PrintLast Go.Proofs.YthdphjbecibeaaaW.PrintMore Go.Proofs.YthdphjbecibeaaaMz
set_option linter.unusedVariables false
set_option linter.unusedSimpArgs false

theorem nt_mkL {n : Nat} {F : Nat → Nat} {i : Nat} (h : i < n) : nt (mkL n F) i = F i := by
  unfold nt
  rw [mkL_getD h]
  exact Int.toNat_natCast _

theorem rd_mkL {n : Nat} {F : Nat → Nat} {i : Nat} (h : i < n) : rd (mkL n F) (i : Int) = ((F i : Nat) : Int) := by
  unfold rd
  rw [Int.toNat_natCast, mkL_getD h]

theorem mkL_U {n : Nat} {F : Nat → Nat} (h : ∀ i, i < n → F i < 2 ^ 64) : U (mkL n F) := by
  intro x hx
  obtain ⟨i, hi, rfl⟩ := List.mem_map.1 hx
  have := h i (List.mem_range.1 hi)
  exact wf_u64_mk (by omega) (by omega)

theorem eq_mkL {p : List Int} (hp : U p) : p = mkL p.length (nt p) := by
  apply List.ext_getElem
  · rw [mkL_length]
  · intro i h1 h2
    have := getD_U hp i
    have e : p.getD i 0 = p[i] := getD_at h1
    rw [mkL_getElem]
    unfold nt
    rw [e] at this ⊢
    omega

theorem cutL_mkL {p : List Int} (m : Nat) : cutL p m = mkL p.length (fun i => cutv (nt p i) m) := by
  apply List.ext_getElem
  · rw [mkL_length, cutL_length]
  · intro i h1 h2
    rw [cutL_length] at h1
    have e : (cutL p m).getD i 0 = (cutL p m)[i]'(by rw [cutL_length]; exact h1) := getD_at _
    rw [← e, cutL_getD, mkL_getElem]

theorem shl_nat (x m : Nat) (hm : m ≤ 64) (h : x * 2 ^ m < 18446744073709551616) : shl .u64 (x : Int) (m : Int) = ((x * 2 ^ m : Nat) : Int) := by
  unfold shl
  rw [Int.toNat_natCast, Nat.min_eq_left (by simpa [IntKind.bits] using hm), IntKind.wrap_u64]
  have e : (x : Int) * 2 ^ m = ((x * 2 ^ m : Nat) : Int) := by
    rw [Int.natCast_mul, Int.natCast_pow]
    rfl
  rw [e]
  omega

theorem Power_loop (n : Nat) (hn : n ≤ 40) (d : Nat) : ∀ (k i : Nat), i + d = n → d < k → pantileref01_Power.l0 k (n : Int) ((2 ^ i : Nat) : Int) (i : Int) = some ((2 ^ n : Nat) : Int) := by
  induction d with
  | zero =>
    intro k i hi hk
    obtain ⟨k, rfl⟩ : ∃ m, k = m + 1 := ⟨k - 1, by omega⟩
    simp only [pantileref01_Power.l0]
    obtain rfl : i = n := by omega
    rw [if_neg (by omega)]
  | succ d ih =>
    intro k i hi hk
    obtain ⟨k, rfl⟩ : ∃ m, k = m + 1 := ⟨k - 1, by omega⟩
    simp only [pantileref01_Power.l0]
    have h3 : 2 ^ i ≤ 2 ^ 40 := Nat.pow_le_pow_right (by decide) (by omega)
    have := ih k (i + 1) (by omega) (by omega)
    have h4 : 2 ^ (i + 1) = 2 * 2 ^ i := by rw [Nat.pow_succ, Nat.mul_comm]
    rw [h4] at this
    generalize 2 ^ i = P at h3 this ⊢
    rw [if_pos (by omega), wrapu_id (by omega) (by omega), wrap64_id (by omega) (by omega)]
    exact this

theorem Power_eq (n : Nat) (hn : n ≤ 40) {k : Nat} (hk : 50 ≤ k) : pantileref01_Power.f k (n : Int) = some ((2 ^ n : Nat) : Int) :=
  Power_loop n hn n k 0 (by omega) (by omega)

/-- a point cut at the level a with an address there -/
def placeL (p : List Int) (a addr : Nat) : List Int := mkL p.length (fun i => plv (nt p i) a (abit p.length addr i))

theorem placeL_length (p : List Int) (a addr : Nat) : (placeL p a addr).length = p.length := mkL_length _ _

theorem placeL_U {p : List Int} (hp : U p) {a addr : Nat} (ha : a < 64) : U (placeL p a addr) :=
  mkL_U (fun i _ => plv_lt _ _ _ _ (nt_lt' hp i) ha (abit_lt _ _ _))

theorem nt_placeL {p : List Int} {a addr i : Nat} (h : i < p.length) : nt (placeL p a addr) i = plv (nt p i) a (abit p.length addr i) := nt_mkL h

theorem place_step {p : List Int} {a addr i : Nat} (hi : i < p.length) :
    (mkL p.length (fun j => if i < j then plv (nt p j) a (abit p.length addr j) else cutv (nt p j) (a + 1))).set i ((plv (nt p i) a (abit p.length addr i) : Nat) : Int)
      = mkL p.length (fun j => if i ≤ j then plv (nt p j) a (abit p.length addr j) else cutv (nt p j) (a + 1)) := by
  rw [mkL_set]
  apply mkL_congr
  intro j hj
  by_cases h1 : j = i
  · subst h1
    rw [if_pos rfl, if_pos (Nat.le_refl _)]
  · rw [if_neg h1]
    by_cases h2 : i < j
    · rw [if_pos h2, if_pos (by omega)]
    · rw [if_neg h2, if_neg (by omega)]

theorem shl_one (n : Nat) (hn : n ≤ 16) : shl .i64 1 (n : Int) = ((2 ^ n : Nat) : Int) := by
  have h3 : 2 ^ n ≤ 2 ^ 16 := Nat.pow_le_pow_right (by decide) hn
  unfold shl
  rw [Int.toNat_natCast, Nat.min_eq_left (by simp [IntKind.bits]; omega), Int.one_mul, IntKind.wrap_i64]
  have e : (2 : Int) ^ n = ((2 ^ n : Nat) : Int) := by rw [Int.natCast_pow]; rfl
  rw [e]
  generalize 2 ^ n = P at h3
  omega


end Go.Proofs.Ythdphjbecibeaaa.FMaskLeft
