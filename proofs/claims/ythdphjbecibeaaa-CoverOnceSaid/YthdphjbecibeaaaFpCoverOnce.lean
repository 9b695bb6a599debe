/- The reference's Cut, Power, Place, and the program's Place, as printed, in plain numbers. -/
import Derived.Test.YthdphjbecibeaaaMp
import Derived.Test.YthdphjbecibeaaaFcCoverOnce
namespace Go.Proofs.Ythdphjbecibeaaa.FCoverOnce
open Go.RowKit Go.Proofs.Ythdphjbecibeaaa.PCoverOnce Go.Proofs.YthdphjbecibeaaaW.PrintWords Go.Proofs.YthdphjbecibeaaaW.PrintLast Go.Proofs.YthdphjbecibeaaaW.PrintMore Go.Proofs.YthdphjbecibeaaaMz
set_option linter.unusedVariables false
set_option linter.unusedSimpArgs false

theorem nt_mkL {n : Nat} {F : Nat → Nat} {i : Nat} (h : i < n) : nt (mkL n F) i = F i := by
  unfold nt
  rw [mkL_getD h]
  exact Int.toNat_natCast _

theorem rd_mkL {n : Nat} {F : Nat → Nat} {i : Nat} (h : i < n) : rd (mkL n F) (i : Int) = ((F i : Nat) : Int) := by
  unfold rd
  rw [Int.toNat_natCast, mkL_getD h]

theorem mkL_U {n : Nat} {F : Nat → Nat} (h : ∀ i, i < n → F i < 2 ^ 64) : U (mkL n F) := by
  intro x hx
  obtain ⟨i, hi, rfl⟩ := List.mem_map.1 hx
  have := h i (List.mem_range.1 hi)
  exact wf_u64_mk (by omega) (by omega)

theorem eq_mkL {p : List Int} (hp : U p) : p = mkL p.length (nt p) := by
  apply List.ext_getElem
  · rw [mkL_length]
  · intro i h1 h2
    have := getD_U hp i
    have e : p.getD i 0 = p[i] := getD_at h1
    rw [mkL_getElem]
    unfold nt
    rw [e] at this ⊢
    omega

theorem cutL_mkL {p : List Int} (m : Nat) : cutL p m = mkL p.length (fun i => cutv (nt p i) m) := by
  apply List.ext_getElem
  · rw [mkL_length, cutL_length]
  · intro i h1 h2
    rw [cutL_length] at h1
    have e : (cutL p m).getD i 0 = (cutL p m)[i]'(by rw [cutL_length]; exact h1) := getD_at _
    rw [← e, cutL_getD, mkL_getElem]

theorem shl_nat (x m : Nat) (hm : m ≤ 64) (h : x * 2 ^ m < 18446744073709551616) : shl .u64 (x : Int) (m : Int) = ((x * 2 ^ m : Nat) : Int) := by
  unfold shl
  rw [Int.toNat_natCast, Nat.min_eq_left (by simpa [IntKind.bits] using hm), IntKind.wrap_u64]
  have e : (x : Int) * 2 ^ m = ((x * 2 ^ m : Nat) : Int) := by
    rw [Int.natCast_mul, Int.natCast_pow]
    rfl
  rw [e]
  omega


/-- a point cut at the level a with an address there -/
def placeL (p : List Int) (a addr : Nat) : List Int := mkL p.length (fun i => plv (nt p i) a (abit p.length addr i))

theorem placeL_length (p : List Int) (a addr : Nat) : (placeL p a addr).length = p.length := mkL_length _ _

theorem placeL_U {p : List Int} (hp : U p) {a addr : Nat} (ha : a < 64) : U (placeL p a addr) :=
  mkL_U (fun i _ => plv_lt _ _ _ _ (nt_lt' hp i) ha (abit_lt _ _ _))

theorem nt_placeL {p : List Int} {a addr i : Nat} (h : i < p.length) : nt (placeL p a addr) i = plv (nt p i) a (abit p.length addr i) := nt_mkL h

theorem place_step {p : List Int} {a addr i : Nat} (hi : i < p.length) :
    (mkL p.length (fun j => if i < j then plv (nt p j) a (abit p.length addr j) else cutv (nt p j) (a + 1))).set i ((plv (nt p i) a (abit p.length addr i) : Nat) : Int)
      = mkL p.length (fun j => if i ≤ j then plv (nt p j) a (abit p.length addr j) else cutv (nt p j) (a + 1)) := by
  rw [mkL_set]
  apply mkL_congr
  intro j hj
  by_cases h1 : j = i
  · subst h1
    rw [if_pos rfl, if_pos (Nat.le_refl _)]
  · rw [if_neg h1]
    by_cases h2 : i < j
    · rw [if_pos h2, if_pos (by omega)]
    · rw [if_neg h2, if_neg (by omega)]

theorem shl_one (n : Nat) (hn : n ≤ 16) : shl .i64 1 (n : Int) = ((2 ^ n : Nat) : Int) := by
  have h3 : 2 ^ n ≤ 2 ^ 16 := Nat.pow_le_pow_right (by decide) hn
  unfold shl
  rw [Int.toNat_natCast, Nat.min_eq_left (by simp [IntKind.bits]; omega), Int.one_mul, IntKind.wrap_i64]
  have e : (2 : Int) ^ n = ((2 ^ n : Nat) : Int) := by rw [Int.natCast_pow]; rfl
  rw [e]
  generalize 2 ^ n = P at h3
  omega

theorem zPlace_loop {p : List Int} (hp : U p) (h16 : p.length ≤ 16) (a : Nat) (ha : a < 64) (addr : Nat) (had : addr < 2 ^ p.length) (i : Nat) : ∀ (k : Nat), i ≤ p.length → i < k →
    zbits_Place.l0 k (a : Int) ((addr / 2 ^ (p.length - i) : Nat) : Int) (mkL p.length (fun j => if i ≤ j then plv (nt p j) a (abit p.length addr j) else cutv (nt p j) (a + 1))) ((i : Int) - 1) = some (placeL p a addr, 0) := by
  induction i with
  | zero =>
    intro k hi hk
    obtain ⟨k, rfl⟩ : ∃ m, k = m + 1 := ⟨k - 1, by omega⟩
    simp only [zbits_Place.l0]
    rw [if_neg (by omega)]
    unfold placeL
    congr 2
    all_goals (apply mkL_congr; intro j hj; rw [if_pos (Nat.zero_le _)])
  | succ i ih =>
    intro k hi hk
    obtain ⟨k, rfl⟩ : ∃ m, k = m + 1 := ⟨k - 1, by omega⟩
    simp only [zbits_Place.l0]
    have h3 : 2 ^ p.length ≤ 2 ^ 16 := Nat.pow_le_pow_right (by decide) h16
    have h4 : addr / 2 ^ (p.length - (i + 1)) ≤ addr := Nat.div_le_self _ _
    rw [show (((i + 1 : Nat) : Int) - 1) = (i : Int) from by omega, if_pos (by omega), if_pos (by omega), if_pos (by rw [mkL_length]; omega), if_pos (by omega), rd_mkL (by omega), if_neg (by omega)]
    have hbit : Go.bits .and .i64 ((addr / 2 ^ (p.length - (i + 1)) : Nat) : Int) 1 = ((abit p.length addr i : Nat) : Int) := by
      have := i64_and_nat (addr / 2 ^ (p.length - (i + 1))) 1 (by omega) (by omega)
      rw [show ((1 : Nat) : Int) = 1 from rfl] at this
      rw [this, Nat.and_one_is_mod]
      unfold abit
      rw [show p.length - (i + 1) = p.length - 1 - i from by omega]
    have hb := abit_lt p.length addr i
    have hpa : 2 ^ a ≤ 2 ^ 63 := Nat.pow_le_pow_right (by decide) (by omega)
    have hba : abit p.length addr i * 2 ^ a < 18446744073709551616 := by
      rcases (by omega : abit p.length addr i = 0 ∨ abit p.length addr i = 1) with e | e <;> rw [e] <;> omega
    have hcl := cutv_le (nt p i) (a + 1)
    have hx := nt_lt hp i
    rw [hbit, wrapu_id (by omega) (by omega), shl_nat _ _ (by omega) hba, u64_or_nat _ _ (by omega) hba, plv_or _ _ _ hb, Int.toNat_natCast, wrap64_id (by omega) (by omega)]
    have hset := @place_step p a addr i (by omega)
    have e1 : (fun j => if i + 1 ≤ j then plv (nt p j) a (abit p.length addr j) else cutv (nt p j) (a + 1)) = (fun j => if i < j then plv (nt p j) a (abit p.length addr j) else cutv (nt p j) (a + 1)) := rfl
    rw [e1, hset]
    have := ih k (by omega) (by omega)
    have e2 : ((addr / 2 ^ (p.length - i) : Nat) : Int) = ((addr / 2 ^ (p.length - (i + 1)) : Nat) : Int) / 2 := by
      rw [show p.length - i = (p.length - (i + 1)) + 1 from by omega, Nat.pow_succ, ← Nat.div_div_eq_div_mul]
      omega
    rw [e2] at this
    exact this

theorem zPlace_ok {p : List Int} (hp : U p) (hr : 1 ≤ p.length ∧ p.length ≤ 16) {a : Int} (ha : 0 ≤ a ∧ a < 64) {addr : Int} (had : 0 ≤ addr ∧ addr < ((2 ^ p.length : Nat) : Int)) {k : Nat} (hk : 60 ≤ k) :
    zbits_Place.f k p a addr = some (placeL p a.toNat addr.toNat, 0) := by
  obtain ⟨k, rfl⟩ : ∃ m, k = m + 1 := ⟨k - 1, by omega⟩
  unfold zbits_Place.f
  rw [zbits_Right_eq, zbits_level_eq]
  simp only [Option.bind_some]
  have hs := shl_one p.length hr.2
  have hd : decide (addr ≥ ((2 ^ p.length : Nat) : Int)) = false := decide_eq_false (Int.not_le.2 had.2)
  have htn : addr.toNat < 2 ^ p.length := (Int.toNat_lt had.1).2 had.2
  rw [if_pos (by simpa using hr), if_pos (by simpa using ha), if_neg (Int.not_lt.2 had.1), hs, hd]
  simp only [zbits_Place.j0]
  rw [if_neg (by simp), Cut_ok hp hr (by omega) (by omega)]
  simp only [Option.bind_some]
  rw [cutL_length, wrap64_id (by omega) (by omega)]
  have := zPlace_loop hp hr.2 a.toNat (by omega) addr.toNat htn p.length k (Nat.le_refl _) (by omega)
  rw [Nat.sub_self, Nat.pow_zero, Nat.div_one, Int.toNat_of_nonneg ha.1, Int.toNat_of_nonneg had.1] at this
  rw [← this, cutL_mkL]
  congr 1
  apply mkL_congr
  intro j hj
  rw [if_neg (by omega), show (a + 1).toNat = a.toNat + 1 from by omega]

theorem zPlace_arg {p : List Int} (hr : 1 ≤ p.length ∧ p.length ≤ 16) {a : Int} {addr : Int} (h : ¬ (0 ≤ a ∧ a < 64 ∧ 0 ≤ addr ∧ addr < ((2 ^ p.length : Nat) : Int))) {k : Nat} (hk : 1 ≤ k) :
    zbits_Place.f k p a addr = some ([], 3) := by
  obtain ⟨k, rfl⟩ : ∃ m, k = m + 1 := ⟨k - 1, by omega⟩
  unfold zbits_Place.f
  rw [zbits_Right_eq, zbits_level_eq]
  simp only [Option.bind_some, zbits_Place.j0]
  have hs := shl_one p.length hr.2
  rw [if_pos (by simpa using hr), hs]
  by_cases h1 : 0 ≤ a ∧ a < 64
  · rw [if_pos (by simpa using h1)]
    by_cases h2 : addr < 0
    · rw [if_pos h2, if_pos trivial]
    · rw [if_neg h2, if_pos (decide_eq_true (Int.not_lt.1 fun h3 => h ⟨h1.1, h1.2, by omega, h3⟩))]
  · rw [if_neg (by simpa using h1), if_pos trivial]

theorem zPlace_dim {p : List Int} (hr : ¬ (1 ≤ p.length ∧ p.length ≤ 16)) {a : Int} {addr : Int} {k : Nat} :
    zbits_Place.f k p a addr = some ([], 2) := by
  unfold zbits_Place.f
  rw [zbits_Right_eq]
  simp only [Option.bind_some]
  rw [if_neg (by simpa using hr)]

end Go.Proofs.Ythdphjbecibeaaa.FCoverOnce
