/- pantilelaw01.ZbitsAddr answers true for every list of coordinates, level and address; no condition beyond the row's own. -/
import Derived.Test.YthdphjbecibeaaaFaZbitsAddr
import Derived.Test.YthdphjbecibeaaaFpZbitsAddr
namespace Go.Proofs.Ythdphjbecibeaaa.Pure
open Go.RowKit Go.Proofs.Ythdphjbecibeaaa.PZbitsAddr Go.Proofs.YthdphjbecibeaaaW.PrintWords Go.Proofs.YthdphjbecibeaaaW.PrintLast Go.Proofs.Ythdphjbecibeaaa.FZbitsAddr Go.Proofs.YthdphjbecibeaaaMz
set_option linter.unusedVariables false
set_option linter.unusedSimpArgs false

theorem addr_j4_bad {p : List Int} {a addr : Int} {k : Nat} (hk : 1 ≤ k) : pantilelaw01_ZbitsAddr.j4 k p a addr [] 3 true = some true := by
  obtain ⟨k, rfl⟩ : ∃ m, k = m + 1 := ⟨k - 1, by omega⟩
  simp only [pantilelaw01_ZbitsAddr.j4]
  rw [if_pos trivial, if_pos (by simp)]
  rfl

theorem addr_j4 {p : List Int} (hp : U p) (hr : 1 ≤ p.length ∧ p.length ≤ 16) {a : Int} (ha : 0 ≤ a ∧ a < 64) {addr : Int} (had : 0 ≤ addr ∧ addr < ((2 ^ p.length : Nat) : Int)) {k : Nat} (hk : 4000 ≤ k) :
    pantilelaw01_ZbitsAddr.j4 k p a addr (placeL p a.toNat addr.toNat) 0 false = some true := by
  obtain ⟨k, rfl⟩ : ∃ m, k = m + 1 := ⟨k - 1, by omega⟩
  simp only [pantilelaw01_ZbitsAddr.j4]
  have h3 : 2 ^ p.length ≤ 2 ^ 16 := Nat.pow_le_pow_right (by decide) hr.2
  have hlt : addr.toNat < 2 ^ p.length := (Int.toNat_lt had.1).2 had.2
  have hl := placeL_length p a.toNat addr.toNat
  rw [if_neg (by simp), Addr_ok (placeL_U hp (by omega)) (by omega) ha (by omega), rPlace_ok hp (by omega) ha (by omega) (by omega)]
  simp only [Option.bind_some, if_true]
  rw [Same_eq (by omega) (by omega)]
  simp only [Option.bind_some, decide_true, if_true]
  have e : addrN (nt (placeL p a.toNat addr.toNat)) a.toNat (placeL p a.toNat addr.toNat).length = addr.toNat := by
    rw [hl]
    exact addr_place hlt (fun i hi => nt_placeL hi)
  rw [e, if_pos (by omega)]
  rfl

theorem addr_j3 {p : List Int} (hp : U p) (hr : 1 ≤ p.length ∧ p.length ≤ 16) {a : Int} (ha : 0 ≤ a ∧ a < 64) {addr : Int} {k : Nat} (hk : 4100 ≤ k) :
    ∀ q e, zbits_Place.f k p a addr = some (q, e) → pantilelaw01_ZbitsAddr.j3 k p a addr q e false = some true := by
  intro q e h
  have h3 : 2 ^ p.length ≤ 2 ^ 16 := Nat.pow_le_pow_right (by decide) hr.2
  by_cases had : 0 ≤ addr ∧ addr < ((2 ^ p.length : Nat) : Int)
  · rw [zPlace_ok hp hr ha had (by omega)] at h
    simp only [Option.some.injEq, Prod.mk.injEq] at h
    obtain ⟨rfl, rfl⟩ := h
    obtain ⟨k, rfl⟩ : ∃ m, k = m + 1 := ⟨k - 1, by omega⟩
    simp only [pantilelaw01_ZbitsAddr.j3]
    rw [if_neg (by simp), if_neg (by omega), Power_eq _ (by omega) (by omega)]
    simp only [Option.bind_some]
    rw [wrap64_nat (by omega), decide_eq_false (Int.not_le.2 had.2)]
    exact addr_j4 hp hr ha had (by omega)
  · rw [zPlace_arg hr (by intro x; exact had ⟨x.2.2.1, x.2.2.2⟩) (by omega)] at h
    simp only [Option.some.injEq, Prod.mk.injEq] at h
    obtain ⟨rfl, rfl⟩ := h
    obtain ⟨k, rfl⟩ : ∃ m, k = m + 1 := ⟨k - 1, by omega⟩
    simp only [pantilelaw01_ZbitsAddr.j3]
    rw [if_neg (by simp)]
    by_cases h0 : addr < 0
    · rw [if_pos h0]
      exact addr_j4_bad (by omega)
    · rw [if_neg h0, Power_eq _ (by omega) (by omega)]
      simp only [Option.bind_some]
      rw [wrap64_nat (by omega), decide_eq_true (Int.not_lt.1 fun x => had ⟨by omega, x⟩)]
      exact addr_j4_bad (by omega)

theorem addr_j2 {p : List Int} (hp : U p) (hr : 1 ≤ p.length ∧ p.length ≤ 16) {a : Int} (ha : -1 ≤ a ∧ a ≤ 63) {addr : Int} {k : Nat} (hk : 4200 ≤ k) :
    ∀ A ea q e, zbits_Addr.f k p a = some (A, ea) → zbits_Place.f k p a addr = some (q, e) → pantilelaw01_ZbitsAddr.j2 k p a addr A ea q e false = some true := by
  intro A ea q e h1 h2
  by_cases h0 : a = -1
  · rw [Addr_arg hr (by omega)] at h1
    rw [zPlace_arg hr (by omega) (by omega)] at h2
    simp only [Option.some.injEq, Prod.mk.injEq] at h1 h2
    obtain ⟨rfl, rfl⟩ := h1
    obtain ⟨rfl, rfl⟩ := h2
    obtain ⟨k, rfl⟩ : ∃ m, k = m + 1 := ⟨k - 1, by omega⟩
    simp only [pantilelaw01_ZbitsAddr.j2]
    rw [if_neg (by simp), if_pos h0, if_pos trivial, if_pos trivial, if_pos (by simp)]
    rfl
  · rw [Addr_ok hp hr (by omega) (by omega)] at h1
    simp only [Option.some.injEq, Prod.mk.injEq] at h1
    obtain ⟨rfl, rfl⟩ := h1
    obtain ⟨k, rfl⟩ : ∃ m, k = m + 1 := ⟨k - 1, by omega⟩
    have h2' : zbits_Place.f k p a addr = some (q, e) := by
      by_cases had : 0 ≤ addr ∧ addr < ((2 ^ p.length : Nat) : Int)
      · rw [zPlace_ok hp hr (by omega) had (by omega)] at h2 ⊢
        exact h2
      · rw [zPlace_arg hr (by intro x; exact had ⟨x.2.2.1, x.2.2.2⟩) (by omega)] at h2 ⊢
        exact h2
    simp only [pantilelaw01_ZbitsAddr.j2]
    rw [if_neg (by simp), if_neg h0, if_pos trivial, refAddr_eq hp (by omega) (by omega) (by omega)]
    simp only [Option.bind_some, bne_self_eq_false]
    exact addr_j3 hp hr (by omega) (by omega) q e h2'

theorem place_rounds {p : List Int} (hp : U p) (hr : 1 ≤ p.length ∧ p.length ≤ 16) {a addr : Int} {k k' : Nat} (hk : 100 ≤ k) (hk' : 100 ≤ k') : zbits_Place.f k p a addr = zbits_Place.f k' p a addr := by
  by_cases had : 0 ≤ a ∧ a < 64 ∧ 0 ≤ addr ∧ addr < ((2 ^ p.length : Nat) : Int)
  · rw [zPlace_ok hp hr ⟨had.1, had.2.1⟩ had.2.2 (by omega), zPlace_ok hp hr ⟨had.1, had.2.1⟩ had.2.2 (by omega)]
  · rw [zPlace_arg hr had (by omega), zPlace_arg hr had (by omega)]

theorem addr_rounds {p : List Int} (hp : U p) (hr : 1 ≤ p.length ∧ p.length ≤ 16) {a : Int} {k k' : Nat} (hk : 100 ≤ k) (hk' : 100 ≤ k') : zbits_Addr.f k p a = zbits_Addr.f k' p a := by
  by_cases ha : 0 ≤ a ∧ a < 64
  · rw [Addr_ok hp hr ha (by omega), Addr_ok hp hr ha (by omega)]
  · rw [Addr_arg hr ha, Addr_arg hr ha]

theorem addr_j1 {p : List Int} (hp : U p) (hr : 1 ≤ p.length ∧ p.length ≤ 16) {a : Int} {addr : Int} {k : Nat} (hk : 4300 ≤ k) :
    ∀ A ea c ec q e, zbits_Addr.f k p a = some (A, ea) → zbits_Cut.f k p a = some (c, ec) → zbits_Place.f k p a addr = some (q, e) →
      pantilelaw01_ZbitsAddr.j1 k p a addr A ea c ec q e (decide (a > 63 ∨ a < -1)) = some true := by
  intro A ea c ec q e h1 h2 h3
  obtain ⟨k, rfl⟩ : ∃ m, k = m + 1 := ⟨k - 1, by omega⟩
  by_cases ha : -1 ≤ a ∧ a ≤ 63
  · rw [Cut_ok hp hr ha (by omega)] at h2
    simp only [Option.some.injEq, Prod.mk.injEq] at h2
    obtain ⟨rfl, rfl⟩ := h2
    rw [decide_eq_false (by omega)]
    simp only [pantilelaw01_ZbitsAddr.j1]
    have hcl := cutL_length p (a + 1).toNat
    rw [if_neg (by simp), if_pos trivial, rCut_ok hp (by omega) ha (by omega)]
    simp only [Option.bind_some]
    rw [Same_eq (by omega) (by omega)]
    simp only [Option.bind_some, decide_true, Bool.not_true]
    rw [addr_rounds hp hr (by omega : 100 ≤ k + 1) (by omega : 100 ≤ k)] at h1
    rw [place_rounds hp hr (by omega : 100 ≤ k + 1) (by omega : 100 ≤ k)] at h3
    exact addr_j2 hp hr ha (by omega) A ea q e h1 h3
  · rw [Cut_arg hr ha] at h2
    rw [Addr_arg hr (by omega)] at h1
    rw [zPlace_arg hr (by omega) (by omega)] at h3
    simp only [Option.some.injEq, Prod.mk.injEq] at h1 h2 h3
    obtain ⟨rfl, rfl⟩ := h1
    obtain ⟨rfl, rfl⟩ := h2
    obtain ⟨rfl, rfl⟩ := h3
    rw [decide_eq_true (by omega)]
    simp only [pantilelaw01_ZbitsAddr.j1]
    rw [if_pos trivial, if_pos trivial, if_pos trivial, if_pos (by simp), if_pos trivial, if_pos (by simp)]
    rfl

theorem ZbitsAddr : pantilelaw01_ZbitsAddr.Pure := by
  intro p a addr _ _ hp ha had
  refine ⟨5000, ?_⟩
  unfold pantilelaw01_ZbitsAddr.f
  rw [awake01_eq (by omega)]
  simp only [Option.bind_some]
  rw [if_pos trivial]
  by_cases h40 : (p.length : Int) > 40
  · rw [if_pos h40]
  · rw [if_neg h40, if_pos (by simp; omega)]
    simp only [Option.bind_some, List.nil_append]
    rw [zbits_Right_eq, ref_Right_eq]
    simp only [Option.bind_some]
    by_cases hr : 1 ≤ p.length ∧ p.length ≤ 16
    · have h1 : ∃ A ea, zbits_Addr.f 5000 p a = some (A, ea) := by
        by_cases h : 0 ≤ a ∧ a < 64
        · exact ⟨_, _, Addr_ok hp hr h (by omega)⟩
        · exact ⟨_, _, Addr_arg hr h _⟩
      have h2 : ∃ c ec, zbits_Cut.f 5000 p a = some (c, ec) := by
        by_cases h : -1 ≤ a ∧ a ≤ 63
        · exact ⟨_, _, Cut_ok hp hr h (by omega)⟩
        · exact ⟨_, _, Cut_arg hr h⟩
      have h3 : ∃ q e, zbits_Place.f 5000 p a addr = some (q, e) := by
        by_cases h : 0 ≤ a ∧ a < 64 ∧ 0 ≤ addr ∧ addr < ((2 ^ p.length : Nat) : Int)
        · exact ⟨_, _, zPlace_ok hp hr ⟨h.1, h.2.1⟩ h.2.2 (by omega)⟩
        · exact ⟨_, _, zPlace_arg hr h (by omega)⟩
      obtain ⟨A, ea, h1⟩ := h1
      obtain ⟨c, ec, h2⟩ := h2
      obtain ⟨q, e, h3⟩ := h3
      rw [h1, h2, h3]
      simp only [Option.bind_some]
      rw [if_neg (by simp), Same_eq (by omega) (by omega)]
      simp only [Option.bind_some, decide_true, Bool.not_true]
      have e5 : (5000 : Nat) = 4999 + 1 := rfl
      rw [e5]
      simp only [pantilelaw01_ZbitsAddr.j0]
      rw [if_neg (by simp), ref_Right_eq]
      simp only [Option.bind_some]
      rw [if_pos (by simpa using hr)]
      rw [addr_rounds hp hr (by omega : 100 ≤ 5000) (by omega : 100 ≤ 4999)] at h1
      rw [place_rounds hp hr (by omega : 100 ≤ 5000) (by omega : 100 ≤ 4999)] at h3
      have h2' : zbits_Cut.f 4999 p a = some (c, ec) := by
        by_cases h : -1 ≤ a ∧ a ≤ 63
        · rw [Cut_ok hp hr h (by omega)] at h2 ⊢
          exact h2
        · rw [Cut_arg hr h] at h2 ⊢
          exact h2
      have hj := addr_j1 hp hr (addr := addr) (by omega : 4300 ≤ 4999) A ea c ec q e h1 h2' h3
      by_cases hlo : a < -1
      · rw [if_pos hlo]
        rw [decide_eq_true (by omega)] at hj
        exact hj
      · rw [if_neg hlo]
        have ed : decide (a > 63 ∨ a < -1) = decide (a > 63) := decide_eq_decide.2 (by omega)
        rw [ed] at hj
        exact hj
    · rw [Addr_dim hr, Cut_dim hr, zPlace_dim hr]
      simp only [Option.bind_some]
      rw [if_neg (by simp), Same_eq (by omega) (by omega)]
      simp only [Option.bind_some, decide_true, Bool.not_true]
      have e5 : (5000 : Nat) = 4999 + 1 := rfl
      rw [e5]
      simp only [pantilelaw01_ZbitsAddr.j0]
      rw [if_neg (by simp), ref_Right_eq]
      simp only [Option.bind_some]
      rw [if_neg (by simpa using hr), if_pos trivial, if_pos trivial, if_pos (by simp), if_pos trivial, if_pos (by simp)]
      rfl

end Go.Proofs.Ythdphjbecibeaaa.Pure
