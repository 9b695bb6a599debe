/- bits.Len64, as printed, is the number of bits. -/
import Derived.Test.YthdphjbecibeaaaFzCoverOnce
namespace Go.Proofs.Ythdphjbecibeaaa.FCoverOnce
open Go.RowKit Go.Proofs.Ythdphjbecibeaaa.PCoverOnce Go.Proofs.YthdphjbecibeaaaW.PrintWords Go.Proofs.YthdphjbecibeaaaW.PrintLast Go.Proofs.YthdphjbecibeaaaW.PrintMore Go.Proofs.YthdphjbecibeaaaMz
set_option linter.unusedVariables false
set_option linter.unusedSimpArgs false

theorem Part_blen {p q : List Int} (hp : U p) (hq : U q) : partN (nt p) (nt q) p.length 64 = (blen (orxN (nt p) (nt q) p.length) : Int) - 1 :=
  partN_eq _ _ _ _ (orxN_lt (fun j _ => nt_lt' hp j) (fun j _ => nt_lt' hq j))

theorem blen_lt {n m : Nat} (h : n < 2 ^ m) : blen n ≤ m := blen_le h

def lenShape (T : ByteArray) (x0 x2 : Int) : Option Int :=
  if x0 ≥ 65536 then (if (x0 / 65536) ≥ 256 then (if 0 ≤ (((x0 / 65536) / 256) % 256) then (if (((x0 / 65536) / 256) % 256) < 256 then (some (wrap64 ((wrap64 ((wrap64 (x2 + 16)) + 8)) + (wrap64 (bt T (((x0 / 65536) / 256) % 256)))))) else (none)) else (none)) else (if 0 ≤ ((x0 / 65536) % 256) then (if ((x0 / 65536) % 256) < 256 then (some (wrap64 ((wrap64 (x2 + 16)) + (wrap64 (bt T ((x0 / 65536) % 256)))))) else (none)) else (none))) else (if x0 ≥ 256 then (if 0 ≤ ((x0 / 256) % 256) then (if ((x0 / 256) % 256) < 256 then (some (wrap64 ((wrap64 (x2 + 8)) + (wrap64 (bt T ((x0 / 256) % 256)))))) else (none)) else (none)) else (if 0 ≤ ((x0) % 256) then (if ((x0) % 256) < 256 then (some (wrap64 (x2 + (wrap64 (bt T ((x0) % 256)))))) else (none)) else (none)))

theorem len_shape : ∃ T : ByteArray, ∀ (k : Nat) (x0 x2 : Int), bits_Len64.j0 (k + 1) x0 x2 = lenShape T x0 x2 := ⟨_, fun _ _ _ => rfl⟩

theorem len_small : (List.range 256).all (fun c => bits_Len64.j0 1 (c : Int) 0 == some ((blen c : Nat) : Int)) = true := by decide +kernel

theorem len_tab : ∃ T : ByteArray, (∀ (k : Nat) (x0 x2 : Int), bits_Len64.j0 (k + 1) x0 x2 = lenShape T x0 x2) ∧ ∀ c : Nat, c < 256 → bt T (c : Int) = ((blen c : Nat) : Int) := by
  obtain ⟨T, hT⟩ := len_shape
  refine ⟨T, hT, ?_⟩
  intro c hc
  have h1 := List.all_eq_true.1 len_small c (List.mem_range.2 hc)
  have h2 := eq_of_beq h1
  rw [hT] at h2
  unfold lenShape at h2
  rw [if_neg (by omega), if_neg (by omega), if_pos (by omega), if_pos (by omega)] at h2
  have h3 := Option.some.inj h2
  have h4 := bt_range T ((c : Int) % 256)
  rw [show ((c : Int) % 256) = (c : Int) from by omega] at h3 h4
  rw [wrap64_id (n := bt T (c : Int)) (by omega) (by omega), wrap64_id (by omega) (by omega)] at h3
  omega

theorem len_j0 (k x s : Nat) (hx : x < 4294967296) (hs : s ≤ 32) : bits_Len64.j0 (k + 1) (x : Int) (s : Int) = some ((blen x + s : Nat) : Int) := by
  obtain ⟨T, hT, ht⟩ := len_tab
  rw [hT]
  unfold lenShape
  have key : ∀ y z : Nat, y < 256 → z ≤ 56 → wrap64 ((z : Int) + wrap64 (bt T (y : Int))) = ((blen y + z : Nat) : Int) := by
    intro y z hy hz
    rw [ht y hy]
    have := blen_lt (n := y) (m := 8) (by omega)
    rw [wrap64_nat (by omega), wrap64_id (by omega) (by omega)]
    omega
  by_cases h1 : x ≥ 65536
  · rw [if_pos (by omega)]
    by_cases h2 : x / 65536 ≥ 256
    · rw [if_pos (by omega), if_pos (by omega), if_pos (by omega)]
      have e1 : wrap64 (wrap64 ((s : Int) + 16) + 8) = ((s + 24 : Nat) : Int) := by
        rw [wrap64_id (n := (s : Int) + 16) (by omega) (by omega), wrap64_id (by omega) (by omega)]
        omega
      have e2 : ((x : Int) / 65536 / 256 % 256) = ((x / 65536 / 256 : Nat) : Int) := by omega
      rw [e1, e2, key _ _ (by omega) (by omega)]
      have b1 := blen_div x 16 (by omega)
      have b2 := blen_div (x / 2 ^ 16) 8 (by omega)
      simp only [show (2 : Nat) ^ 16 = 65536 from rfl, show (2 : Nat) ^ 8 = 256 from rfl] at b1 b2
      congr 1
      omega
    · rw [if_neg (by omega), if_pos (by omega), if_pos (by omega)]
      have e1 : wrap64 ((s : Int) + 16) = ((s + 16 : Nat) : Int) := by
        rw [wrap64_id (by omega) (by omega)]
        omega
      have e2 : ((x : Int) / 65536 % 256) = ((x / 65536 : Nat) : Int) := by omega
      rw [e1, e2, key _ _ (by omega) (by omega)]
      have b1 := blen_div x 16 (by omega)
      simp only [show (2 : Nat) ^ 16 = 65536 from rfl] at b1
      congr 1
      omega
  · rw [if_neg (by omega)]
    by_cases h2 : x ≥ 256
    · rw [if_pos (by omega), if_pos (by omega), if_pos (by omega)]
      have e1 : wrap64 ((s : Int) + 8) = ((s + 8 : Nat) : Int) := by
        rw [wrap64_id (by omega) (by omega)]
        omega
      have e2 : ((x : Int) / 256 % 256) = ((x / 256 : Nat) : Int) := by omega
      rw [e1, e2, key _ _ (by omega) (by omega)]
      have b1 := blen_div x 8 (by omega)
      simp only [show (2 : Nat) ^ 8 = 256 from rfl] at b1
      congr 1
      omega
    · rw [if_neg (by omega), if_pos (by omega), if_pos (by omega)]
      have e2 : ((x : Int) % 256) = ((x : Nat) : Int) := by omega
      rw [e2, key _ _ (by omega) (by omega)]

theorem Len64_eq {k : Nat} (hk : 1 ≤ k) (x : Nat) (hx : x < 18446744073709551616) : bits_Len64.f k (x : Int) = some ((blen x : Nat) : Int) := by
  obtain ⟨k, rfl⟩ : ∃ m, k = m + 1 := ⟨k - 1, by omega⟩
  unfold bits_Len64.f
  by_cases h : x ≥ 4294967296
  · rw [if_pos (by omega), show ((x : Int) / 4294967296) = ((x / 4294967296 : Nat) : Int) from by omega]
    have := len_j0 k (x / 4294967296) 32 (by omega) (by omega)
    rw [show ((32 : Nat) : Int) = 32 from rfl] at this
    rw [this]
    have b1 := blen_div x 32 (by omega)
    simp only [show (2 : Nat) ^ 32 = 4294967296 from rfl] at b1
    congr 1
    omega
  · rw [if_neg (by omega)]
    exact len_j0 k x 0 (by omega) (by omega)

/-! Part, Cmp -/
theorem zPart_loop {p q : List Int} (hp : U p) (hq : U q) (hl : p.length = q.length) (h16 : p.length ≤ 16) (d : Nat) : ∀ (k i : Nat), i + d = p.length → d + 1 < k →
    zbits_Part.l0 k q (orxN (nt p) (nt q) i : Int) p (p.length : Int) (i : Int) = some ((blen (orxN (nt p) (nt q) p.length) : Int) - 1, 0) := by
  have ho : ∀ i, orxN (nt p) (nt q) i < 18446744073709551616 := fun i => orxN_lt (m := 64) (fun j _ => nt_lt' hp j) (fun j _ => nt_lt' hq j)
  induction d with
  | zero =>
    intro k i hi hk
    obtain ⟨k, rfl⟩ : ∃ m, k = m + 1 := ⟨k - 1, by omega⟩
    simp only [zbits_Part.l0]
    rw [if_neg (by omega), Len64_eq (by omega) _ (ho i)]
    obtain rfl : i = p.length := by omega
    simp only [Option.bind_some]
    have := blen_lt (orxN_lt (n := p.length) (m := 64) (fun j _ => nt_lt' hp j) (fun j _ => nt_lt' hq j))
    rw [wrap64_id (by omega) (by omega)]
  | succ d ih =>
    intro k i hi hk
    obtain ⟨k, rfl⟩ : ∃ m, k = m + 1 := ⟨k - 1, by omega⟩
    simp only [zbits_Part.l0]
    rw [if_pos (by omega), if_pos (by omega), if_pos (by omega), if_pos (by omega)]
    rw [rd_nt hp, rd_nt hq, u64_xor_nat _ _ (nt_lt hp i) (nt_lt hq i), u64_or_nat _ _ (ho i) (Nat.xor_lt_two_pow (n := 64) (nt_lt hp i) (nt_lt hq i)), wrap64_id (by omega) (by omega)]
    exact ih k (i + 1) (by omega) (by omega)

theorem zPart_ok {p q : List Int} (hp : U p) (hq : U q) (hr : 1 ≤ p.length ∧ p.length ≤ 16 ∧ p.length = q.length) {k : Nat} (hk : 50 ≤ k) :
    zbits_Part.f k p q = some (partN (nt p) (nt q) p.length 64, 0) := by
  obtain ⟨k, rfl⟩ : ∃ m, k = m + 1 := ⟨k - 1, by omega⟩
  unfold zbits_Part.f
  rw [zbits_Right_eq]
  simp only [Option.bind_some]
  rw [if_pos (by simp; omega)]
  simp only [zbits_Part.j0]
  rw [if_neg (by simp; omega), Part_blen hp hq]
  exact zPart_loop hp hq hr.2.2 hr.2.1 p.length k 0 (by omega) (by omega)

theorem zPart_dim {p q : List Int} (hr : ¬ (1 ≤ p.length ∧ p.length ≤ 16 ∧ p.length = q.length)) {k : Nat} (hk : 1 ≤ k) :
    zbits_Part.f k p q = some (0, 2) := by
  obtain ⟨k, rfl⟩ : ∃ m, k = m + 1 := ⟨k - 1, by omega⟩
  unfold zbits_Part.f
  rw [zbits_Right_eq]
  simp only [Option.bind_some, zbits_Part.j0]
  split
  · rename_i h
    have h' : 1 ≤ p.length ∧ p.length ≤ 16 := by simpa using h
    rw [if_pos (by simp; omega)]
  · rfl

/-! the reference's Part -/
theorem refPart_loop {p q : List Int} (hp : U p) (hq : U q) (hl : p.length = q.length) (h40 : p.length ≤ 40) (m : Nat) (hm : m ≤ 64) : ∀ (k : Nat), m + 60 < k →
    pantileref01_Part.l0 k p q ((m : Int) - 1) = some (partN (nt p) (nt q) p.length m) := by
  induction m with
  | zero =>
    intro k hk
    obtain ⟨k, rfl⟩ : ∃ m, k = m + 1 := ⟨k - 1, by omega⟩
    simp only [pantileref01_Part.l0]
    rw [if_neg (by omega)]
    rfl
  | succ m ih =>
    intro k hk
    obtain ⟨k, rfl⟩ : ∃ m, k = m + 1 := ⟨k - 1, by omega⟩
    simp only [pantileref01_Part.l0]
    rw [show (((m + 1 : Nat) : Int) - 1) = (m : Int) from by omega, if_pos (by omega), refAddr_eq hp h40 (by omega) (by omega), refAddr_eq hq (by omega) (by omega) (by omega)]
    simp only [Option.bind_some, Int.toNat_natCast]
    unfold partN
    rw [← hl]
    by_cases he : addrN (nt p) m p.length = addrN (nt q) m p.length
    · rw [if_pos (by omega), if_pos he, wrap64_id (by omega) (by omega)]
      exact ih (by omega) k (by omega)
    · rw [if_neg (by omega), if_neg he]

theorem refPart_eq {p q : List Int} (hp : U p) (hq : U q) (hl : p.length = q.length) (h40 : p.length ≤ 40) {k : Nat} (hk : 130 ≤ k) :
    pantileref01_Part.f k p q = some (partN (nt p) (nt q) p.length 64) := refPart_loop hp hq hl h40 64 (by omega) k (by omega)

end Go.Proofs.Ythdphjbecibeaaa.FCoverOnce
