/- What the printed functions of the layer zbits, and of its reference, come to, in plain numbers; the points are of numbers below 2^64. -/
import Derived.Laws.BitsAllLaws
import Derived.Laws.Bits64
import Derived.Test.YthdphjbecibeaaaMz
import Derived.Test.YthdphjbecibeaaaPCoverOncex
namespace Go.Proofs.Ythdphjbecibeaaa.FCoverOnce
open Go.RowKit Go.Proofs.Ythdphjbecibeaaa.PCoverOnce Go.Proofs.YthdphjbecibeaaaW.PrintWords Go.Proofs.YthdphjbecibeaaaW.PrintLast Go.Proofs.YthdphjbecibeaaaW.PrintMore Go.Proofs.YthdphjbecibeaaaMz
set_option linter.unusedVariables false
set_option linter.unusedSimpArgs false

def U (p : List Int) : Prop := ∀ x ∈ p, (Lit.int .u64 x).wf = true

theorem wf_u64 {x : Int} (h : (Lit.int .u64 x).wf = true) : 0 ≤ x ∧ x < 18446744073709551616 := by
  simp [Lit.wf, IntKind.min, IntKind.max, IntKind.signed, IntKind.bits] at h
  omega

theorem wf_u64_mk {x : Int} (h0 : 0 ≤ x) (h1 : x < 18446744073709551616) : (Lit.int .u64 x).wf = true := by
  simp [Lit.wf, IntKind.min, IntKind.max, IntKind.signed, IntKind.bits]
  omega

theorem wf_i64 {x : Int} (h : (Lit.int .i64 x).wf = true) : -9223372036854775808 ≤ x ∧ x < 9223372036854775808 := by
  simp [Lit.wf, IntKind.min, IntKind.max, IntKind.signed, IntKind.bits] at h
  omega

/-- the coordinate i as a natural number (0 behind the last one) -/
def nt (p : List Int) (i : Nat) : Nat := (p.getD i 0).toNat

theorem getD_U {p : List Int} (hp : U p) (i : Nat) : 0 ≤ p.getD i 0 ∧ p.getD i 0 < 18446744073709551616 := by
  rcases Nat.lt_or_ge i p.length with h | h
  · rw [List.getD_eq_getElem?_getD, List.getElem?_eq_getElem h]
    exact wf_u64 (hp _ (List.getElem_mem h))
  · rw [List.getD_eq_getElem?_getD, List.getElem?_eq_none h]
    simp

theorem getD_at {p : List Int} {i : Nat} (h : i < p.length) : p.getD i 0 = p[i] := by
  rw [List.getD_eq_getElem?_getD, List.getElem?_eq_getElem h]
  rfl

theorem nt_lt {p : List Int} (hp : U p) (i : Nat) : nt p i < 18446744073709551616 := by
  have := getD_U hp i
  unfold nt; omega

theorem nt_lt' {p : List Int} (hp : U p) (i : Nat) : nt p i < 2 ^ 64 := nt_lt hp i

theorem rd_nt {p : List Int} (hp : U p) (i : Nat) : rd p (i : Int) = (nt p i : Int) := by
  have := getD_U hp i
  unfold rd nt
  rw [Int.toNat_natCast]
  omega

theorem rd_nt' {p : List Int} (hp : U p) {i : Int} : rd p i = (nt p i.toNat : Int) := by
  have := getD_U hp i.toNat
  unfold rd nt
  omega

theorem wrap64_id {n : Int} (h0 : -9223372036854775808 ≤ n) (h1 : n < 9223372036854775808) : wrap64 n = n := by
  unfold wrap64; omega

theorem wrap64_nat {n : Nat} (h : n < 9223372036854775808) : wrap64 (n : Int) = (n : Int) := wrap64_id (by omega) (by omega)

theorem wrapu_id {n : Int} (h0 : 0 ≤ n) (h1 : n < 18446744073709551616) : IntKind.u64.wrap n = n := by
  rw [IntKind.wrap_u64]; omega

theorem shr_nat (x m : Nat) (hm : m ≤ 64) : shr .u64 (x : Int) (m : Int) = ((x / 2 ^ m : Nat) : Int) := by
  unfold shr
  rw [Int.toNat_natCast, Nat.min_eq_left (by simpa [IntKind.bits] using hm)]
  norm_cast

theorem i64_or_nat (a b : Nat) (ha : a < 9223372036854775808) (hb : b < 9223372036854775808) : Go.bits .or .i64 (a : Int) (b : Int) = ((a ||| b : Nat) : Int) :=
  (bits_nat .i64 63 (by decide) (fun n h0 h1 => by rw [IntKind.wrap_i64]; omega) a b ha hb).2

theorem i64_and_nat (a b : Nat) (ha : a < 9223372036854775808) (hb : b < 9223372036854775808) : Go.bits .and .i64 (a : Int) (b : Int) = ((a &&& b : Nat) : Int) :=
  (bits_nat .i64 63 (by decide) (fun n h0 h1 => by rw [IntKind.wrap_i64]; omega) a b ha hb).1

theorem or_bit (a b : Nat) (hb : b < 2) : (2 * a) ||| b = 2 * a + b := by
  have h := Nat.two_pow_add_eq_or_of_lt (i := 1) (b := b) (by simpa using hb) a
  simp only [Nat.pow_one] at h
  exact h.symm

/-! the program's Right, Addr -/
theorem zbits_Right_eq (p : List Int) : zbits_Right.f p = some (decide (1 ≤ p.length ∧ p.length ≤ 16)) := by
  unfold zbits_Right.f
  by_cases h : (p.length : Int) ≥ 1
  · rw [if_pos h]
    congr 1
    apply decide_eq_decide.2
    omega
  · rw [if_neg h]
    congr 1
    symm
    apply decide_eq_false
    omega

theorem ref_Right_eq (p : List Int) : pantileref01_Right.f p = some (decide (1 ≤ p.length ∧ p.length ≤ 16)) := by
  unfold pantileref01_Right.f
  by_cases h : (p.length : Int) > 0
  · rw [if_pos h]
    congr 1
    apply decide_eq_decide.2
    omega
  · rw [if_neg h]
    congr 1
    symm
    apply decide_eq_false
    omega

theorem ref_Alike_eq (p q : List Int) : pantileref01_Alike.f p q = some (decide (1 ≤ p.length ∧ p.length ≤ 16 ∧ p.length = q.length)) := by
  unfold pantileref01_Alike.f
  rw [ref_Right_eq]
  simp only [Option.bind_some]
  by_cases h : 1 ≤ p.length ∧ p.length ≤ 16
  · rw [if_pos (by simpa using h)]
    congr 1
    rw [Bool.eq_iff_iff]
    simp
    omega
  · rw [if_neg (by simpa using h)]
    congr 1
    symm
    apply decide_eq_false
    omega

theorem zbits_level_eq (m : Int) : zbits_level.f m = some (decide (0 ≤ m ∧ m < 64)) := by
  unfold zbits_level.f
  by_cases h : m ≥ 0
  · rw [if_pos h]
    congr 1
    apply decide_eq_decide.2
    omega
  · rw [if_neg h]
    congr 1
    symm
    apply decide_eq_false
    omega

/-! the reference's Bit, Addr -/
theorem ref_Bit_eq (x m : Nat) (hx : x < 18446744073709551616) (hm : m < 64) : pantileref01_Bit.f (x : Int) (m : Int) = some ((bt1 x m : Nat) : Int) := by
  unfold pantileref01_Bit.f
  rw [if_pos (by omega), shr_nat _ _ (by omega)]
  have h := bt1_lt x m
  have e : Int.tmod ((x / 2 ^ m : Nat) : Int) 2 = ((bt1 x m : Nat) : Int) := by
    rw [Int.tmod_eq_emod_of_nonneg (Int.natCast_nonneg _)]
    rfl
  rw [e, wrap64_nat (by omega)]

theorem refAddr_loop {p : List Int} (hp : U p) (hl : p.length ≤ 40) (m : Nat) (hm : m < 64) (d : Nat) : ∀ (k i : Nat), i + d = p.length → d < k →
    pantileref01_Addr.l0 k p (m : Int) (addrN (nt p) m i : Int) (i : Int) = some (addrN (nt p) m p.length : Int) := by
  induction d with
  | zero =>
    intro k i hi hk
    obtain ⟨k, rfl⟩ : ∃ m, k = m + 1 := ⟨k - 1, by omega⟩
    simp only [pantileref01_Addr.l0]
    rw [if_neg (by omega)]
    obtain rfl : i = p.length := by omega
    rfl
  | succ d ih =>
    intro k i hi hk
    obtain ⟨k, rfl⟩ : ∃ m, k = m + 1 := ⟨k - 1, by omega⟩
    simp only [pantileref01_Addr.l0]
    rw [if_pos (by omega), if_pos (by omega)]
    have h1 := nt_lt hp i
    have h2 := addrN_lt (nt p) m i
    have h3 : 2 ^ i ≤ 2 ^ 40 := Nat.pow_le_pow_right (by decide) (by omega)
    rw [rd_nt hp, ref_Bit_eq _ _ h1 hm]
    simp only [Option.bind_some]
    have h5 := bt1_lt (nt p i) m
    rw [wrap64_id (n := 2 * (addrN (nt p) m i : Int)) (by omega) (by omega), wrap64_id (by omega) (by omega), wrap64_id (by omega) (by omega)]
    have := ih k (i + 1) (by omega) (by omega)
    rw [show (addrN (nt p) m (i + 1) : Int) = 2 * (addrN (nt p) m i : Int) + (bt1 (nt p i) m : Int) from by rw [addrN_succ]; omega] at this
    exact this

theorem refAddr_eq {p : List Int} (hp : U p) (hl : p.length ≤ 40) {m : Int} (hm : 0 ≤ m ∧ m < 64) {k : Nat} (hk : 50 ≤ k) :
    pantileref01_Addr.f k p m = some (addrN (nt p) m.toNat p.length : Int) := by
  unfold pantileref01_Addr.f
  have := refAddr_loop hp hl m.toNat (by omega) p.length k 0 (by omega) (by omega)
  rw [Int.toNat_of_nonneg hm.1] at this
  exact this

theorem same_iff {p q : List Int} (hp : U p) (hq : U q) (hl : p.length = q.length) : p = q ↔ ∀ i, i < p.length → nt p i = nt q i := by
  constructor
  · intro h i _
    rw [h]
  · intro h
    apply List.ext_getElem hl
    intro i h1 h2
    have := h i h1
    have a := getD_U hp i
    have b := getD_U hq i
    unfold nt at this
    rw [List.getD_eq_getElem?_getD, List.getElem?_eq_getElem h1] at this a
    rw [List.getD_eq_getElem?_getD, List.getElem?_eq_getElem h2] at this b
    simp at this a b
    omega

end Go.Proofs.Ythdphjbecibeaaa.FCoverOnce
