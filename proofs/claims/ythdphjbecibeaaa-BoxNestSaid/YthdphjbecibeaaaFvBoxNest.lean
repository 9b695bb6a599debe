/- The program's Volume of a box, as printed, in plain numbers. -/
import Derived.Test.YthdphjbecibeaaaMv
import Derived.Test.YthdphjbecibeaaaFkBoxNest
namespace Go.Proofs.Ythdphjbecibeaaa.FBoxNest
open Go.RowKit Go.Proofs.Ythdphjbecibeaaa.PBoxNest Go.Proofs.YthdphjbecibeaaaW.PrintWords Go.Proofs.YthdphjbecibeaaaW.PrintLast Go.Proofs.YthdphjbecibeaaaW.PrintMore Go.Proofs.YthdphjbecibeaaaMz
set_option linter.unusedVariables false
set_option linter.unusedSimpArgs false

theorem and32 (z : Int) (h0 : 0 ≤ z) (h1 : z < 18446744073709551616) : Go.bits .and .u64 z 4294967295 = z % 4294967296 := by
  obtain ⟨n, rfl⟩ : ∃ n : Nat, z = (n : Int) := ⟨z.toNat, by omega⟩
  have e : Go.bits .and .u64 (n : Int) 4294967295 = IntKind.u64.wrap ((BitVec.ofInt 64 (n : Int) &&& BitVec.ofInt 64 4294967295).toNat : Int) := rfl
  have e1 : (BitVec.ofInt 64 4294967295).toNat = 2 ^ 32 - 1 := by decide
  rw [e, BitVec.toNat_and, ofInt_u64 n (by omega), e1, Nat.and_two_pow_sub_one_eq_mod, wrapu_id (by omega) (by omega)]
  omega

def mulHi (x1 x0 y1 y0 : Int) : Int := IntKind.u64.wrap ((IntKind.u64.wrap ((IntKind.u64.wrap (x1 * y1)) + ((IntKind.u64.wrap ((IntKind.u64.wrap (x1 * y0)) + ((IntKind.u64.wrap (x0 * y0)) / 4294967296))) / 4294967296))) + ((IntKind.u64.wrap ((Go.bits .and .u64 (IntKind.u64.wrap ((IntKind.u64.wrap (x1 * y0)) + ((IntKind.u64.wrap (x0 * y0)) / 4294967296))) 4294967295) + (IntKind.u64.wrap (x0 * y1)))) / 4294967296))

theorem mulHi_eq (x1 x0 y1 y0 : Nat) (h1 : x1 ≤ 4294967295) (h2 : x0 ≤ 4294967295) (h3 : y1 ≤ 4294967295) (h4 : y0 ≤ 4294967295) :
    mulHi (x1 : Int) (x0 : Int) (y1 : Int) (y0 : Int) = (((x1 * 4294967296 + x0) * (y1 * 4294967296 + y0) / 18446744073709551616 : Nat) : Int) := by
  rw [mul_split]
  unfold mulHi
  rw [← Int.natCast_mul x1 y1, ← Int.natCast_mul x1 y0, ← Int.natCast_mul x0 y0, ← Int.natCast_mul x0 y1]
  have b1 : x1 * y1 ≤ 4294967295 * 4294967295 := Nat.mul_le_mul h1 h3
  have b2 : x1 * y0 ≤ 4294967295 * 4294967295 := Nat.mul_le_mul h1 h4
  have b3 : x0 * y0 ≤ 4294967295 * 4294967295 := Nat.mul_le_mul h2 h4
  have b4 : x0 * y1 ≤ 4294967295 * 4294967295 := Nat.mul_le_mul h2 h3
  generalize x1 * y1 = a at *
  generalize x1 * y0 = b at *
  generalize x0 * y0 = d at *
  generalize x0 * y1 = c at *
  rw [wrapu_id (n := (a : Int)) (by omega) (by omega), wrapu_id (n := (b : Int)) (by omega) (by omega), wrapu_id (n := (d : Int)) (by omega) (by omega), wrapu_id (n := (c : Int)) (by omega) (by omega)]
  have e1 : IntKind.u64.wrap ((b : Int) + (d : Int) / 4294967296) = (b : Int) + (d : Int) / 4294967296 := wrapu_id (by omega) (by omega)
  rw [e1, and32 _ (by omega) (by omega), wrapu_id (n := (a : Int) + _) (by omega) (by omega), wrapu_id (n := ((b : Int) + (d : Int) / 4294967296) % 4294967296 + (c : Int)) (by omega) (by omega), wrapu_id (by omega) (by omega)]
  omega

theorem Mul64_eq (x y : Nat) (hx : x < 18446744073709551616) (hy : y < 18446744073709551616) :
    bits_Mul64.f (x : Int) (y : Int) = some (((x * y / 18446744073709551616 : Nat) : Int), ((x * y % 18446744073709551616 : Nat) : Int)) := by
  have e : bits_Mul64.f (x : Int) (y : Int) = some (mulHi ((x : Int) / 4294967296) (Go.bits .and .u64 (x : Int) 4294967295) ((y : Int) / 4294967296) (Go.bits .and .u64 (y : Int) 4294967295), IntKind.u64.wrap ((x : Int) * (y : Int))) := rfl
  rw [e, and32 _ (by omega) (by omega), and32 _ (by omega) (by omega)]
  have h1 : (x : Int) / 4294967296 = ((x / 4294967296 : Nat) : Int) := by omega
  have h2 : (x : Int) % 4294967296 = ((x % 4294967296 : Nat) : Int) := by omega
  have h3 : (y : Int) / 4294967296 = ((y / 4294967296 : Nat) : Int) := by omega
  have h4 : (y : Int) % 4294967296 = ((y % 4294967296 : Nat) : Int) := by omega
  rw [h1, h2, h3, h4, mulHi_eq _ _ _ _ (by omega) (by omega) (by omega) (by omega), ← Int.natCast_mul]
  have e1 : x / 4294967296 * 4294967296 + x % 4294967296 = x := Nat.div_add_mod' _ _
  have e2 : y / 4294967296 * 4294967296 + y % 4294967296 = y := Nat.div_add_mod' _ _
  rw [e1, e2]
  congr 1
theorem empty_loop {l h : List Int} (hl : U l) (hh : U h) (e1 : l.length = h.length) (h16 : l.length ≤ 40) (d : Nat) : ∀ (k i : Nat), i + d = l.length → d < k →
    box_empty.l0 k l (l.length : Int) (i : Int) l h = some (emF (nt l) (nt h) i d) := by
  induction d with
  | zero =>
    intro k i hi hk
    obtain ⟨k, rfl⟩ : ∃ m, k = m + 1 := ⟨k - 1, by omega⟩
    simp only [box_empty.l0]
    rw [if_neg (by omega)]
    rfl
  | succ d ih =>
    intro k i hi hk
    obtain ⟨k, rfl⟩ : ∃ m, k = m + 1 := ⟨k - 1, by omega⟩
    simp only [box_empty.l0]
    rw [if_pos (by omega), if_pos (by omega), if_pos (by omega), if_pos (by omega), rd_nt hl, rd_nt hh]
    unfold emF
    by_cases c : (nt l i : Int) > (nt h i : Int)
    · rw [if_pos c, decide_eq_true (by omega)]
      rfl
    · rw [if_neg c, decide_eq_false (by omega), wrap64_id (by omega) (by omega)]
      simp only [Bool.false_or]
      exact ih k (i + 1) (by omega) (by omega)

theorem empty_ok {l h : List Int} (hl : U l) (hh : U h) (e1 : l.length = h.length) (h16 : l.length ≤ 40) {k : Nat} (hk : 50 ≤ k) :
    box_empty.f k l h = some (emF (nt l) (nt h) 0 l.length) := empty_loop hl hh e1 h16 l.length k 0 (by omega) (by omega)
theorem ne_of_emF {l h : List Int} (hE : emF (nt l) (nt h) 0 l.length = false) : ∀ j, j < l.length → nt l j ≤ nt h j := by
  intro j hj
  rcases Nat.lt_or_ge (nt h j) (nt l j) with h1 | h1
  · have := (emF_iff (nt l) (nt h) l.length 0).2 ⟨j, by omega, by omega, h1⟩
    rw [hE] at this
    simp at this
  · exact h1

/-- a box's volume, cut off -/
def volB (l h : List Int) : Nat := if emF (nt l) (nt h) 0 l.length = true then 0 else vol (nt l) (nt h) 0 l.length 1

theorem bVol_loop {l h : List Int} (hl : U l) (hh : U h) (e1 : l.length = h.length) (h16 : l.length ≤ 40) (hne : ∀ j, j < l.length → nt l j ≤ nt h j) (d : Nat) : ∀ (k i x : Nat), i + d = l.length → d < k → 1 ≤ x → x < 18446744073709551616 →
    box_Volume.l0 k (x : Int) l (l.length : Int) (i : Int) l h = some (((vol (nt l) (nt h) i d x : Nat) : Int), 0) := by
  induction d with
  | zero =>
    intro k i x hi hk hx1 hx
    obtain ⟨k, rfl⟩ : ∃ m, k = m + 1 := ⟨k - 1, by omega⟩
    simp only [box_Volume.l0]
    rw [if_neg (by omega), vol_zero _ _ _ _ hx]
  | succ d ih =>
    intro k i x hi hk hx1 hx
    obtain ⟨k, rfl⟩ : ∃ m, k = m + 1 := ⟨k - 1, by omega⟩
    have hb := hne i (by omega)
    have hu := nt_lt hh i
    have es : IntKind.u64.wrap ((nt h i : Int) - (nt l i : Int)) = ((nt h i - nt l i : Nat) : Int) := by rw [wrapu_id (by omega) (by omega)]; omega
    simp only [box_Volume.l0]
    rw [if_pos (by omega), if_pos (by omega), if_pos (by omega), if_pos (by omega), rd_nt hl, rd_nt hh, es, vol_succ]
    generalize hs : nt h i - nt l i = s
    have ew : wrap64 ((i : Int) + 1) = ((i + 1 : Nat) : Int) := by rw [wrap64_id (by omega) (by omega)]; omega
    by_cases c : (s : Int) = 18446744073709551615
    · rw [if_pos c, vol_full]
      · rfl
      · have h2 : 1 * (s + 1) ≤ x * (s + 1) := Nat.mul_le_mul hx1 (Nat.le_refl _)
        omega
    · rw [if_neg c]
      have ey : IntKind.u64.wrap ((s : Int) + 1) = ((s + 1 : Nat) : Int) := by rw [wrapu_id (by omega) (by omega)]; omega
      rw [ey, Mul64_eq x (s + 1) hx (by omega), ew]
      simp only [Option.bind_some]
      have hge : 1 * 1 ≤ x * (s + 1) := Nat.mul_le_mul hx1 (by omega)
      generalize x * (s + 1) = p at hge ⊢
      by_cases c2 : ((p / 18446744073709551616 : Nat) : Int) > 0
      · rw [if_pos c2, vol_full _ _ _ _ _ (by omega)]
        rfl
      · have e3 : p % 18446744073709551616 = p := by omega
        rw [if_neg c2, e3]
        exact ih k (i + 1) p (by omega) (by omega) (by omega) (by omega)

theorem bVol_ok {l h : List Int} (hl : U l) (hh : U h) (hr : 1 ≤ l.length ∧ l.length ≤ 16 ∧ l.length = h.length) {k : Nat} (hk : 60 ≤ k) :
    box_Volume.f k l h = some (((volB l h : Nat) : Int), 0) := by
  unfold box_Volume.f volB
  rw [box_Right_eq, decide_eq_true hr, Option.bind_some, if_pos rfl, empty_ok hl hh hr.2.2 (by omega) (by omega), Option.bind_some]
  cases hE : emF (nt l) (nt h) 0 l.length with
  | true => rfl
  | false =>
    rw [if_neg (by simp), if_neg (by simp)]
    exact bVol_loop hl hh hr.2.2 (by omega) (ne_of_emF hE) l.length k 0 1 (by omega) (by omega) (by omega) (by omega)

theorem bVol_dim {l h : List Int} (hr : ¬ (1 ≤ l.length ∧ l.length ≤ 16 ∧ l.length = h.length)) {k : Nat} :
    box_Volume.f k l h = some (0, 2) := by
  unfold box_Volume.f
  rw [box_Right_eq, decide_eq_false hr]
  rfl

def meetLo (a c : List Int) : List Int := mkL a.length (fun i => max (nt a i) (nt c i))
def meetHi (a b d : List Int) : List Int := mkL a.length (fun i => min (nt b i) (nt d i))

theorem Meet_ok {a b c d : List Int} (ha : U a) (hb : U b) (hc : U c) (hd : U d) (h1 : 1 ≤ a.length ∧ a.length ≤ 16 ∧ a.length = b.length ∧ c.length = a.length) (h2 : c.length = d.length) :
    box_Meet.f a b c d = some (meetLo a c, meetHi a b d, 0) := by
  unfold box_Meet.f
  rw [box_Right_eq, decide_eq_true ⟨by omega, by omega, h2⟩, Option.bind_some, if_pos rfl, box_alike_eq, decide_eq_true h1, Option.bind_some, if_pos rfl]
  have e1 : Go.Proofs.YthdphjbecibeaaaHe.mkI a.length (fun i => mx (rd a i) (rd c i)) = meetLo a c := mkI_mkL fun i _ => by rw [rd_nt ha, rd_nt hc, mx_nat]
  have e2 : Go.Proofs.YthdphjbecibeaaaHe.mkI a.length (fun i => mn (rd b i) (rd d i)) = meetHi a b d := mkI_mkL fun i _ => by rw [rd_nt hb, rd_nt hd, mn_nat]
  rw [e1, e2]

theorem Meet_dim {a b c d : List Int} (h : ¬ (1 ≤ a.length ∧ a.length ≤ 16 ∧ a.length = b.length ∧ c.length = a.length ∧ c.length = d.length)) :
    box_Meet.f a b c d = some ([], [], 2) := by
  unfold box_Meet.f
  rw [box_Right_eq, Option.bind_some]
  by_cases h1 : 1 ≤ c.length ∧ c.length ≤ 16 ∧ c.length = d.length
  · rw [decide_eq_true h1, if_pos rfl, box_alike_eq, decide_eq_false (by omega), Option.bind_some, if_neg (by simp)]
  · rw [decide_eq_false h1, if_neg (by simp)]

theorem meetLo_U {a c : List Int} (ha : U a) (hc : U c) : U (meetLo a c) := mkL_U fun i _ => by
  have h1 := nt_lt' ha i
  have h2 := nt_lt' hc i
  omega

theorem meetHi_U {a b d : List Int} (hb : U b) (hd : U d) : U (meetHi a b d) := mkL_U fun i _ => by
  have h1 := nt_lt' hb i
  omega

end Go.Proofs.Ythdphjbecibeaaa.FBoxNest
