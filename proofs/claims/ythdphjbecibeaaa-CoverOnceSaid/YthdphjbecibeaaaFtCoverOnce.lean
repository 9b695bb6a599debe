/- The cells of a box, by halving, in plain numbers; the program's split and the reference's Cells come to them. -/
import Derived.Test.YthdphjbecibeaaaMv
import Derived.Test.YthdphjbecibeaaaFkCoverOnce
import Derived.Test.YthdphjbecibeaaaMl
import Derived.Test.YthdphjbecibeaaaFbCoverOnce
namespace Go.Proofs.Ythdphjbecibeaaa.FCoverOnce
open Go.RowKit Go.Proofs.Ythdphjbecibeaaa.PCoverOnce Go.Proofs.YthdphjbecibeaaaW.PrintWords Go.Proofs.YthdphjbecibeaaaW.PrintLast Go.Proofs.YthdphjbecibeaaaW.PrintMore Go.Proofs.YthdphjbecibeaaaMz
set_option linter.unusedVariables false
set_option linter.unusedSimpArgs false

theorem and32 (z : Int) (h0 : 0 ≤ z) (h1 : z < 18446744073709551616) : Go.bits .and .u64 z 4294967295 = z % 4294967296 := by
  obtain ⟨n, rfl⟩ : ∃ n : Nat, z = (n : Int) := ⟨z.toNat, by omega⟩
  have e : Go.bits .and .u64 (n : Int) 4294967295 = IntKind.u64.wrap ((BitVec.ofInt 64 (n : Int) &&& BitVec.ofInt 64 4294967295).toNat : Int) := rfl
  have e1 : (BitVec.ofInt 64 4294967295).toNat = 2 ^ 32 - 1 := by decide
  rw [e, BitVec.toNat_and, ofInt_u64 n (by omega), e1, Nat.and_two_pow_sub_one_eq_mod, wrapu_id (by omega) (by omega)]
  omega

theorem empty_loop {l h : List Int} (hl : U l) (hh : U h) (e1 : l.length = h.length) (h16 : l.length ≤ 40) (d : Nat) : ∀ (k i : Nat), i + d = l.length → d < k →
    box_empty.l0 k l (l.length : Int) (i : Int) l h = some (emF (nt l) (nt h) i d) := by
  induction d with
  | zero =>
    intro k i hi hk
    obtain ⟨k, rfl⟩ : ∃ m, k = m + 1 := ⟨k - 1, by omega⟩
    simp only [box_empty.l0]
    rw [if_neg (by omega)]
    rfl
  | succ d ih =>
    intro k i hi hk
    obtain ⟨k, rfl⟩ : ∃ m, k = m + 1 := ⟨k - 1, by omega⟩
    simp only [box_empty.l0]
    rw [if_pos (by omega), if_pos (by omega), if_pos (by omega), if_pos (by omega), rd_nt hl, rd_nt hh]
    unfold emF
    by_cases c : (nt l i : Int) > (nt h i : Int)
    · rw [if_pos c, decide_eq_true (by omega)]
      rfl
    · rw [if_neg c, decide_eq_false (by omega), wrap64_id (by omega) (by omega)]
      simp only [Bool.false_or]
      exact ih k (i + 1) (by omega) (by omega)

theorem empty_ok {l h : List Int} (hl : U l) (hh : U h) (e1 : l.length = h.length) (h16 : l.length ≤ 40) {k : Nat} (hk : 50 ≤ k) :
    box_empty.f k l h = some (emF (nt l) (nt h) 0 l.length) := empty_loop hl hh e1 h16 l.length k 0 (by omega) (by omega)
theorem ne_of_emF {l h : List Int} (hE : emF (nt l) (nt h) 0 l.length = false) : ∀ j, j < l.length → nt l j ≤ nt h j := by
  intro j hj
  rcases Nat.lt_or_ge (nt h j) (nt l j) with h1 | h1
  · have := (emF_iff (nt l) (nt h) l.length 0).2 ⟨j, by omega, by omega, h1⟩
    rw [hE] at this
    simp at this
  · exact h1

/-- a box's volume, cut off -/
def volB (l h : List Int) : Nat := if emF (nt l) (nt h) 0 l.length = true then 0 else vol (nt l) (nt h) 0 l.length 1



end Go.Proofs.Ythdphjbecibeaaa.FCoverOnce
namespace Go.Proofs.Ythdphjbecibeaaa.FCoverOnce
open Go.RowKit Go.Proofs.Ythdphjbecibeaaa.PCoverOnce Go.Proofs.YthdphjbecibeaaaW.PrintWords Go.Proofs.YthdphjbecibeaaaW.PrintLast Go.Proofs.YthdphjbecibeaaaW.PrintMore Go.Proofs.YthdphjbecibeaaaMz
set_option linter.unusedVariables false
set_option linter.unusedSimpArgs false

theorem ofInt_wrap (N : Nat) (hN : N < 18446744073709551616) : (BitVec.ofInt 64 (IntKind.i64.wrap (N : Int))).toNat = N := by
  rw [BitVec.toNat_ofInt, IntKind.wrap_i64]
  have : (((2 : Nat) ^ 64 : Nat) : Int) = 18446744073709551616 := rfl
  rw [this]
  omega

theorem ofInt_wrap1 (N : Nat) (hN : N < 18446744073709551616) : (BitVec.ofInt 64 (wrap64 (IntKind.i64.wrap (N : Int) + 1))).toNat = (N + 1) % 18446744073709551616 := by
  rw [BitVec.toNat_ofInt]
  unfold wrap64
  rw [IntKind.wrap_i64]
  have : (((2 : Nat) ^ 64 : Nat) : Int) = 18446744073709551616 := rfl
  rw [this]
  omega

theorem xor_inv (h : Nat) (hh : h < 65536) : Go.bits .xor .i64 (-1) (h : Int) = IntKind.i64.wrap ((18446744073709551615 - h : Nat) : Int) := by
  have e : Go.bits .xor .i64 (-1) (h : Int) = IntKind.i64.wrap ((BitVec.ofInt 64 (-1) ^^^ BitVec.ofInt 64 (h : Int)).toNat : Int) := rfl
  have e1 : (BitVec.ofInt 64 (-1)) = BitVec.allOnes 64 := by decide
  rw [e, e1, BitVec.allOnes_xor, BitVec.toNat_not, ofInt_u64 h (by omega)]

theorem and_mod64 (x h : Nat) (hh : h < 65536) : (x % 18446744073709551616) &&& h = x &&& h := by
  apply Nat.eq_of_testBit_eq
  intro i
  have e : (18446744073709551616 : Nat) = 2 ^ 64 := rfl
  rw [e, Nat.testBit_and, Nat.testBit_and, Nat.testBit_mod_two_pow]
  rcases Nat.lt_or_ge i 64 with h1 | h1
  · rw [decide_eq_true h1]
    simp
  · have : h.testBit i = false := Nat.testBit_lt_two_pow (Nat.lt_of_lt_of_le hh (Nat.pow_le_pow_right (n := 2) (by decide) (by omega : 16 ≤ i)))
    rw [this]
    simp

theorem or_i64 (N M : Nat) (hN : N < 18446744073709551616) (hM : M < 18446744073709551616) : Go.bits .or .i64 (IntKind.i64.wrap (N : Int)) (IntKind.i64.wrap (M : Int)) = IntKind.i64.wrap ((N ||| M : Nat) : Int) := by
  have e : Go.bits .or .i64 (IntKind.i64.wrap (N : Int)) (IntKind.i64.wrap (M : Int)) = IntKind.i64.wrap ((BitVec.ofInt 64 (IntKind.i64.wrap (N : Int)) ||| BitVec.ofInt 64 (IntKind.i64.wrap (M : Int))).toNat : Int) := rfl
  rw [e, BitVec.toNat_or, ofInt_wrap N hN, ofInt_wrap M hM]

theorem wrap_small (N : Nat) (hN : N < 9223372036854775808) : IntKind.i64.wrap (N : Int) = (N : Int) := by
  rw [IntKind.wrap_i64]
  omega

theorem nx_prog {l h a : Nat} (hl : l < 65536) (hh : h < 65536) (ha : a < 65536) :
    Go.bits .or .i64 (Go.bits .and .i64 (wrap64 ((Go.bits .or .i64 (Go.bits .or .i64 (a : Int) (Go.bits .xor .i64 (-1) (h : Int))) (l : Int)) + 1)) (h : Int)) (l : Int) = ((nx 64 l h a : Nat) : Int) := by
  have b1 : a ||| (18446744073709551615 - h) < 2 ^ 64 := Nat.or_lt_two_pow (by omega) (by omega)
  have b2 : a ||| (18446744073709551615 - h) ||| l < 2 ^ 64 := Nat.or_lt_two_pow b1 (by omega)
  have e64 : (2 : Nat) ^ 64 = 18446744073709551616 := rfl
  rw [e64] at b1 b2
  have ea : (a : Int) = IntKind.i64.wrap (a : Int) := (wrap_small a (by omega)).symm
  have el : (l : Int) = IntKind.i64.wrap (l : Int) := (wrap_small l (by omega)).symm
  have e1 : Go.bits .or .i64 (Go.bits .or .i64 (a : Int) (Go.bits .xor .i64 (-1) (h : Int))) (l : Int) = IntKind.i64.wrap ((a ||| (18446744073709551615 - h) ||| l : Nat) : Int) := by
    rw [xor_inv h hh, ea, or_i64 _ _ (by omega) (by omega), el, or_i64 _ _ (by omega) (by omega)]
  rw [e1]
  generalize hZ : a ||| (18446744073709551615 - h) ||| l = Z at b2
  have e2 : Go.bits .and .i64 (wrap64 (IntKind.i64.wrap (Z : Int) + 1)) (h : Int) = (((Z + 1) &&& h : Nat) : Int) := by
    have e : Go.bits .and .i64 (wrap64 (IntKind.i64.wrap (Z : Int) + 1)) (h : Int) = IntKind.i64.wrap ((BitVec.ofInt 64 (wrap64 (IntKind.i64.wrap (Z : Int) + 1)) &&& BitVec.ofInt 64 (h : Int)).toNat : Int) := rfl
    rw [e, BitVec.toNat_and, ofInt_wrap1 Z b2, ofInt_u64 h (by omega), and_mod64 _ _ hh, wrap_small]
    exact Nat.lt_of_le_of_lt Nat.and_le_right (by omega)
  have b3 : (Z + 1) &&& h ≤ h := Nat.and_le_right
  rw [e2, i64_or_nat _ _ (by omega) (by omega)]
  unfold nx
  rw [e64, ← hZ]

theorem none_false {n l h a : Nat} (h1 : 1 ≤ n) (hn : n ≤ 16) (hl : l < 2 ^ n) (hh : h < 2 ^ n) (hs : hasN n l h a) : mask_Mask_None.f (n : Int) (l : Int) (h : Int) = some false := by
  rw [None_eq h1 hn hl hh, decide_eq_true ((none_andn (by omega) hl hh).2 (has_not_none hs))]
  rfl

theorem Next_at {n l h a : Nat} (h1 : 1 ≤ n) (hn : n ≤ 16) (hl : l < 2 ^ n) (hh : h < 2 ^ n) (ha : a < 2 ^ n) (hs : hasN n l h a) (k : Nat) :
    mask_Mask_Next.f k (n : Int) (l : Int) (h : Int) (a : Int) = some (if a = h then (0, false) else (((nx 64 l h a : Nat) : Int), true)) := by
  have hp : 2 ^ n ≤ 2 ^ 16 := Nat.pow_le_pow_right (by decide) hn
  have hp16 : (2 : Nat) ^ 16 = 65536 := by decide
  have hle := has_le n l h a hl hh ha hs
  have hH := Has_eq h1 hn hl hh (addr := (a : Int)) (by omega)
  rw [decide_eq_true ⟨by omega, by simpa using ha, by simpa using hs⟩] at hH
  unfold mask_Mask_Next.f
  rw [none_false h1 hn hl hh hs]
  simp only [Option.bind_some]
  rw [if_neg (by simp), if_neg (by omega)]
  by_cases h2 : a = h
  · rw [if_pos (by omega), if_pos h2]
  · rw [if_neg (by omega), if_neg h2, hH]
    simp only [Option.bind_some]
    rw [if_pos trivial, nx_prog (by omega) (by omega) (by omega)]

end Go.Proofs.Ythdphjbecibeaaa.FCoverOnce
namespace Go.Proofs.Ythdphjbecibeaaa.FCoverOnce
open Go.RowKit Go.Proofs.Ythdphjbecibeaaa.PCoverOnce Go.Proofs.YthdphjbecibeaaaW.PrintWords Go.Proofs.YthdphjbecibeaaaW.PrintLast Go.Proofs.YthdphjbecibeaaaW.PrintMore Go.Proofs.YthdphjbecibeaaaMz
set_option linter.unusedVariables false
set_option linter.unusedSimpArgs false

/-- does the cell of m bits at p meet the box -/
def mt (l h p : List Int) (m : Nat) : Bool := meF (nt l) (nt h) (nt (cutL p m)) (nt (cellHi p m)) 0 p.length
/-- does it lie in the box -/
def wh (l h p : List Int) (m : Nat) : Bool := whF (nt l) (nt h) (nt p) m 0 p.length
/-- the cells of a box within the cell of m bits at p -/
def fl (l h : List Int) : Nat → List Int → List (List Int × Int)
  | 0, p => if mt l h p 0 = true then [(p, -1)] else []
  | m + 1, p => if mt l h p (m + 1) = true then (if wh l h p (m + 1) = true then [(p, (m : Int))] else (List.range (2 ^ p.length)).flatMap fun a => fl l h m (placeL p m a)) else []

theorem nt_cellHi {p : List Int} {m j : Nat} (hj : j < p.length) : nt (cellHi p m) j = chi (nt p j) m := by
  unfold cellHi
  exact nt_mkL hj

theorem mt_iff (l h p : List Int) (m : Nat) : mt l h p m = true ↔ ∀ j, j < p.length → cutv (nt p j) m ≤ nt h j ∧ nt l j ≤ chi (nt p j) m := by
  unfold mt
  rw [meF_iff]
  constructor
  · intro H j hj
    have := H j (Nat.zero_le _) (by omega)
    rwa [nt_cutL, nt_cellHi hj] at this
  · intro H j _ hj
    rw [nt_cutL, nt_cellHi (by omega)]
    exact H j (by omega)

theorem wh_iff (l h p : List Int) (m : Nat) : wh l h p m = true ↔ ∀ j, j < p.length → nt l j ≤ cutv (nt p j) m ∧ chi (nt p j) m ≤ nt h j := by
  unfold wh
  rw [whF_iff]
  exact ⟨fun H j hj => H j (Nat.zero_le _) (by omega), fun H j _ hj => H j (by omega)⟩

theorem chi_zero (x : Nat) : chi x 0 = x := by unfold chi; rw [cutv_zero]; rfl

theorem wh_zero (l h p : List Int) : wh l h p 0 = mt l h p 0 := by
  rw [Bool.eq_iff_iff, wh_iff, mt_iff]
  simp only [cutv_zero, chi_zero]
  exact ⟨fun H j hj => (H j hj).symm, fun H j hj => (H j hj).symm⟩

theorem mt_child (l h p : List Int) (m a : Nat) : mt l h (placeL p m a) m = true ↔ ∀ j, j < p.length → plv (nt p j) m (abit p.length a j) ≤ nt h j ∧ nt l j ≤ plh (nt p j) m (abit p.length a j) := by
  rw [mt_iff, placeL_length]
  constructor
  · intro H j hj
    have := H j hj
    rwa [nt_placeL hj, cut_plv, chi_plv] at this
  · intro H j hj
    rw [nt_placeL hj, cut_plv, chi_plv]
    exact H j hj

/-- the box has a point -/
def full (l h : List Int) : Prop := ∀ j, j < l.length → nt l j ≤ nt h j

theorem has_child {l h p : List Int} (hf : full l h) (e : p.length = l.length) (m a : Nat) :
    hasN p.length (mlow (nt p) (nt l) (nt h) m p.length) (mhigh (nt p) (nt l) (nt h) m p.length) a ↔ mt l h (placeL p m a) m = true := by
  rw [has_of, mt_child]
  exact ⟨fun H j hj => ((lvB_iff _ _ _ _ _).1 (H j hj)).2, fun H j hj => (lvB_iff _ _ _ _ _).2 ⟨hf j (by omega), H j hj⟩⟩

theorem not_none {l h p : List Int} (hf : full l h) (e : p.length = l.length) {m : Nat} (hm : mt l h p (m + 1) = true) :
    ¬ noneN p.length (mlow (nt p) (nt l) (nt h) m p.length) (mhigh (nt p) (nt l) (nt h) m p.length) := by
  rintro ⟨i, hi, h1, h2⟩
  rw [mlow_bit _ _ _ _ _ _ hi] at h1
  rw [mhigh_bit _ _ _ _ _ _ hi] at h2
  have hj : p.length - 1 - i < p.length := by omega
  generalize p.length - 1 - i = j at hj h1 h2
  have h3 := (mt_iff _ _ _ _).1 hm j hj
  have h4 := hf j (by omega)
  have c0 := lvB_iff (nt p j) m 0 (nt l j) (nt h j)
  have c1 := lvB_iff (nt p j) m 1 (nt l j) (nt h j)
  have d0 : ¬ lvB (nt p j) m 0 (nt l j) (nt h j) = true := fun e => by rw [if_pos e] at h1; omega
  have d1 : ¬ lvB (nt p j) m 1 (nt l j) (nt h j) = true := fun e => by rw [if_pos e] at h2; omega
  rw [c0] at d0
  rw [c1] at d1
  unfold chi at h3
  unfold plh at d0 d1
  rw [plv_zero] at d0
  have e1 : plv (nt p j) m 1 = cutv (nt p j) (m + 1) + 2 ^ m := by unfold plv; rw [Nat.one_mul]
  rw [e1] at d1
  have hp := Nat.two_pow_pos m
  rw [Nat.pow_succ] at h3
  generalize 2 ^ m = P at h3 d0 d1 hp
  generalize cutv (nt p j) (m + 1) = C at h3 d0 d1
  omega

theorem low_has {n low high : Nat} (hn : ¬ noneN n low high) : hasN n low high low := by
  intro i hi
  refine ⟨fun h => h, fun h => ?_⟩
  have c := bt1_lt high i
  by_cases h4 : bt1 high i = 1
  · exact h4
  · exact absurd ⟨i, hi, h, by omega⟩ hn

theorem fl_nil {l h p : List Int} {m : Nat} (hm : mt l h p m = false) : fl l h m p = [] := by
  cases m with
  | zero => unfold fl; rw [hm]; rfl
  | succ m => unfold fl; rw [hm]; rfl

theorem fl_ne {l h : List Int} (hf : full l h) : ∀ (m : Nat) (p : List Int), p.length = l.length → mt l h p m = true → fl l h m p ≠ [] := by
  intro m
  induction m with
  | zero => intro p e hm; unfold fl; rw [if_pos hm]; simp
  | succ m ih =>
    intro p e hm
    unfold fl
    rw [if_pos hm]
    by_cases hw : wh l h p (m + 1) = true
    · rw [if_pos hw]; simp
    · rw [if_neg hw]
      have hs := low_has (not_none hf e hm)
      have hlt := mlow_lt (nt p) (nt l) (nt h) m p.length
      have hc := (has_child hf e m _).1 hs
      intro hnil
      rw [List.flatMap_eq_nil_iff] at hnil
      exact ih _ (by rw [placeL_length, e]) hc (hnil _ (List.mem_range.2 hlt))


/-! the program's split -/
def m89 (c : List Int × Int) : S89 := ⟨c.1, c.2⟩

/-- the cells of the pieces from a on -/
def rs (l h p : List Int) (m a : Nat) : List (List Int × Int) := (List.range' a (2 ^ p.length - a)).flatMap fun a => fl l h m (placeL p m a)

theorem rs_step {l h p : List Int} {m a : Nat} (ha : a < 2 ^ p.length) : rs l h p m a = fl l h m (placeL p m a) ++ rs l h p m (a + 1) := by
  unfold rs
  obtain ⟨d, hd⟩ : ∃ d, 2 ^ p.length - a = d + 1 := ⟨2 ^ p.length - a - 1, by omega⟩
  rw [hd, List.range'_succ, List.flatMap_cons, show 2 ^ p.length - (a + 1) = d from by omega]

theorem rs_skip {l h p : List Int} {m : Nat} (d : Nat) : ∀ a, a + d ≤ 2 ^ p.length → (∀ x, a ≤ x → x < a + d → fl l h m (placeL p m x) = []) → rs l h p m a = rs l h p m (a + d) := by
  induction d with
  | zero => intro a _ _; rfl
  | succ d ih =>
    intro a hd hx
    rw [rs_step (by omega), hx a (Nat.le_refl _) (by omega), List.nil_append, ih (a + 1) (by omega) (fun x h1 h2 => hx x (by omega) (by omega)), show a + 1 + d = a + (d + 1) from by omega]

theorem rs_end {l h p : List Int} {m : Nat} : rs l h p m (2 ^ p.length) = [] := by
  unfold rs
  rw [Nat.sub_self]
  rfl

/-- what split answers for a cell of m bits that meets the box -/
def SP (l h : List Int) (m : Nat) : Prop := ∀ (p : List Int) (k : Nat) (most : Int) (out : List S89), U p → p.length = l.length → mt l h p m = true → most ≤ 1000 → out.length ≤ 1000 → 3400 + 20 * m ≤ k →
  ∃ o, cover_splitter_split.f k l h most out p ((m : Int) - 1) = some (decide (((out.length + (fl l h m p).length : Nat) : Int) ≤ most), o) ∧ (((out.length + (fl l h m p).length : Nat) : Int) ≤ most → o = out ++ (fl l h m p).map m89)

theorem split_loop {l h p : List Int} {m : Nat} {most : Int} (hSP : SP l h m) (hf : full l h) (hp : U p) (e : p.length = l.length) (h1 : 1 ≤ p.length) (h3 : p.length ≤ 3) (hm : m < 64) (hmost : most ≤ 1000) (d : Nat) :
    ∀ (k a : Nat) (out : List S89), a + d = 2 ^ p.length → 3400 + 20 * m + d + 2 ≤ k → a < 2 ^ p.length → hasN p.length (mlow (nt p) (nt l) (nt h) m p.length) (mhigh (nt p) (nt l) (nt h) m p.length) a → out.length ≤ 1000 →
    ∃ o, cover_splitter_split.l0 k l h most out p (m : Int) (p.length : Int) ((mlow (nt p) (nt l) (nt h) m p.length : Nat) : Int) ((mhigh (nt p) (nt l) (nt h) m p.length : Nat) : Int) (a : Int) true =
      some (decide (((out.length + (rs l h p m a).length : Nat) : Int) ≤ most), o) ∧ (((out.length + (rs l h p m a).length : Nat) : Int) ≤ most → o = out ++ (rs l h p m a).map m89) := by
  have h8 : 2 ^ p.length ≤ 2 ^ 3 := Nat.pow_le_pow_right (by decide) h3
  rw [show (2 : Nat) ^ 3 = 8 from rfl] at h8
  have hlo := mlow_lt (nt p) (nt l) (nt h) m p.length
  have hhi := mhigh_lt (nt p) (nt l) (nt h) m p.length
  have hchild : ∀ x, hasN p.length (mlow (nt p) (nt l) (nt h) m p.length) (mhigh (nt p) (nt l) (nt h) m p.length) x ↔ mt l h (placeL p m x) m = true := has_child hf e m
  generalize mlow (nt p) (nt l) (nt h) m p.length = low at hlo hchild ⊢
  generalize mhigh (nt p) (nt l) (nt h) m p.length = high at hhi hchild ⊢
  have hnil : ∀ x, ¬ hasN p.length low high x → fl l h m (placeL p m x) = [] := fun x hx => fl_nil (by
    cases h5 : mt l h (placeL p m x) m with
    | false => rfl
    | true => exact absurd ((hchild x).2 h5) hx)
  induction d using Nat.strongRecOn with
  | _ d ih =>
    intro k a out hd hk ha hs hout
    obtain ⟨k, rfl⟩ : ∃ m, k = m + 1 := ⟨k - 1, by omega⟩
    obtain ⟨o1, h5, h6⟩ := hSP (placeL p m a) k most out (placeL_U hp hm) (by rw [placeL_length, e]) ((hchild a).1 hs) hmost hout (by omega)
    have e1 : wrap64 ((m : Int) - 1) = (m : Int) - 1 := wrap64_id (by omega) (by omega)
    simp only [cover_splitter_split.l0]
    rw [if_pos trivial, zPlace_ok hp ⟨h1, by omega⟩ (by omega) (by omega) (by omega), Option.bind_some, Int.toNat_natCast, Int.toNat_natCast, e1]
    dsimp only
    rw [h5, Option.bind_some]
    dsimp only
    rw [rs_step ha, List.length_append]
    by_cases hfit : ((out.length + (fl l h m (placeL p m a)).length : Nat) : Int) ≤ most
    · rw [decide_eq_true hfit, if_pos rfl, Next_at h1 (by omega) hlo hhi ha hs k, Option.bind_some]
      have ho := h6 hfit
      subst ho
      by_cases hah : a = high
      · rw [if_pos hah]
        dsimp only
        have hr : rs l h p m (a + 1) = [] := by
          rw [rs_skip (2 ^ p.length - (a + 1)) (a + 1) (by omega) (fun x hx1 hx2 => hnil x (fun hx => by
            have := (has_le p.length low high x hlo hhi (by omega) hx).2
            omega)), show a + 1 + (2 ^ p.length - (a + 1)) = 2 ^ p.length from by omega]
          exact rs_end
        rw [hr]
        obtain ⟨k, rfl⟩ : ∃ m, k = m + 1 := ⟨k - 1, by omega⟩
        simp only [cover_splitter_split.l0]
        rw [if_neg (by simp)]
        refine ⟨_, ?_, fun _ => by rw [List.append_nil]⟩
        rw [decide_eq_true (by simpa using hfit)]
      · rw [if_neg hah]
        dsimp only
        have hs64 := (has_up (n := p.length) (by omega) hlo hhi ha).1 hs
        have hpw : 2 ^ p.length ≤ 2 ^ 64 := Nat.pow_le_pow_right (by decide) (by omega)
        obtain ⟨n1, n2, n3, n4⟩ := nx_ok 64 low high a (by omega) (by omega) (by omega) hs64 hah
        have n5 : nx 64 low high a < 2 ^ p.length := by
          have := (has_le 64 low high _ (by omega) (by omega) n2 n3).2
          omega
        have n6 := (has_up (n := p.length) (by omega) hlo hhi n5).2 n3
        generalize nx 64 low high a = b at n1 n2 n3 n4 n5 n6 ⊢
        have hr : rs l h p m (a + 1) = rs l h p m b := by
          rw [rs_skip (b - (a + 1)) (a + 1) (by omega) (fun x hx1 hx2 => hnil x (fun hx => by
            have hx64 := (has_up (n := p.length) (by omega) hlo hhi (by omega)).1 hx
            have g1 := rk_mono 64 low high a x hs64 hx64 (by omega) (by omega) (by omega)
            have g2 := rk_mono 64 low high x b hx64 n3 (by omega) n2 (by omega)
            omega)), show a + 1 + (b - (a + 1)) = b from by omega]
        obtain ⟨o2, g1, g2⟩ := ih (2 ^ p.length - b) (by omega) k b (out ++ (fl l h m (placeL p m a)).map m89) (by omega) (by omega) n5 n6 (by rw [List.length_append, List.length_map]; omega)
        rw [List.length_append, List.length_map, Nat.add_assoc] at g1 g2
        rw [hr, g1]
        refine ⟨o2, rfl, fun hh => ?_⟩
        rw [g2 hh, List.map_append, List.append_assoc]
    · rw [decide_eq_false hfit, if_neg (by simp), decide_eq_false (by omega)]
      exact ⟨_, rfl, fun hh => by omega⟩

theorem First_low {n low high : Nat} (h1 : 1 ≤ n) (hn : n ≤ 16) (hl : low < 2 ^ n) (hh : high < 2 ^ n) (h0 : ¬ noneN n low high) : mask_Mask_First.f (n : Int) (low : Int) (high : Int) = some ((low : Int), true) := by
  unfold mask_Mask_First.f
  rw [None_eq h1 hn hl hh, decide_eq_true ((none_andn (by omega) hl hh).2 h0), Option.bind_some]
  rfl

theorem split_ok {l h : List Int} (hl : U l) (hh : U h) (hf : full l h) (h1 : 1 ≤ l.length) (h3 : l.length ≤ 3) (e2 : h.length = l.length) : ∀ m, m ≤ 64 → SP l h m := by
  intro m
  induction m with
  | zero =>
    intro _ p k most out hp e hm hmost hout hk
    obtain ⟨k, rfl⟩ : ∃ m, k = m + 1 := ⟨k - 1, by omega⟩
    simp only [cover_splitter_split.f]
    have hw : whF (nt l) (nt h) (nt p) (((0 : Nat) : Int) - 1 + 1).toNat 0 p.length = true := by
      have := wh_zero l h p
      rw [hm] at this
      exact this
    have hfl : fl l h 0 p = [(p, -1)] := by unfold fl; rw [if_pos hm]
    rw [Whole_ok hp hl hh ⟨by omega, by omega, by omega, by omega⟩ (by omega) (by omega), Option.bind_some]
    dsimp only
    rw [hw, if_pos rfl, if_pos (by omega), hfl]
    exact ⟨_, rfl, fun _ => rfl⟩
  | succ m ih =>
    intro hm64 p k most out hp e hm hmost hout hk
    obtain ⟨k, rfl⟩ : ∃ m, k = m + 1 := ⟨k - 1, by omega⟩
    simp only [cover_splitter_split.f]
    have elv : ((m + 1 : Nat) : Int) - 1 = (m : Int) := by omega
    have ew : whF (nt l) (nt h) (nt p) ((m : Int) + 1).toNat 0 p.length = wh l h p (m + 1) := by
      rw [show ((m : Int) + 1).toNat = m + 1 from by omega]
      rfl
    rw [elv, Whole_ok hp hl hh ⟨by omega, by omega, by omega, by omega⟩ (by omega) (by omega), Option.bind_some]
    dsimp only
    rw [ew]
    cases hw : wh l h p (m + 1) with
    | true =>
      have hfl : fl l h (m + 1) p = [(p, (m : Int))] := by unfold fl; rw [if_pos hm, if_pos hw]
      rw [if_pos rfl, if_pos (by omega), hfl]
      exact ⟨_, rfl, fun _ => rfl⟩
    | false =>
      have h0 := not_none hf e hm
      have hs := low_has h0
      have hlo := mlow_lt (nt p) (nt l) (nt h) m p.length
      have hhi := mhigh_lt (nt p) (nt l) (nt h) m p.length
      have h8 : 2 ^ p.length ≤ 2 ^ 3 := Nat.pow_le_pow_right (by decide) (by omega)
      rw [show (2 : Nat) ^ 3 = 8 from rfl] at h8
      have hfl : fl l h (m + 1) p = rs l h p m (mlow (nt p) (nt l) (nt h) m p.length) := by
        have e0 : fl l h (m + 1) p = rs l h p m 0 := by
          show (if mt l h p (m + 1) = true then (if wh l h p (m + 1) = true then [(p, (m : Int))] else (List.range (2 ^ p.length)).flatMap fun a => fl l h m (placeL p m a)) else []) = _
          rw [if_pos hm, if_neg (by rw [hw]; simp), List.range_eq_range']
          rfl
        rw [e0, rs_skip (mlow (nt p) (nt l) (nt h) m p.length) 0 (by omega) (fun x _ hx => fl_nil (by
          cases h5 : mt l h (placeL p m x) m with
          | false => rfl
          | true =>
            have h6 := (has_child hf e m x).2 h5
            have := (has_le p.length _ _ x hlo hhi (by omega) h6).1
            omega)), Nat.zero_add]
      rw [if_neg (by simp), Of_ok hp hl hh ⟨by omega, by omega, by omega, by omega⟩ (by omega) (by omega), Option.bind_some, Int.toNat_natCast]
      dsimp only
      rw [First_low (by omega) (by omega) hlo hhi h0, Option.bind_some, hfl]
      dsimp only
      exact split_loop (ih (by omega)) hf hp e (by omega) (by omega) (by omega) hmost (2 ^ p.length - mlow (nt p) (nt l) (nt h) m p.length) k _ out (by omega) (by omega) hlo hs hout

/-! from the greatest cell down to the least one -/
theorem plv_cut (x m b : Nat) : plv (cutv x (m + 1)) m b = cutv x (m + 1) + b * 2 ^ m := by
  unfold plv
  congr 1
  unfold cutv
  rw [Nat.mul_div_cancel _ (Nat.two_pow_pos _)]

theorem cut_bit (x m : Nat) : cutv x m = cutv x (m + 1) + bt1 x m * 2 ^ m := by
  unfold cutv bt1
  rw [Nat.pow_succ, ← Nat.div_div_eq_div_mul]
  have h := Nat.div_add_mod (x / 2 ^ m) 2
  generalize x / 2 ^ m / 2 = A at *
  generalize x / 2 ^ m % 2 = B at *
  rw [← h, Nat.mul_comm (2 ^ m) 2, ← Nat.mul_assoc, ← Nat.add_mul, Nat.mul_comm A 2]

theorem addr_bits {f : Nat → Nat} {m n i : Nat} (hi : i < n) : abit n (addrN f m n) i = bt1 (f i) m := by
  induction n with
  | zero => omega
  | succ n ih =>
    have hb := bt1_lt (f n) m
    rcases Nat.lt_or_ge i n with h | h
    · have h2 := ih h
      unfold abit at h2 ⊢
      rw [addrN_succ, show n + 1 - 1 - i = (n - 1 - i) + 1 from by omega, Nat.pow_succ, Nat.mul_comm (2 ^ (n - 1 - i)) 2, ← Nat.div_div_eq_div_mul, show (2 * addrN f m n + bt1 (f n) m) / 2 = addrN f m n from by omega]
      exact h2
    · obtain rfl : i = n := by omega
      unfold abit
      rw [addrN_succ, show i + 1 - 1 - i = 0 from by omega, Nat.pow_zero, Nat.div_one]
      omega

theorem same_bits {f : Nat → Nat} {m n x : Nat} (hx : x < 2 ^ n) (h : ∀ i, i < n → bt1 (f i) m = abit n x i) : x = addrN f m n := by
  have := addr_of_bits hx h n (Nat.le_refl _)
  rw [this]
  simp

theorem place_at {l : List Int} {m : Nat} : placeL (cutL l (m + 1)) m (addrN (nt l) m l.length) = cutL l m := by
  rw [cutL_mkL (p := l) m]
  unfold placeL
  rw [cutL_length]
  refine mkL_congr (fun i hi => ?_)
  rw [nt_cutL, plv_cut, addr_bits hi, ← cut_bit]

theorem flat_one {α : Type} {g : Nat → List α} (A : Nat) : ∀ N, (∀ x, x < N → x ≠ A → g x = []) → (List.range N).flatMap g = if A < N then g A else [] := by
  intro N
  induction N with
  | zero => intro _; rfl
  | succ N ih =>
    intro h
    rw [List.range_succ, List.flatMap_append, ih (fun x hx => h x (by omega))]
    simp only [List.flatMap_cons, List.flatMap_nil, List.append_nil]
    by_cases h1 : A < N
    · rw [if_pos h1, if_pos (by omega), h N (by omega) (by omega), List.append_nil]
    · rw [if_neg h1, List.nil_append]
      by_cases h2 : A = N
      · subst h2
        rw [if_pos (by omega)]
      · rw [if_neg (by omega), h N (by omega) (by omega)]

theorem fl_down {l h : List Int} (hf : full l h) (h1 : 1 ≤ l.length) (e2 : h.length = l.length) {M : Nat} (hc : cutL l M = cutL h M) : fl l h (M + 1) (cutL l (M + 1)) = fl l h M (cutL l M) := by
  have hcj : ∀ j, cutv (nt l j) M = cutv (nt h j) M := fun j => by rw [← nt_cutL, hc, nt_cutL]
  have hpos := Nat.two_pow_pos M
  have hchi : ∀ j, nt h j < cutv (nt l j) M + 2 ^ M := by
    intro j
    rw [hcj]
    have := (in_cell1 (nt h j) (nt h j) M).2 rfl
    unfold chi at this
    omega
  have hidem : ∀ x m : Nat, cutv (cutv x m) m = cutv x m := fun x m => by
    unfold cutv
    rw [Nat.mul_div_cancel _ (Nat.two_pow_pos _)]
  have hmt : mt l h (cutL l (M + 1)) (M + 1) = true := by
    rw [mt_iff]
    intro j hj
    rw [cutL_length] at hj
    rw [nt_cutL, hidem]
    have g1 := (in_cell1 (nt l j) (nt l j) (M + 1)).2 rfl
    have g2 := hf j hj
    have e : chi (cutv (nt l j) (M + 1)) (M + 1) = chi (nt l j) (M + 1) := by unfold chi; rw [hidem]
    rw [e]
    omega
  have hwh : wh l h (cutL l (M + 1)) (M + 1) = false := by
    cases hw : wh l h (cutL l (M + 1)) (M + 1) with
    | false => rfl
    | true =>
      have g := (wh_iff _ _ _ _).1 hw 0 (by rw [cutL_length]; omega)
      rw [nt_cutL, hidem] at g
      unfold chi at g
      rw [hidem, Nat.pow_succ] at g
      have g1 := cutv_le (nt l 0) (M + 1)
      have g2 := hchi 0
      have g3 := cutv_le (nt l 0) M
      omega
  show (if mt l h (cutL l (M + 1)) (M + 1) = true then (if wh l h (cutL l (M + 1)) (M + 1) = true then [(cutL l (M + 1), (M : Int))] else (List.range (2 ^ (cutL l (M + 1)).length)).flatMap fun a => fl l h M (placeL (cutL l (M + 1)) M a)) else []) = _
  rw [if_pos hmt, hwh, if_neg (by simp), flat_one (addrN (nt l) M l.length), cutL_length, if_pos (addrN_lt _ _ _), place_at]
  intro x hx hne
  rw [cutL_length] at hx
  refine fl_nil ?_
  cases hm : mt l h (placeL (cutL l (M + 1)) M x) M with
  | false => rfl
  | true =>
    exfalso
    apply hne
    refine same_bits hx (fun i hi => ?_)
    have g := (mt_child _ _ _ _ _).1 hm i (by rw [cutL_length]; exact hi)
    rw [cutL_length, nt_cutL] at g
    unfold plh at g
    rw [plv_cut] at g
    have g2 := hchi i
    have g3 := cutv_le (nt l i) M
    have g4 := hf i hi
    rw [cut_bit] at g2 g3
    have b1 := bt1_lt (nt l i) M
    have b2 := abit_lt l.length x i
    generalize bt1 (nt l i) M = B at *
    generalize abit l.length x i = D at *
    generalize cutv (nt l i) (M + 1) = C at *
    rcases (by omega : B = 0 ∨ B = 1) with rfl | rfl <;> rcases (by omega : D = 0 ∨ D = 1) with rfl | rfl <;> omega

theorem cut_more {l h : List Int} {a b : Nat} (hl : l.length = h.length) (hab : a ≤ b) (hl2 : U l) (hh2 : U h) (hc : cutL l a = cutL h a) : cutL l b = cutL h b := by
  have h1 := (part_le_iff hl2 hh2 hl a).2 hc
  exact (part_le_iff hl2 hh2 hl b).1 (by omega)

theorem fl_least {l h : List Int} (hl : U l) (hh : U h) (hf : full l h) (h1 : 1 ≤ l.length) (e2 : h.length = l.length) {L : Nat} (hc : cutL l L = cutL h L) (d : Nat) : fl l h (L + d) (cutL l (L + d)) = fl l h L (cutL l L) := by
  induction d with
  | zero => rfl
  | succ d ih =>
    rw [← Nat.add_assoc, fl_down hf h1 e2 (cut_more e2.symm (by omega) hl hh hc)]
    exact ih

theorem mt_least {l h : List Int} (hf : full l h) {L : Nat} : mt l h (cutL l L) L = true := by
  rw [mt_iff]
  intro j hj
  rw [cutL_length] at hj
  have hidem : cutv (cutv (nt l j) L) L = cutv (nt l j) L := by
    unfold cutv
    rw [Nat.mul_div_cancel _ (Nat.two_pow_pos _)]
  have e : chi (cutv (nt l j) L) L = chi (nt l j) L := by unfold chi; rw [hidem]
  rw [nt_cutL, hidem, e]
  have g1 := (in_cell1 (nt l j) (nt l j) L).2 rfl
  have g2 := hf j hj
  omega

theorem cEmpty_ok {a b : List Int} (ha : U a) (hb : U b) (hr : 1 ≤ a.length ∧ a.length ≤ 16 ∧ a.length = b.length) {k : Nat} (hk : 50 ≤ k) :
    box_Empty.f k a b = some (emF (nt a) (nt b) 0 a.length, 0) := by
  unfold box_Empty.f
  rw [box_Right_eq, decide_eq_true hr, Option.bind_some, if_pos rfl, empty_ok ha hb hr.2.2 (by omega) hk, Option.bind_some]

theorem cEmpty_dim {a b : List Int} (hr : ¬ (1 ≤ a.length ∧ a.length ≤ 16 ∧ a.length = b.length)) {k : Nat} :
    box_Empty.f k a b = some (false, 2) := by
  unfold box_Empty.f
  rw [box_Right_eq, decide_eq_false hr]
  rfl

theorem full_of {a b : List Int} (hE : emF (nt a) (nt b) 0 a.length = false) : full a b := ne_of_emF hE

/-- the level of the least cell, and one -/
def lvN (l h : List Int) : Nat := (partN (nt l) (nt h) l.length 64 + 1).toNat

theorem lvN_eq (l h : List Int) : ((lvN l h : Nat) : Int) = partN (nt l) (nt h) l.length 64 + 1 ∧ lvN l h ≤ 64 := by
  have := partN_range (nt l) (nt h) l.length 64
  unfold lvN
  omega

theorem lvN_cut {l h : List Int} (hl : U l) (hh : U h) (e : l.length = h.length) : cutL l (lvN l h) = cutL h (lvN l h) := by
  refine (part_le_iff hl hh e _).1 ?_
  have := lvN_eq l h
  omega

theorem Least_ok {l h : List Int} (hl : U l) (hh : U h) (hr : 1 ≤ l.length ∧ l.length ≤ 16 ∧ l.length = h.length) {k : Nat} (hk : 60 ≤ k) :
    cover_Least.f k l h = some (if emF (nt l) (nt h) 0 l.length = true then ([], 0, 3) else (cutL l (lvN l h), ((lvN l h : Nat) : Int) - 1, 0)) := by
  unfold cover_Least.f
  rw [cEmpty_ok hl hh hr (by omega), Option.bind_some]
  dsimp only
  rw [if_pos rfl]
  cases emF (nt l) (nt h) 0 l.length with
  | true => rfl
  | false =>
    have hL := lvN_eq l h
    rw [if_neg (by simp), if_neg (by simp), zPart_ok hl hh hr (by omega), Option.bind_some]
    dsimp only
    rw [Cut_ok hl ⟨hr.1, hr.2.1⟩ (by omega) (by omega), Option.bind_some]
    dsimp only
    rw [show partN (nt l) (nt h) l.length 64 = ((lvN l h : Nat) : Int) - 1 from by omega, show (((lvN l h : Nat) : Int) - 1 + 1).toNat = lvN l h from by omega]

theorem Least_dim {l h : List Int} (hr : ¬ (1 ≤ l.length ∧ l.length ≤ 16 ∧ l.length = h.length)) {k : Nat} : cover_Least.f k l h = some ([], 0, 2) := by
  unfold cover_Least.f
  rw [cEmpty_dim hr, Option.bind_some]
  rfl

/-- the cells of a box that has a point -/
def cellsOf (l h : List Int) : List (List Int × Int) := fl l h (lvN l h) (cutL l (lvN l h))

theorem Cells_ok {l h : List Int} (hl : U l) (hh : U h) (hr : 1 ≤ l.length ∧ l.length ≤ 3 ∧ l.length = h.length) {most : Int} (hmost : most ≤ 1000) {k : Nat} (hk : 5000 ≤ k) :
    cover_Cells.f k l h most = some (if emF (nt l) (nt h) 0 l.length = true then ([], if most < 0 then 11 else 0) else if ((cellsOf l h).length : Int) ≤ most then ((cellsOf l h).map m89, 0) else ([], 11)) := by
  have hr' : 1 ≤ l.length ∧ l.length ≤ 16 ∧ l.length = h.length := ⟨hr.1, by omega, hr.2.2⟩
  have hL := lvN_eq l h
  unfold cover_Cells.f
  rw [cEmpty_ok hl hh hr' (by omega), Option.bind_some]
  dsimp only
  rw [if_pos rfl]
  cases hE : emF (nt l) (nt h) 0 l.length with
  | true =>
    rw [if_pos rfl, if_pos rfl]
    split <;> rfl
  | false =>
    have hf := full_of hE
    rw [if_neg (by simp), if_neg (by simp), Least_ok hl hh hr' (by omega), hE, if_neg (by simp), Option.bind_some]
    dsimp only
    obtain ⟨o, h1, h2⟩ := split_ok hl hh hf hr.1 hr.2.1 hr.2.2.symm (lvN l h) hL.2 (cutL l (lvN l h)) k most [] (cutL_U hl _) (cutL_length _ _) (mt_least hf) hmost (by simp) (by omega)
    rw [h1, Option.bind_some]
    simp only [List.length_nil, Nat.zero_add, List.nil_append] at h2 ⊢
    by_cases hc : (((fl l h (lvN l h) (cutL l (lvN l h))).length : Nat) : Int) ≤ most
    · rw [decide_eq_true hc, if_pos rfl, h2 hc]
      unfold cellsOf
      rw [if_pos hc]
    · rw [decide_eq_false hc, if_neg (by simp)]
      unfold cellsOf
      rw [if_neg hc]

theorem Cells_dim {l h : List Int} (hr : ¬ (1 ≤ l.length ∧ l.length ≤ 16 ∧ l.length = h.length)) {most : Int} {k : Nat} : cover_Cells.f k l h most = some ([], 2) := by
  unfold cover_Cells.f
  rw [cEmpty_dim hr, Option.bind_some]
  rfl
end Go.Proofs.Ythdphjbecibeaaa.FCoverOnce
