/- pantilelaw33.CoverOnce answers true for every box and point; no condition beyond the row's own. -/
import Derived.Test.YthdphjbecibeaaaFuCoverOnce
import Derived.Test.YthdphjbecibeaaaFaCoverOnce
import Derived.KernelRfl
namespace Go.Proofs.Ythdphjbecibeaaa.Pure
open Go.RowKit Go.Proofs.Ythdphjbecibeaaa.PCoverOnce Go.Proofs.YthdphjbecibeaaaW.PrintWords Go.Proofs.YthdphjbecibeaaaW.PrintLast Go.Proofs.YthdphjbecibeaaaW.PrintMore Go.Proofs.Ythdphjbecibeaaa.FCoverOnce Go.Proofs.YthdphjbecibeaaaMz
set_option linter.unusedVariables false
set_option linter.unusedSimpArgs false

theorem awake33 : pantilelaw33_awake.f 7000 = some true := by kernel_rfl

theorem fl_succ (l h p : List Int) (m : Nat) : fl l h (m + 1) p = if mt l h p (m + 1) = true then (if wh l h p (m + 1) = true then [(p, (m : Int))] else (List.range (2 ^ p.length)).flatMap fun a => fl l h m (placeL p m a)) else [] := rfl

theorem cut_cut (x : Nat) {a b : Nat} (h : a ≤ b) : cutv (cutv x a) b = cutv x b := by
  refine (cutv_eq_iff _ _ _).2 ?_
  refine Nat.lt_of_lt_of_le ((cutv_eq_iff _ _ _).1 ?_) (Nat.pow_le_pow_right (by decide) h)
  unfold cutv
  rw [Nat.mul_div_cancel _ (Nat.two_pow_pos _)]

theorem cutL_cutL {p : List Int} (hp : U p) {a b : Nat} (h : a ≤ b) : cutL (cutL p a) b = cutL p b := by
  refine (same_iff (cutL_U (cutL_U hp a) b) (cutL_U hp b) (by simp only [cutL_length])).2 (fun i _ => ?_)
  rw [nt_cutL, nt_cutL, nt_cutL, cut_cut _ h]

theorem cutL_hi {p : List Int} (hp : U p) {a b : Nat} (h : a ≤ b) (hb : b ≤ 64) : cutL (cellHi p a) b = cutL p b := by
  have hlen : (cellHi p a).length = p.length := mkL_length _ _
  have hU : U (cellHi p a) := mkL_U fun i _ => chi_lt (nt_lt' hp i) (by omega)
  refine (same_iff (cutL_U hU b) (cutL_U hp b) (by rw [cutL_length, cutL_length, hlen])).2 (fun i hi => ?_)
  rw [cutL_length, hlen] at hi
  rw [nt_cutL, nt_cutL, nt_cellHi hi]
  have e := (in_cell1 (nt p i) (chi (nt p i) a) a).1 ⟨chi_ge _ _, Nat.le_refl _⟩
  rw [← cut_cut (chi (nt p i) a) h, ← e, cut_cut _ h]

theorem cut_place {p : List Int} (hp : U p) {m a : Nat} (hm : m < 64) : cutL (placeL p m a) (m + 1) = cutL p (m + 1) := by
  have hU := placeL_U hp (a := m) (addr := a) hm
  refine (same_iff (cutL_U hU _) (cutL_U hp _) (by rw [cutL_length, cutL_length, placeL_length])).2 (fun i hi => ?_)
  rw [cutL_length, placeL_length] at hi
  rw [nt_cutL, nt_cutL, nt_placeL hi]
  unfold cutv
  rw [plv_div _ _ _ (abit_lt _ _ _)]

theorem cut_place_self {p : List Int} (hp : U p) {m a : Nat} (hm : m < 64) : cutL (placeL p m a) m = placeL p m a := by
  have hU := placeL_U hp (a := m) (addr := a) hm
  refine (same_iff (cutL_U hU _) hU (cutL_length _ _)).2 (fun i hi => ?_)
  rw [cutL_length, placeL_length] at hi
  rw [nt_cutL, nt_placeL hi, cut_plv]

/-- the address of a point in a piece -/
theorem addr_of {p u : List Int} {m a : Nat} (ha : a < 2 ^ p.length) (hu : cutL u m = placeL p m a) : addrN (nt u) m p.length = a := by
  refine (same_bits ha (fun i hi => ?_)).symm
  have e : cutv (nt u i) m = plv (nt p i) m (abit p.length a i) := by rw [← nt_cutL, hu, nt_placeL hi]
  have e2 := cutv_bt1 (nt u i) m m
  rw [if_pos (Nat.le_refl _), e, plv_bt1 _ _ _ (abit_lt _ _ _)] at e2
  exact e2.symm

/-- is a cell one of the box's: its level, its point -/
structure Ok (l h : List Int) (m : Nat) (p : List Int) (c : List Int × Int) (b : Nat) : Prop where
  lev : c.2 = (b : Int) - 1
  le : b ≤ m
  u : U c.1
  len : c.1.length = p.length
  cut : cutL c.1 b = c.1
  inn : cutL c.1 m = p
  wh : wh l h c.1 b = true

theorem fl_ok {l h : List Int} : ∀ (m : Nat) (p : List Int), m ≤ 64 → U p → cutL p m = p → ∀ c ∈ fl l h m p, ∃ b, Ok l h m p c b := by
  intro m
  induction m with
  | zero =>
    intro p _ hp hc c hm
    unfold fl at hm
    split at hm
    · rename_i hmt
      rw [List.mem_singleton] at hm
      subst hm
      exact ⟨0, rfl, Nat.le_refl _, hp, rfl, hc, hc, by rw [wh_zero]; exact hmt⟩
    · simp at hm
  | succ m ih =>
    intro p hm64 hp hc c hm
    rw [fl_succ] at hm
    split at hm
    · split at hm
      · rename_i hwh
        rw [List.mem_singleton] at hm
        subst hm
        exact ⟨m + 1, by show (m : Int) = _; omega, Nat.le_refl _, hp, rfl, hc, hc, hwh⟩
      · obtain ⟨a, _, ha⟩ := List.mem_flatMap.1 hm
        obtain ⟨b, hb⟩ := ih (placeL p m a) (by omega) (placeL_U hp (by omega)) (cut_place_self hp (by omega)) c ha
        refine ⟨b, hb.lev, by have := hb.le; omega, hb.u, by rw [hb.len, placeL_length], hb.cut, ?_, hb.wh⟩
        rw [← cutL_cutL hb.u (Nat.le_succ m), hb.inn, cut_place hp (by omega), hc]
    · simp at hm

/-- does a point lie in a cell -/
def inn (x : List Int) (c : List Int × Int) : Bool := wIn x (-1) c.1 c.2
/-- and in the box -/
def inB (l h x : List Int) : Prop := ∀ j, j < x.length → nt l j ≤ nt x j ∧ nt x j ≤ nt h j

theorem inn_iff {x : List Int} {c : List Int × Int} {b : Nat} (hb : c.2 = (b : Int) - 1) : inn x c = decide (cutL x b = c.1) := by
  unfold inn wIn
  rw [hb, decide_eq_true (by omega), Bool.true_and, show ((b : Int) - 1 + 1).toNat = b from by omega]

theorem cutL_zero {x : List Int} (hx : U x) : cutL x 0 = x := by
  refine (same_iff (cutL_U hx 0) hx (cutL_length _ _)).2 (fun i _ => ?_)
  rw [nt_cutL, cutv_zero]

theorem count_flat {α : Type} (q : α → Bool) (g : Nat → List α) (A : Nat) : ∀ N, (∀ a, a < N → a ≠ A → (g a).countP q = 0) → ((List.range N).flatMap g).countP q = if A < N then (g A).countP q else 0 := by
  intro N
  induction N with
  | zero => intro _; rfl
  | succ N ih =>
    intro h
    rw [List.range_succ, List.flatMap_append, List.countP_append, ih (fun a ha => h a (by omega))]
    simp only [List.flatMap_cons, List.flatMap_nil, List.append_nil]
    by_cases h1 : A < N
    · rw [if_pos h1, if_pos (by omega), h N (by omega) (by omega)]
      rfl
    · rw [if_neg h1]
      by_cases h2 : A = N
      · subst h2
        rw [if_pos (by omega), Nat.zero_add]
      · rw [if_neg (by omega), h N (by omega) (by omega)]

open Classical in
theorem fl_count {l h x : List Int} (hx : U x) : ∀ (m : Nat) (p : List Int), m ≤ 64 → U p → p.length = x.length → cutL p m = p →
    (fl l h m p).countP (inn x) = if cutL x m = p ∧ inB l h x then 1 else 0 := by
  intro m
  induction m with
  | zero =>
    intro p _ hp hlen hc
    rw [cutL_zero hx]
    have hin : x = p → (mt l h p 0 = true ↔ inB l h x) := by
      intro e
      subst e
      rw [mt_iff]
      simp only [cutv_zero, chi_zero]
      exact ⟨fun H j hj => (H j hj).symm, fun H j hj => (H j hj).symm⟩
    unfold fl
    by_cases h1 : mt l h p 0 = true
    · rw [if_pos h1, List.countP_singleton, inn_iff (b := 0) rfl, cutL_zero hx]
      by_cases h2 : x = p
      · rw [if_pos (by simpa using h2), if_pos ⟨h2, (hin h2).1 h1⟩]
      · rw [if_neg (by simpa using h2), if_neg (fun hh => h2 hh.1)]
    · rw [if_neg h1, if_neg (fun hh => h1 ((hin hh.1).2 hh.2))]
      rfl
  | succ m ih =>
    intro p hm64 hp hlen hc
    have hpj : ∀ j, cutv (nt p j) (m + 1) = nt p j := fun j => by rw [← nt_cutL, hc]
    have hxj : cutL x (m + 1) = p → ∀ j, cutv (nt x j) (m + 1) = nt p j := fun e j => by rw [← nt_cutL, e]
    have hcell : cutL x (m + 1) = p → ∀ j, nt p j ≤ nt x j ∧ nt x j ≤ chi (nt p j) (m + 1) := by
      intro e j
      have := (in_cell1 (nt p j) (nt x j) (m + 1)).2 (by rw [hpj, hxj e])
      rwa [hpj] at this
    rw [fl_succ]
    by_cases h1 : mt l h p (m + 1) = true
    · rw [if_pos h1]
      by_cases h2 : wh l h p (m + 1) = true
      · rw [if_pos h2, List.countP_singleton, inn_iff (b := m + 1) (by show (m : Int) = _; omega)]
        by_cases h3 : cutL x (m + 1) = p
        · rw [if_pos (by simpa using h3), if_pos]
          refine ⟨h3, fun j hj => ?_⟩
          have g := (wh_iff _ _ _ _).1 h2 j (by omega)
          have g2 := hcell h3 j
          rw [hpj] at g
          omega
        · rw [if_neg (by simpa using h3), if_neg (fun hh => h3 hh.1)]
      · rw [if_neg h2]
        have hch : ∀ a, (fl l h m (placeL p m a)).countP (inn x) = if cutL x m = placeL p m a ∧ inB l h x then 1 else 0 := fun a =>
          ih (placeL p m a) (by omega) (placeL_U hp (by omega)) (by rw [placeL_length, hlen]) (cut_place_self hp (by omega))
        by_cases h3 : cutL x (m + 1) = p
        · have hpl : placeL p m (addrN (nt x) m p.length) = cutL x m := by
            rw [hlen, ← h3]
            exact place_at
          rw [count_flat (inn x) _ (addrN (nt x) m p.length) _ (fun a ha hne => by
            rw [hch, if_neg]
            rintro ⟨e, _⟩
            exact hne (addr_of ha e).symm), if_pos (addrN_lt _ _ _), hch, hpl]
          by_cases h4 : inB l h x
          · rw [if_pos ⟨rfl, h4⟩, if_pos ⟨h3, h4⟩]
          · rw [if_neg (fun hh => h4 hh.2), if_neg (fun hh => h4 hh.2)]
        · rw [if_neg (fun hh => h3 hh.1), count_flat (inn x) _ (2 ^ p.length) _ (fun a ha _ => by
            rw [hch, if_neg]
            rintro ⟨e, _⟩
            apply h3
            rw [← cutL_cutL hx (Nat.le_succ m), e, cut_place hp (by omega), hc]), if_neg (by omega)]
    · rw [if_neg h1, if_neg]
      · rfl
      · rintro ⟨h3, h4⟩
        apply h1
        rw [mt_iff]
        intro j hj
        have g := hcell h3 j
        have g2 := h4 j (by omega)
        rw [hpj]
        omega

/-- the last point of a cell -/
def hiC (c : List Int × Int) : List Int := cellHi c.1 (c.2 + 1).toNat
/-- the one cell lies ahead of the other one -/
def ahead (c d : List Int × Int) : Prop := cmpN (nt (hiC c)) (nt d.1) d.1.length 64 = -1

theorem parts_at {u v p : List Int} (hu : U u) (hv : U v) (hp : U p) (eu : u.length = p.length) (ev : v.length = p.length) {m a b : Nat} (hm : m < 64) (ha : a < 2 ^ p.length) (hb : b < 2 ^ p.length) (hab : a < b) (h1 : cutL u m = placeL p m a) (h2 : cutL v m = placeL p m b) : cmpN (nt u) (nt v) p.length 64 = -1 := by
  have e1 := addr_of ha h1
  have e2 := addr_of hb h2
  have g1 : partN (nt u) (nt v) u.length 64 ≤ ((m + 1 : Nat) : Int) - 1 := (part_le_iff hu hv (by omega) (m + 1)).2 (by
    rw [← cutL_cutL hu (Nat.le_succ m), ← cutL_cutL hv (Nat.le_succ m), h1, h2, cut_place hp hm, cut_place hp hm])
  have g2 : ¬ partN (nt u) (nt v) u.length 64 ≤ (m : Int) - 1 := fun g => by
    have := (part_le_iff hu hv (by omega) m).1 g
    have e3 := addr_of hb (this.trans h2)
    omega
  rw [eu] at g1 g2
  have g3 : partN (nt u) (nt v) p.length 64 = (m : Int) := by omega
  rw [cmpN_part, g3, if_neg (by omega), Int.toNat_natCast, e1, e2, if_pos hab]

theorem hiC_eq {c : List Int × Int} {b : Nat} (hb : c.2 = (b : Int) - 1) : hiC c = cellHi c.1 b := by
  unfold hiC
  rw [hb, show ((b : Int) - 1 + 1).toNat = b from by omega]

theorem pair_flat {α : Type} (R : α → α → Prop) (g : Nat → List α) : ∀ N, (∀ a, a < N → List.Pairwise R (g a)) → (∀ a b, a < b → b < N → ∀ c ∈ g a, ∀ d ∈ g b, R c d) → List.Pairwise R ((List.range N).flatMap g) := by
  intro N
  induction N with
  | zero => intro _ _; exact List.Pairwise.nil
  | succ N ih =>
    intro h1 h2
    rw [List.range_succ, List.flatMap_append, List.pairwise_append]
    refine ⟨ih (fun a ha => h1 a (by omega)) (fun a b hab hb => h2 a b hab (by omega)), ?_, ?_⟩
    · simp only [List.flatMap_cons, List.flatMap_nil, List.append_nil]
      exact h1 N (by omega)
    · intro c hc d hd
      simp only [List.flatMap_cons, List.flatMap_nil, List.append_nil] at hd
      obtain ⟨a, ha, hca⟩ := List.mem_flatMap.1 hc
      exact h2 a N (List.mem_range.1 ha) (by omega) c hca d hd

theorem fl_pair {l h : List Int} : ∀ (m : Nat) (p : List Int), m ≤ 64 → U p → cutL p m = p → List.Pairwise ahead (fl l h m p) := by
  intro m
  induction m with
  | zero =>
    intro p _ _ _
    unfold fl
    split
    · exact List.pairwise_singleton _ _
    · exact List.Pairwise.nil
  | succ m ih =>
    intro p hm64 hp hc
    rw [fl_succ]
    split
    · split
      · exact List.pairwise_singleton _ _
      · refine pair_flat ahead _ _ (fun a _ => ih _ (by omega) (placeL_U hp (by omega)) (cut_place_self hp (by omega))) ?_
        intro a b hab hb c hca d hdb
        obtain ⟨bc, oc⟩ := fl_ok m (placeL p m a) (by omega) (placeL_U hp (by omega)) (cut_place_self hp (by omega)) c hca
        obtain ⟨bd, od⟩ := fl_ok m (placeL p m b) (by omega) (placeL_U hp (by omega)) (cut_place_self hp (by omega)) d hdb
        unfold ahead
        have hl1 : (cellHi c.1 bc).length = p.length := by rw [show (cellHi c.1 bc).length = c.1.length from mkL_length _ _, oc.len, placeL_length]
        have hl2 : d.1.length = p.length := by rw [od.len, placeL_length]
        rw [hiC_eq oc.lev, hl2]
        have hle := oc.le
        exact parts_at (mkL_U fun i _ => chi_lt (nt_lt' oc.u i) (by omega)) od.u hp hl1 hl2 (by omega) (by omega) hb hab (by rw [cutL_hi oc.u oc.le (by omega)]; exact oc.inn) od.inn
    · exact List.Pairwise.nil

/-- the first point of a cell is none behind its last one -/
theorem lo_hi {q : List Int} (hq : U q) (h1 : 1 ≤ q.length) {b : Nat} (hb : b ≤ 64) (hc : cutL q b = q) : ¬ cmpN (nt q) (nt (cellHi q b)) q.length 64 > 0 := by
  have hU : U (cellHi q b) := mkL_U fun i _ => chi_lt (nt_lt' hq i) hb
  have hlen : (cellHi q b).length = q.length := mkL_length _ _
  have hcj : ∀ j, cutv (nt q j) b = nt q j := fun j => by rw [← nt_cutL, hc]
  have hp := (part_le_iff hq hU hlen.symm b).2 (by rw [cutL_hi hq (Nat.le_refl _) hb])
  have hr := partN_range (nt q) (nt (cellHi q b)) q.length 64
  rw [cmpN_part]
  by_cases h0 : partN (nt q) (nt (cellHi q b)) q.length 64 < 0
  · rw [if_pos h0]
    omega
  · rw [if_neg h0]
    obtain ⟨t, ht⟩ : ∃ t : Nat, partN (nt q) (nt (cellHi q b)) q.length 64 = (t : Int) := ⟨_, (Int.toNat_of_nonneg (by omega)).symm⟩
    rw [ht, Int.toNat_natCast]
    have htb : t < b := by omega
    have z : ∀ i, bt1 (nt q i) t = 0 := fun i => by
      have := cutv_bt1 (nt q i) b t
      rw [hcj, if_neg (by omega)] at this
      exact this
    have o : bt1 (nt (cellHi q b) 0) t = 1 := by
      rw [nt_cellHi (by omega), ← chi_or]
      refine (tb1 _ _).1 ?_
      rw [Nat.testBit_or, Nat.testBit_two_pow_sub_one, decide_eq_true htb, Bool.or_true]
    rw [if_pos]
    · omega
    · exact addrN_lt_of (i := 0) (by omega) (fun j hj => by omega) (z 0) o

theorem inF_dec {l h x : List Int} [Decidable (inB l h x)] : inF (nt l) (nt h) (nt x) 0 x.length = decide (inB l h x) := by
  rw [Bool.eq_iff_iff, inF_iff, decide_eq_true_eq]
  exact ⟨fun H j hj => H j (Nat.zero_le _) (by omega), fun H j _ hj => H j (by omega)⟩

theorem chk_cell {c : List Int × Int} {l h p : List Int} {m b : Nat} (hm : m ≤ 64) (h1 : 1 ≤ p.length) (h3 : p.length ≤ 16) (o : Ok l h m p c b) : chkV c.1 c.2 = 0 := by
  have hle := o.le
  refine chk_zero.2 ⟨by rw [o.len]; exact ⟨h1, h3⟩, by rw [o.lev]; omega, ?_⟩
  rw [o.lev, show ((b : Int) - 1 + 1).toNat = b from by omega]
  exact o.cut

theorem chk_point {x : List Int} (hx : U x) (h1 : 1 ≤ x.length) (h3 : x.length ≤ 16) : chkV x (-1) = 0 := chk_zero.2 ⟨⟨h1, h3⟩, by omega, cutL_zero hx⟩

theorem law_step {l h x last q hi : List Int} {lev : Int} {C : List S89} {i n : Int} {k : Nat} {ins : Bool} {v : Int}
    (h1 : i < (C.length : Int)) (h2 : 0 ≤ i) (e3 : rd_T89 C i = ⟨q, lev⟩) (hR : cover_Range.f (k + 1) q lev = some (q, hi, 0)) (hW : cover_Within.f (k + 1) x (-1) q lev = some (ins, 0)) (e4 : (q.length : Int) = (x.length : Int)) (e5 : (hi.length : Int) = (x.length : Int))
    (hC1 : i > 0 → pantileref01_Cmp.f (k + 1) last q = some (-1)) (hC2 : pantileref01_Cmp.f (k + 1) q hi = some v) (hv : ¬ v > 0) :
    pantilelaw33_CoverOnce.l0 (k + 1 + 1) x C n last i l h = pantilelaw33_CoverOnce.j2 (k + 1) x C n i hi ins false l h := by
  simp only [pantilelaw33_CoverOnce.l0]
  rw [if_pos h1, if_pos h2, e3]
  dsimp only
  rw [hR, Option.bind_some, hW, Option.bind_some]
  dsimp only
  rw [if_pos rfl, if_pos rfl, if_pos e4, if_pos e5]
  by_cases h0 : i > 0
  · rw [if_pos h0, hC1 h0, Option.bind_some, if_neg (by decide), hC2, Option.bind_some, decide_eq_false hv]
  · rw [if_neg h0, hC2, Option.bind_some, decide_eq_false hv]

theorem wrap_succ (i : Nat) (h : i ≤ 1000) : wrap64 ((i : Int) + 1) = ((i + 1 : Nat) : Int) := by
  rw [wrap64_id (by omega) (by omega)]
  omega

theorem law_loop {l h x p : List Int} {m : Nat} (hl : U l) (hh : U h) (hx : U x) (h1 : 1 ≤ x.length) (h3 : x.length ≤ 3) (e1 : l.length = x.length) (e2 : h.length = x.length) (ep : p.length = x.length) (hm : m ≤ 64)
    {C : List (List Int × Int)} (hC : ∀ c ∈ C, ∃ b, Ok l h m p c b) (hP : List.Pairwise ahead C) (hlen : C.length ≤ 200) (d : Nat) : ∀ (k i n : Nat) (last : List Int), i + d = C.length → 200 + 2 * d ≤ k → n ≤ i → (∀ j, i = j + 1 → ∃ c, C[j]? = some c ∧ last = hiC c) →
    pantilelaw33_CoverOnce.l0 k x (C.map m89) (n : Int) last (i : Int) l h = some (decide (n + (C.drop i).countP (inn x) = if inF (nt l) (nt h) (nt x) 0 x.length = true then 1 else 0)) := by
  induction d with
  | zero =>
    intro k i n last hi hk hn hlast
    obtain ⟨k, rfl⟩ : ∃ m, k = m + 1 := ⟨k - 1, by omega⟩
    simp only [pantilelaw33_CoverOnce.l0]
    rw [if_neg (by rw [List.length_map]; omega), rIn_ok hl hh hx (by omega) (by omega) (by omega) (by omega), Option.bind_some, List.drop_eq_nil_of_le (by omega), List.countP_nil, Nat.add_zero]
    cases inF (nt l) (nt h) (nt x) 0 x.length with
    | true =>
      rw [if_pos rfl, if_pos rfl]
      congr 1
      rw [Bool.eq_iff_iff, beq_iff_eq, decide_eq_true_eq]
      omega
    | false =>
      rw [if_neg (by simp), if_neg (by simp)]
      congr 1
      rw [Bool.eq_iff_iff, beq_iff_eq, decide_eq_true_eq]
      omega
  | succ d ih =>
    intro k i n last hi hk hn hlast
    obtain ⟨k, rfl⟩ : ∃ m, k = m + 1 + 1 := ⟨k - 2, by omega⟩
    have hlt : i < C.length := by omega
    have hk1 : 50 ≤ k + 1 := by omega
    have hk2 : 130 ≤ k + 1 := by omega
    have hk3 : 200 + 2 * d ≤ k := by omega
    have hi200 : i ≤ 1000 := Nat.le_trans (Nat.le_of_lt hlt) (Nat.le_trans hlen (by decide))
    have ew := Aside0.mk (wrap_succ i hi200)
    have ew2 := Aside0.mk (wrap_succ n (Nat.le_trans hn hi200))
    have hget : C[i]? = some C[i] := List.getElem?_eq_getElem hlt
    obtain ⟨b, o⟩ := hC _ (List.getElem_mem hlt)
    have e3 : rd_T89 (C.map m89) (i : Int) = m89 C[i] := by
      unfold rd_T89
      rw [Int.toNat_natCast, List.getD_eq_getElem?_getD, List.getElem?_map, hget]
      rfl
    have hdrop : C.drop i = C[i] :: C.drop (i + 1) := List.drop_eq_getElem_cons hlt
    have hadj : ∀ j, i = j + 1 → ∃ c, C[j]? = some c ∧ last = hiC c ∧ ahead c C[i] := by
      intro j hj
      obtain ⟨c, hc, hl⟩ := hlast j hj
      refine ⟨c, hc, hl, ?_⟩
      obtain ⟨hj', ec⟩ := List.getElem?_eq_some_iff.1 hc
      rw [← ec]
      exact List.pairwise_iff_getElem.1 hP j i hj' hlt (by omega)
    have hnext : ∀ j, i + 1 = j + 1 → ∃ c, C[j]? = some c ∧ hiC C[i] = hiC c := fun j hj => ⟨C[i], by rw [← hget]; congr 1; omega, rfl⟩
    have hulast : ∀ j, i = j + 1 → U last ∧ last.length = x.length := by
      intro j hj
      obtain ⟨c, hc, hl⟩ := hlast j hj
      obtain ⟨hj', ec⟩ := List.getElem?_eq_some_iff.1 hc
      obtain ⟨b', o'⟩ := hC c (by rw [← ec]; exact List.getElem_mem hj')
      have hle := o'.le
      rw [hl, hiC_eq o'.lev]
      exact ⟨mkL_U fun i _ => chi_lt (nt_lt' o'.u i) (by omega), by rw [show (cellHi c.1 b').length = c.1.length from mkL_length _ _, o'.len, ep]⟩
    generalize C[i] = c at o e3 hdrop hadj hnext hget
    have hle := o.le
    have hclen : c.1.length = x.length := by rw [o.len, ep]
    have hchk := chk_cell hm (by omega) (by omega) o
    have hcut : cutL c.1 (c.2 + 1).toNat = c.1 := by rw [o.lev, show ((b : Int) - 1 + 1).toNat = b from by omega]; exact o.cut
    have hR := Range_eq o.u c.2 hk1
    rw [if_pos hchk, hcut] at hR
    have hW := Within_eq hx o.u (-1) c.2 hk1
    rw [if_pos (chk_point hx h1 (by omega)), if_pos hchk, if_pos hclen.symm] at hW
    have hhiU : U (hiC c) := by rw [hiC_eq o.lev]; exact mkL_U fun i _ => chi_lt (nt_lt' o.u i) (by omega)
    have hhilen : (hiC c).length = x.length := by rw [← hclen]; exact mkL_length _ _
    have hc2 : ¬ cmpN (nt c.1) (nt (hiC c)) c.1.length 64 > 0 := by rw [hiC_eq o.lev]; exact lo_hi o.u (by omega) (by omega) o.cut
    have hi1 : (i : Int) < (((C.map m89).length : Nat) : Int) := by rw [List.length_map]; exact Int.ofNat_lt.2 hlt
    have hi0 : (0 : Int) ≤ (i : Int) := Int.natCast_nonneg i
    have hC1 : (i : Int) > 0 → pantileref01_Cmp.f (k + 1) last c.1 = some (-1) := by
      intro h0
      obtain ⟨j, hj⟩ : ∃ j, i = j + 1 := ⟨i - 1, by omega⟩
      obtain ⟨c', _, hl', ha⟩ := hadj j hj
      obtain ⟨g1, g2⟩ := hulast j hj
      unfold ahead at ha
      rw [← hl', hclen] at ha
      rw [refCmp_eq g1 o.u (g2.trans hclen.symm) (by omega) hk2, g2, ha]
    have hgo := law_step (l := l) (h := h) (ins := inn x c) (n := (n : Int)) (q := c.1) (hi := hiC c) (lev := c.2) hi1 hi0 e3 hR hW (by rw [hclen]) (by rw [hhilen]) hC1 (refCmp_eq o.u hhiU (hclen.trans hhilen.symm) (by omega) hk2) hc2
    rw [hgo]
    simp only [pantilelaw33_CoverOnce.j2]
    rw [if_neg (by simp), hdrop, List.countP_cons, ew.out]
    cases hi2 : inn x c with
    | true =>
      rw [if_pos rfl, if_pos rfl, ew2.out, ih k (i + 1) (n + 1) (hiC c) (by omega) hk3 (by omega) hnext, show n + 1 + (C.drop (i + 1)).countP (inn x) = n + ((C.drop (i + 1)).countP (inn x) + 1) from by omega]
    | false =>
      simp only [Bool.false_eq_true, if_false, Nat.add_zero]
      exact ih k (i + 1) n (hiC c) (by omega) hk3 (by omega) hnext

theorem l0_nil {l h x last : List Int} (hl : U l) (hh : U h) (hx : U x) (h3 : x.length ≤ 3) (e1 : l.length = x.length) (e2 : h.length = x.length) (hE : emF (nt l) (nt h) 0 l.length = true) {k : Nat} (hk : 60 ≤ k) : pantilelaw33_CoverOnce.l0 (k + 1) x [] 0 last 0 l h = some true := by
  simp only [pantilelaw33_CoverOnce.l0]
  rw [if_neg (by simp), rIn_ok hl hh hx (by omega) (by omega) (by omega) (by omega), Option.bind_some]
  have hf : inF (nt l) (nt h) (nt x) 0 x.length = false := by
    cases hi : inF (nt l) (nt h) (nt x) 0 x.length with
    | false => rfl
    | true =>
      obtain ⟨j, g1, g2, g3⟩ := (emF_iff _ _ _ _).1 hE
      have := (inF_iff _ _ _ _ _).1 hi j (by omega) (by omega)
      omega
  rw [hf]
  rfl

open Classical in
theorem law_j0 {l h x : List Int} (hl : U l) (hh : U h) (hx : U x) (hr : 1 ≤ l.length ∧ l.length ≤ 3 ∧ l.length = h.length) (ex : x.length = l.length) {k : Nat} (hk : 6000 ≤ k) : pantilelaw33_CoverOnce.j0 (k + 1) x false l h = some true := by
  obtain ⟨k, rfl⟩ : ∃ m, k = m + 1 := ⟨k - 1, by omega⟩
  simp only [pantilelaw33_CoverOnce.j0]
  rw [if_neg (by simp), Cells_ok hl hh hr (by omega) (by omega), Option.bind_some]
  cases hE : emF (nt l) (nt h) 0 l.length with
  | true =>
    have e200 : (if (200 : Int) < 0 then (11 : Int) else 0) = 0 := rfl
    rw [if_pos rfl, e200]
    dsimp only
    rw [if_pos rfl]
    exact l0_nil hl hh hx (by omega) ex.symm (by omega) hE (by omega)
  | false =>
    have hf := full_of hE
    have hL := lvN_eq l h
    simp only [Bool.false_eq_true, if_false]
    by_cases hc : ((cellsOf l h).length : Int) ≤ 200
    · rw [if_pos hc]
      dsimp only
      rw [if_pos rfl]
      have hU := cutL_U hl (lvN l h)
      have hcc : cutL (cutL l (lvN l h)) (lvN l h) = cutL l (lvN l h) := cutL_cutL hl (Nat.le_refl _)
      have hok : ∀ c ∈ cellsOf l h, ∃ b, Ok l h (lvN l h) (cutL l (lvN l h)) c b := fl_ok _ _ hL.2 hU hcc
      have hpw : List.Pairwise ahead (cellsOf l h) := fl_pair _ _ hL.2 hU hcc
      have hcnt : (cellsOf l h).countP (inn x) = if cutL x (lvN l h) = cutL l (lvN l h) ∧ inB l h x then 1 else 0 := fl_count hx _ _ hL.2 hU (by rw [cutL_length, ex]) hcc
      have hloop := law_loop hl hh hx (by omega) (by omega) ex.symm (by omega) (by rw [cutL_length, ex]) hL.2 hok hpw (by omega) (cellsOf l h).length (k + 1) 0 0 [] (by omega) (by omega) (Nat.le_refl _) (fun j hj => by omega)
      refine hloop.trans ?_
      congr 1
      rw [decide_eq_true_eq, List.drop_zero, Nat.zero_add, hcnt, inF_dec]
      by_cases hb : inB l h x
      · have hin : cutL x (lvN l h) = cutL l (lvN l h) := by
          refine (same_iff (cutL_U hx _) hU (by rw [cutL_length, cutL_length, ex])).2 (fun i hi => ?_)
          rw [cutL_length] at hi
          rw [nt_cutL, nt_cutL]
          have g := hb i hi
          have e : cutv (nt l i) (lvN l h) = cutv (nt h i) (lvN l h) := by rw [← nt_cutL, lvN_cut hl hh hr.2.2, nt_cutL]
          have g2 := (in_cell1 (nt h i) (nt h i) (lvN l h)).2 rfl
          have g3 := (in_cell1 (nt l i) (nt l i) (lvN l h)).2 rfl
          refine ((in_cell1 (nt l i) (nt x i) (lvN l h)).1 ⟨by omega, ?_⟩).symm
          unfold chi at g2 ⊢
          rw [e]
          omega
        rw [if_pos ⟨hin, hb⟩, decide_eq_true hb, if_pos rfl]
      · rw [if_neg (fun hh => hb hh.2), decide_eq_false hb, if_neg (by simp)]
    · rw [if_neg hc]
      rfl

theorem j0_true {l h x : List Int} {k : Nat} : pantilelaw33_CoverOnce.j0 (k + 1) x true l h = some true := by
  simp only [pantilelaw33_CoverOnce.j0]
  rw [if_pos trivial]

theorem law_f (k : Nat) (hk : 6000 ≤ k) (h0 : pantilelaw33_awake.f (k + 1) = some true) {l h x : List Int} (hl : U l) (hh : U h) (hx : U x) : pantilelaw33_CoverOnce.f (k + 1) l h x = some true := by
  unfold pantilelaw33_CoverOnce.f
  rw [h0, Option.bind_some, if_pos rfl, ref3_Right_eq, Option.bind_some]
  by_cases hr : 1 ≤ l.length ∧ l.length ≤ 16 ∧ l.length = h.length
  · rw [decide_eq_true hr, if_pos rfl]
    by_cases h3 : (l.length : Int) > 3
    · rw [if_pos h3]
      exact j0_true
    · rw [if_neg h3]
      by_cases hx2 : (x.length : Int) = (l.length : Int)
      · rw [bne_eq_false_iff_eq.2 hx2]
        exact law_j0 hl hh hx ⟨hr.1, by omega, hr.2.2⟩ (by omega) hk
      · rw [bne_iff_ne.2 hx2]
        exact j0_true
  · rw [decide_eq_false hr, if_neg (by simp)]
    exact j0_true

theorem CoverOnce : pantilelaw33_CoverOnce.Pure := by
  intro l h x _ _ hl _ _ hh _ _ hx
  exact ⟨6999 + 1, law_f 6999 (by decide) awake33 hl hh hx⟩
end Go.Proofs.Ythdphjbecibeaaa.Pure
