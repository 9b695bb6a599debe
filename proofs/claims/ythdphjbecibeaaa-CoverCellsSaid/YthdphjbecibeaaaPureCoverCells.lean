/- pantilelaw33.CoverCells answers true for every box and most; no condition beyond the row's own. -/
import Derived.Test.YthdphjbecibeaaaFtCoverCells
import Derived.KernelRfl
namespace Go.Proofs.Ythdphjbecibeaaa.Pure
open Go.RowKit Go.Proofs.Ythdphjbecibeaaa.PCoverCells Go.Proofs.YthdphjbecibeaaaW.PrintWords Go.Proofs.YthdphjbecibeaaaW.PrintLast Go.Proofs.YthdphjbecibeaaaW.PrintMore Go.Proofs.Ythdphjbecibeaaa.FCoverCells Go.Proofs.YthdphjbecibeaaaMz
set_option linter.unusedVariables false
set_option linter.unusedSimpArgs false

theorem awake33 : pantilelaw33_awake.f 6000 = some true := by kernel_rfl

theorem getD_map {α β : Type} (f : α → β) (xs : List α) (i : Nat) (a : α) (b : β) (h : i < xs.length) : (xs.map f).getD i b = f (xs.getD i a) := by
  rw [List.getD_eq_getElem?_getD, List.getD_eq_getElem?_getD, List.getElem?_map, List.getElem?_eq_getElem h]
  rfl

/-- all points of the list are short -/
def short (n : Nat) (C : List (List Int × Int)) : Prop := ∀ c ∈ C, c.1.length ≤ n

theorem fl_short {l h : List Int} : ∀ (m : Nat) (p : List Int), short p.length (fl l h m p) := by
  intro m
  induction m with
  | zero =>
    intro p c hc
    unfold fl at hc
    split at hc
    · rw [List.mem_singleton] at hc
      rw [hc]
      exact Nat.le_refl _
    · simp at hc
  | succ m ih =>
    intro p c hc
    have e : fl l h (m + 1) p = if mt l h p (m + 1) = true then (if wh l h p (m + 1) = true then [(p, (m : Int))] else (List.range (2 ^ p.length)).flatMap fun a => fl l h m (placeL p m a)) else [] := rfl
    rw [e] at hc
    split at hc
    · split at hc
      · rw [List.mem_singleton] at hc
        rw [hc]
        exact Nat.le_refl _
      · obtain ⟨a, _, ha⟩ := List.mem_flatMap.1 hc
        have := ih _ c ha
        rwa [placeL_length] at this
    · simp at hc

theorem same_loop {C : List (List Int × Int)} {n : Nat} (hs : short n C) (hn : n ≤ 40) (hC : C.length ≤ 1000) (d : Nat) : ∀ (k i : Nat), i + d = C.length → d + 60 < k → pantilelaw33_CoverCells.l0 k (C.map m89) (C.map m94) (i : Int) = some true := by
  induction d with
  | zero =>
    intro k i hi hk
    obtain ⟨k, rfl⟩ : ∃ m, k = m + 1 := ⟨k - 1, by omega⟩
    simp only [pantilelaw33_CoverCells.l0]
    rw [if_neg (by rw [List.length_map]; omega)]
  | succ d ih =>
    intro k i hi hk
    obtain ⟨k, rfl⟩ : ∃ m, k = m + 1 := ⟨k - 1, by omega⟩
    have hlt : i < C.length := by omega
    have e1 : rd_T89 (C.map m89) (i : Int) = m89 (C.getD i ([], 0)) := by unfold rd_T89; rw [Int.toNat_natCast]; exact getD_map _ _ _ _ _ hlt
    have e2 : rd_T94 (C.map m94) (i : Int) = m94 (C.getD i ([], 0)) := by unfold rd_T94; rw [Int.toNat_natCast]; exact getD_map _ _ _ _ _ hlt
    have ew : wrap64 ((i : Int) + 1) = ((i + 1 : Nat) : Int) := by rw [wrap64_id (by omega) (by omega)]; omega
    have hm : C.getD i ([], 0) ∈ C := by
      rw [List.getD_eq_getElem?_getD, List.getElem?_eq_getElem hlt]
      exact List.getElem_mem hlt
    have h40 := hs _ hm
    simp only [pantilelaw33_CoverCells.l0]
    rw [if_pos (by rw [List.length_map]; omega), if_pos (by omega), if_pos (by rw [List.length_map]; omega), e1, e2]
    generalize C.getD i ([], 0) = c at h40 ⊢
    unfold m89 m94
    dsimp only
    rw [if_pos rfl, Same_eq (by omega) (by omega), Option.bind_some, decide_eq_true rfl, if_pos rfl, ew]
    exact ih k (i + 1) (by omega) (by omega)

theorem zeros {l : List Int} (hl : U l) : List.replicate l.length (0 : Int) = cutL l 64 := by
  apply List.ext_getElem
  · rw [List.length_replicate, cutL_length]
  · intro i h1 h2
    rw [List.getElem_replicate]
    have := cutL_getD l 64 i
    rw [getD_at h2] at this
    rw [this]
    unfold cutv
    rw [Nat.div_eq_of_lt (nt_lt' hl i)]
    rfl

theorem mx_zero (a : Int) : mx a 0 = ((a.toNat : Nat) : Int) := by unfold mx; split <;> omega

theorem law_j2 {l h : List Int} (hl : U l) (hh : U h) (h1 : 1 ≤ l.length) (h3 : l.length ≤ 3) (e : l.length = h.length) (hE : emF (nt l) (nt h) 0 l.length = false) {a : Int} (ha : a ≤ 60) {k : Nat} (hk : 4800 ≤ k) :
    pantilelaw33_CoverCells.j2 (k + 1) a (if ((cellsOf l h).length : Int) ≤ a then ((cellsOf l h).map m89, (0 : Int)) else ([], 11)).1 (if ((cellsOf l h).length : Int) ≤ a then ((cellsOf l h).map m89, (0 : Int)) else ([], 11)).2 false l h = some true := by
  have hf := full_of hE
  have hL := lvN_eq l h
  obtain ⟨r, g1, g2, g3, g4⟩ := rCells_ok hl hh h1 h3 e.symm 64 (Nat.le_refl _) (cutL l 64) k a.toNat (cutL_U hl _) (cutL_length _ _) (by omega) (by omega)
  have hfl : fl l h 64 (cutL l 64) = cellsOf l h := by
    have := fl_least hl hh hf h1 e.symm (lvN_cut hl hh e) (64 - lvN l h)
    rw [show lvN l h + (64 - lvN l h) = 64 from by omega] at this
    exact this
  rw [hfl] at g3 g4
  rw [show ((64 : Nat) : Int) - 1 = 63 from rfl] at g1
  simp only [pantilelaw33_CoverCells.j2]
  rw [if_neg (by simp), if_pos (by omega), if_pos (by omega), Int.toNat_natCast, zeros hl, mx_zero, g1, Option.bind_some]
  by_cases hc : ((cellsOf l h).length : Int) ≤ a
  · rw [if_pos hc]
    have hr := g3 (by omega)
    subst hr
    dsimp only
    rw [if_neg (by rw [List.length_map]; omega), if_pos rfl, List.length_map, List.length_map, bne_self_eq_false]
    obtain ⟨k, rfl⟩ : ∃ m, k = m + 1 := ⟨k - 1, by omega⟩
    simp only [pantilelaw33_CoverCells.j3]
    rw [if_neg (by simp)]
    have hsh : short l.length (cellsOf l h) := by
      have := fl_short (l := l) (h := h) (lvN l h) (cutL l (lvN l h))
      rwa [cutL_length] at this
    exact same_loop hsh (by omega) (by omega) (cellsOf l h).length k 0 (by omega) (by omega)
  · rw [if_neg hc]
    dsimp only
    have hover : (r.length : Int) > a := by
      by_cases hn : a < 0
      · omega
      · have := g4 (by omega)
        omega
    rw [if_pos hover]
    rfl

theorem law_j1 {l h : List Int} (hl : U l) (hh : U h) {a : Int} (ha : a ≤ 60) (hl40 : l.length ≤ 40) (hh40 : h.length ≤ 40) (h3 : 1 ≤ l.length ∧ l.length ≤ 16 ∧ l.length = h.length → l.length ≤ 3) {k : Nat} (hk : 5500 ≤ k) : pantilelaw33_CoverCells.j1 (k + 1) a false l h = some true := by
  simp only [pantilelaw33_CoverCells.j1]
  rw [if_neg (by simp), ref3_Right_eq]
  by_cases hr : 1 ≤ l.length ∧ l.length ≤ 16 ∧ l.length = h.length
  · have h33 := h3 hr
    have hk1 : 50 ≤ k := by omega
    have hk2 : 3000 ≤ k := by omega
    have hk3 : 5000 ≤ k := by omega
    have hk4 : 130 ≤ k := by omega
    have hk5 : 60 ≤ k := by omega
    have hL := lvN_eq l h
    rw [Cells_ok hl hh ⟨hr.1, h33, hr.2.2⟩ (by omega) hk3, Option.bind_some, Least_ok hl hh hr hk5, Option.bind_some, Option.bind_some, decide_eq_true hr, if_pos rfl, rEmpty_ok hl hh hr.2.2 hl40 hk1, Option.bind_some]
    cases hE : emF (nt l) (nt h) 0 l.length with
    | true =>
      rw [if_pos rfl, if_pos rfl, if_pos rfl]
      by_cases hn : a < 0
      · rw [if_pos hn, decide_eq_true hn]
        rfl
      · rw [if_neg hn, decide_eq_false hn]
        rfl
    | false =>
      rw [if_neg (by simp), if_neg (by simp), if_neg (by simp), refPart_eq hl hh hr.2.2 hl40 hk4, Option.bind_some]
      dsimp only
      rw [if_pos rfl, if_pos (by omega), rCut_ok hl hl40 (by omega) hk2, Option.bind_some, Same_eq (by rw [cutL_length]; omega) (by rw [cutL_length]; omega), Option.bind_some]
      have e : (partN (nt l) (nt h) l.length 64 + 1).toNat = lvN l h := rfl
      rw [e, decide_eq_true rfl]
      obtain ⟨k, rfl⟩ : ∃ m, k = m + 1 := ⟨k - 1, by omega⟩
      exact law_j2 hl hh hr.1 h33 hr.2.2 hE ha (by omega)
  · rw [Cells_dim hr, Option.bind_some, Least_dim hr, Option.bind_some, Option.bind_some, decide_eq_false hr]
    rfl

theorem j1_true {l h : List Int} {a : Int} {k : Nat} : pantilelaw33_CoverCells.j1 (k + 1) a true l h = some true := by
  simp only [pantilelaw33_CoverCells.j1]
  rw [if_pos trivial]

theorem j0_true {l h : List Int} {a : Int} {k : Nat} : pantilelaw33_CoverCells.j0 (k + 1) a true l h = some true := by
  simp only [pantilelaw33_CoverCells.j0]
  rw [if_pos trivial]

theorem law_j0 {l h : List Int} (hl : U l) (hh : U h) {a : Int} (ha : a ≤ 60) (hl40 : l.length ≤ 40) (hh40 : h.length ≤ 40) {k : Nat} (hk : 5500 ≤ k) : pantilelaw33_CoverCells.j0 (k + 1 + 1) a false l h = some true := by
  simp only [pantilelaw33_CoverCells.j0]
  rw [if_neg (by simp), ref3_Right_eq, Option.bind_some]
  by_cases hr : 1 ≤ l.length ∧ l.length ≤ 16 ∧ l.length = h.length
  · rw [decide_eq_true hr, if_pos rfl]
    by_cases h3 : (l.length : Int) > 3
    · rw [decide_eq_true h3]
      exact j1_true
    · rw [decide_eq_false h3]
      exact law_j1 hl hh ha hl40 hh40 (fun _ => by omega) hk
  · rw [decide_eq_false hr, if_neg (by simp)]
    exact law_j1 hl hh ha hl40 hh40 (fun h => absurd h hr) hk

theorem law_f (k : Nat) (hk : 5500 ≤ k) (h0 : pantilelaw33_awake.f (k + 1 + 1) = some true) {l h : List Int} (hl : U l) (hh : U h) (a : Int) : pantilelaw33_CoverCells.f (k + 1 + 1) l h a = some true := by
  unfold pantilelaw33_CoverCells.f
  rw [h0, Option.bind_some, if_pos rfl]
  by_cases h1 : (l.length : Int) > 40
  · rw [if_pos h1]
    exact j0_true
  · rw [if_neg h1]
    by_cases h2 : (h.length : Int) > 40
    · rw [if_pos h2]
      exact j0_true
    · rw [if_neg h2]
      by_cases h3 : a > 60
      · rw [decide_eq_true h3]
        exact j0_true
      · rw [decide_eq_false h3]
        exact law_j0 hl hh (by omega) (by omega) (by omega) hk

theorem CoverCells : pantilelaw33_CoverCells.Pure := by
  intro l h a _ _ hl _ _ hh _
  exact ⟨5998 + 1 + 1, law_f 5998 (by decide) awake33 hl hh a⟩
end Go.Proofs.Ythdphjbecibeaaa.Pure
