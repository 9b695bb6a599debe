/- pantilelaw03.BoxTells answers true for every two boxes and a point; no condition beyond the row's own. -/
import Derived.Test.YthdphjbecibeaaaFvBoxTells
namespace Go.Proofs.Ythdphjbecibeaaa.Pure
open Go.RowKit Go.Proofs.Ythdphjbecibeaaa.PBoxTells Go.Proofs.YthdphjbecibeaaaW.PrintWords Go.Proofs.YthdphjbecibeaaaW.PrintLast Go.Proofs.YthdphjbecibeaaaW.PrintMore Go.Proofs.Ythdphjbecibeaaa.FBoxTells Go.Proofs.YthdphjbecibeaaaMz
set_option linter.unusedVariables false
set_option linter.unusedSimpArgs false

/-- the coordinate of a box next to a point's -/
def nearF (a b p : List Int) (i : Nat) : Nat := min (max (nt p i) (nt a i)) (nt b i)

theorem nearF_lt {a b p : List Int} (hb : U b) (i : Nat) : nearF a b p i < 18446744073709551616 := by
  have := nt_lt hb i
  unfold nearF
  omega

theorem farN_congr {f g h : Nat → Nat} {n : Nat} (e : ∀ i, i < n → g i = h i) : farN f g n = farN f h n := by
  induction n with
  | zero => rfl
  | succ n ih =>
    rw [farN_succ, farN_succ, ih fun i hi => e i (by omega), e n (by omega)]

theorem near_loop {a b p : List Int} (ha : U a) (hb : U b) (hp : U p) (e1 : a.length = p.length) (e2 : b.length = p.length) (h40 : p.length ≤ 40) (d : Nat) : ∀ (k i : Nat), i + d = p.length → d < k →
    pantileref03_Nearest.l0 k p (mkL i (nearF a b p)) (i : Int) a b = some (mkL p.length (nearF a b p)) := by
  induction d with
  | zero =>
    intro k i hi hk
    obtain ⟨k, rfl⟩ : ∃ m, k = m + 1 := ⟨k - 1, by omega⟩
    obtain rfl : i = p.length := by omega
    simp only [pantileref03_Nearest.l0]
    rw [if_neg (by omega)]
  | succ d ih =>
    intro k i hi hk
    obtain ⟨k, rfl⟩ : ∃ m, k = m + 1 := ⟨k - 1, by omega⟩
    have ew : wrap64 ((i : Int) + 1) = ((i + 1 : Nat) : Int) := by rw [wrap64_id (by omega) (by omega)]; omega
    have hlen := mkL_length i (nearF a b p)
    have key : ∀ y : Int, y = ((nearF a b p i : Nat) : Int) → pantileref03_Nearest.l0 k p (mkL i (nearF a b p) ++ [y]) (wrap64 ((i : Int) + 1)) a b = some (mkL p.length (nearF a b p)) := by
      intro y hy
      rw [hy, ← mkL_succ, ew]
      exact ih k (i + 1) (by omega) (by omega)
    simp only [pantileref03_Nearest.l0]
    rw [if_pos (by omega), if_pos (by omega), if_pos (by omega), rd_nt hp, rd_nt ha, rd_nt hb]
    unfold nearF at key
    by_cases c1 : (nt p i : Int) < (nt a i : Int)
    · rw [if_pos c1, if_pos (by omega)]
      by_cases c2 : (nt a i : Int) > (nt b i : Int)
      · rw [if_pos c2, if_pos (by rw [hlen]; omega)]
        exact key _ (by omega)
      · rw [if_neg c2, if_pos (by rw [hlen]; omega)]
        exact key _ (by omega)
    · rw [if_neg c1, if_pos (by omega)]
      by_cases c2 : (nt p i : Int) > (nt b i : Int)
      · rw [if_pos c2, if_pos (by rw [hlen]; omega)]
        exact key _ (by omega)
      · rw [if_neg c2, if_pos (by rw [hlen]; omega)]
        exact key _ (by omega)

theorem near_ok {a b p : List Int} (ha : U a) (hb : U b) (hp : U p) (e1 : a.length = p.length) (e2 : b.length = p.length) (h40 : p.length ≤ 40) {k : Nat} (hk : 50 ≤ k) :
    pantileref03_Nearest.f k a b p = some (mkL p.length (nearF a b p)) := near_loop ha hb hp e1 e2 h40 p.length k 0 (by omega) (by omega)

theorem farBox_loop {a b p : List Int} (ha : U a) (hb : U b) (hp : U p) (e1 : a.length = p.length) (e2 : b.length = p.length) (h40 : p.length ≤ 40) (d : Nat) : ∀ (k i : Nat), i + d = p.length → d < k →
    box_FarBox.l0 k ((farN (nt p) (nearF a b p) i : Nat) : Int) p (p.length : Int) (i : Int) a b = some (((farN (nt p) (nearF a b p) p.length : Nat) : Int), 0) := by
  induction d with
  | zero =>
    intro k i hi hk
    obtain ⟨k, rfl⟩ : ∃ m, k = m + 1 := ⟨k - 1, by omega⟩
    obtain rfl : i = p.length := by omega
    simp only [box_FarBox.l0]
    rw [if_neg (by omega)]
  | succ d ih =>
    intro k i hi hk
    obtain ⟨k, rfl⟩ : ∃ m, k = m + 1 := ⟨k - 1, by omega⟩
    have ew : wrap64 ((i : Int) + 1) = ((i + 1 : Nat) : Int) := by rw [wrap64_id (by omega) (by omega)]; omega
    simp only [box_FarBox.l0]
    rw [if_pos (by omega), if_pos (by omega), if_pos (by omega), if_pos (by omega), if_pos (by omega), rd_nt hp, rd_nt ha, rd_nt hb, mx_nat, mn_nat, ew]
    have e3 : min (max (nt p i) (nt a i)) (nt b i) = nearF a b p i := rfl
    rw [e3, gap_eq _ _ (nt_lt hp i) (nearF_lt hb i), Option.bind_some, mx_nat, ← farN_succ]
    exact ih k (i + 1) (by omega) (by omega)

theorem farBox_ok {a b p : List Int} (ha : U a) (hb : U b) (hp : U p) (hr : 1 ≤ a.length ∧ a.length ≤ 16 ∧ a.length = b.length ∧ p.length = a.length) {k : Nat} (hk : 50 ≤ k) :
    box_FarBox.f k a b p = some (if emF (nt a) (nt b) 0 a.length = true then (0, 3) else (((farN (nt p) (nearF a b p) p.length : Nat) : Int), 0)) := by
  unfold box_FarBox.f
  rw [box_alike_eq, decide_eq_true hr, Option.bind_some, if_pos rfl, empty_ok ha hb (by omega) (by omega) hk, Option.bind_some]
  cases emF (nt a) (nt b) 0 a.length with
  | true => rfl
  | false =>
    rw [if_neg (by simp), if_neg (by simp)]
    exact farBox_loop ha hb hp (by omega) (by omega) (by omega) p.length k 0 (by omega) (by omega)

theorem farBox_dim {a b p : List Int} (hr : ¬ (1 ≤ a.length ∧ a.length ≤ 16 ∧ a.length = b.length ∧ p.length = a.length)) {k : Nat} :
    box_FarBox.f k a b p = some (0, 2) := by
  unfold box_FarBox.f
  rw [box_alike_eq, decide_eq_false hr]
  rfl

theorem Empty_ok {a b : List Int} (ha : U a) (hb : U b) (hr : 1 ≤ a.length ∧ a.length ≤ 16 ∧ a.length = b.length) {k : Nat} (hk : 50 ≤ k) :
    box_Empty.f k a b = some (emF (nt a) (nt b) 0 a.length, 0) := by
  unfold box_Empty.f
  rw [box_Right_eq, decide_eq_true hr, Option.bind_some, if_pos rfl, empty_ok ha hb hr.2.2 (by omega) hk, Option.bind_some]

theorem Empty_dim {a b : List Int} (hr : ¬ (1 ≤ a.length ∧ a.length ≤ 16 ∧ a.length = b.length)) {k : Nat} :
    box_Empty.f k a b = some (false, 2) := by
  unfold box_Empty.f
  rw [box_Right_eq, decide_eq_false hr]
  rfl

theorem tells_j2 {a b p : List Int} (ha : U a) (hb : U b) (hp : U p) (hr : 1 ≤ a.length ∧ a.length ≤ 16 ∧ a.length = b.length) {K : Nat} (hK : 200 ≤ K) {i : Bool × Int} {f : Int × Int} (hi : box_In.f K a b p = some i) (hf : box_FarBox.f K a b p = some f) {k : Nat} (hk : 200 ≤ k) :
    pantilelaw03_BoxTells.j2 k p (emF (nt a) (nt b) 0 a.length) i.1 i.2 f.1 f.2 a b = some true := by
  obtain ⟨k, rfl⟩ : ∃ m, k = m + 1 + 1 := ⟨k - 2, by omega⟩
  simp only [pantilelaw03_BoxTells.j2]
  by_cases h : (p.length : Int) = (a.length : Int)
  · have hal : 1 ≤ a.length ∧ a.length ≤ 16 ∧ a.length = b.length ∧ p.length = a.length := ⟨hr.1, hr.2.1, hr.2.2, by omega⟩
    rw [In_ok ha hb hp hal (by omega)] at hi
    rw [farBox_ok ha hb hp hal (by omega)] at hf
    obtain rfl := Option.some.inj hi
    obtain rfl := Option.some.inj hf
    rw [if_pos h, if_pos rfl, rIn_ok ha hb hp (by omega) (by omega) (by omega) (by omega), Option.bind_some]
    dsimp only
    rw [bne_self_eq_false]
    simp only [pantilelaw03_BoxTells.j3]
    rw [if_neg (by simp)]
    cases hE : emF (nt a) (nt b) 0 a.length with
    | true =>
      rw [if_pos rfl, if_pos rfl]
      rfl
    | false =>
      simp only [Bool.false_eq_true, if_false]
      have e : farN (nt p) (nt (mkL p.length (nearF a b p))) p.length = farN (nt p) (nearF a b p) p.length := farN_congr fun i hi => nt_mkL hi
      rw [if_pos trivial, near_ok ha hb hp (by omega) (by omega) (by omega) (by omega), Option.bind_some, rFar_ok hp (mkL_U fun i _ => nearF_lt hb i) (mkL_length _ _).symm (by omega) (by omega), Option.bind_some, e]
      rw [beq_self_eq_true]
  · rw [In_dim (by omega)] at hi
    rw [farBox_dim (by omega)] at hf
    obtain rfl := Option.some.inj hi
    obtain rfl := Option.some.inj hf
    rw [if_neg h, if_neg (by simp), if_pos rfl, if_pos rfl]
    rfl

theorem big_eq (a b c d p : List Int) : ∃ t, pantilelaw03_big.f a b c d p = some t := by
  unfold pantilelaw03_big.f
  split
  · exact ⟨_, rfl⟩
  · split
    · exact ⟨_, rfl⟩
    · split
      · exact ⟨_, rfl⟩
      · split <;> exact ⟨_, rfl⟩

theorem tells_f {a b c d p : List Int} (ha : U a) (hb : U b) (hc : U c) (hd : U d) (hp : U p) {k : Nat} (hk : 1000 ≤ k) :
    pantilelaw03_BoxTells.f k a b c d p = some true := by
  unfold pantilelaw03_BoxTells.f
  obtain ⟨t, ht⟩ := big_eq a b c d p
  rw [awake03_eq (by omega), Option.bind_some, if_pos rfl, ht, Option.bind_some]
  cases t with
  | true => rw [if_pos rfl]
  | false =>
    rw [if_neg (by simp)]
    by_cases hr : 1 ≤ a.length ∧ a.length ≤ 16 ∧ a.length = b.length
    · have hM : ∃ M, box_Meet.f a b c d = some M ∧ ((c.length = a.length ∧ c.length = d.length) → M.2.2 = 0 ∧ M.1.length = a.length ∧ M.2.1.length = a.length) ∧ (¬ (c.length = a.length ∧ c.length = d.length) → M = ([], [], 2)) := by
        by_cases hm : c.length = a.length ∧ c.length = d.length
        · exact ⟨_, Meet_ok ha hb hc hd ⟨hr.1, hr.2.1, hr.2.2, hm.1⟩ hm.2, fun _ => ⟨rfl, mkL_length _ _, mkL_length _ _⟩, fun h => absurd hm h⟩
        · exact ⟨_, Meet_dim (by omega), fun h => absurd h hm, fun _ => rfl⟩
      obtain ⟨M, hM, hM1, hM2⟩ := hM
      have hI : ∃ i, box_In.f k a b p = some i ∧ ∃ f, box_FarBox.f k a b p = some f := by
        by_cases hal : 1 ≤ a.length ∧ a.length ≤ 16 ∧ a.length = b.length ∧ p.length = a.length
        · exact ⟨_, In_ok ha hb hp hal (by omega), _, farBox_ok ha hb hp hal (by omega)⟩
        · exact ⟨_, In_dim hal, _, farBox_dim hal⟩
      obtain ⟨i, hI, f, hF⟩ := hI
      have hj2 := fun k2 (h2 : 200 ≤ k2) => tells_j2 ha hb hp hr (by omega : 200 ≤ k) hI hF (k := k2) h2
      rw [Empty_ok ha hb hr (by omega), Option.bind_some, bVol_ok ha hb hr (by omega), Option.bind_some, hI, Option.bind_some, hM, Option.bind_some, hF, Option.bind_some, ref3_Right_eq, Option.bind_some, box_Right_eq, Option.bind_some, decide_eq_true hr]
      dsimp only
      rw [if_neg (by simp), if_pos rfl, if_pos rfl, rEmpty_ok ha hb hr.2.2 (by omega) (by omega), Option.bind_some, if_neg (by simp), if_pos rfl, rVol_ok ha hb hr.2.2 (by omega) (by omega), Option.bind_some, bne_self_eq_false]
      clear hI hF hM ht
      obtain ⟨k, rfl⟩ : ∃ m, k = m + 1 + 1 := ⟨k - 2, by omega⟩
      simp only [pantilelaw03_BoxTells.j0]
      rw [if_neg (by simp), ref3_Right_eq, Option.bind_some]
      have j1t : ¬ (c.length = a.length ∧ c.length = d.length) → pantilelaw03_BoxTells.j1 (k + 1) p (emF (nt a) (nt b) 0 a.length) i.1 i.2 M.2.2 f.1 f.2 true a b M.1 M.2.1 = some true := by
        intro hm
        have e := hM2 hm
        subst e
        simp only [pantilelaw03_BoxTells.j1]
        rw [if_pos trivial, if_pos trivial]
        exact hj2 k (by omega)
      by_cases h1 : 1 ≤ c.length ∧ c.length ≤ 16 ∧ c.length = d.length
      · rw [decide_eq_true h1, if_pos rfl]
        by_cases h2 : (c.length : Int) = (a.length : Int)
        · rw [bne_eq_false_iff_eq.2 h2]
          obtain ⟨m1, m2, m3⟩ := hM1 ⟨by omega, h1.2.2⟩
          simp only [pantilelaw03_BoxTells.j1]
          rw [if_neg (by simp), if_pos m1, if_pos (by omega), if_pos (by omega)]
          exact hj2 k (by omega)
        · rw [bne_iff_ne.2 h2]
          exact j1t (by omega)
      · rw [decide_eq_false h1, if_neg (by simp)]
        exact j1t (by omega)
    · rw [Empty_dim hr, Option.bind_some, bVol_dim hr, Option.bind_some, In_dim (by omega), Option.bind_some, Meet_dim (by omega), Option.bind_some, farBox_dim (by omega), Option.bind_some, ref3_Right_eq, Option.bind_some, box_Right_eq, Option.bind_some, decide_eq_false hr]
      rfl

theorem BoxTells : pantilelaw03_BoxTells.Pure := fun a b c d p _ _ ha _ _ hb _ _ hc _ _ hd _ _ hp => ⟨1000, tells_f ha hb hc hd hp (Nat.le_refl _)⟩

end Go.Proofs.Ythdphjbecibeaaa.Pure
