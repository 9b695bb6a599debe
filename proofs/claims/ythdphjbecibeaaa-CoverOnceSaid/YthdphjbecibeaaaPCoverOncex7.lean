-- Written by wip/tools/print2.py, a program of this session, over the kit's print of the program. Lean checks it.
import Derived.Test.YthdphjbecibeaaaPCoverOncex0
import Derived.Test.YthdphjbecibeaaaPCoverOncex3
import Derived.Test.YthdphjbecibeaaaPCoverOncex4
import Derived.Test.YthdphjbecibeaaaPCoverOncex5
import Derived.Test.YthdphjbecibeaaaPCoverOncex6
namespace Go.Proofs.Ythdphjbecibeaaa.PCoverOnce
open Go.RowKit Go.Proofs.YthdphjbecibeaaaW.PrintWords Go.Proofs.YthdphjbecibeaaaW.PrintLast Go.Proofs.YthdphjbecibeaaaW.PrintMore
attribute [local go_sem] max2_int min2_int max_two min_two max_three min_three max_four min_four   -- for this text's walks alone
set_option linter.unusedVariables false
set_option linter.unusedSimpArgs false

/-! ### cover_splitter_split: function 95: by hand -/
mutual
def cover_splitter_split.f : Nat → List Int → List Int → Int → List S89 → List Int → Int → Option (Bool × List S89)
  | 0, _, _, _, _, _, _ => none
  | k + 1, lo, hi, most, out, p, lvl => (mask_Whole.f k p lvl lo hi).bind fun t => if t.1 = true then (if out.length < 1099511627776 then some (decide (((out.length + 1 : Nat) : Int) ≤ most), out ++ [⟨p, lvl⟩]) else none) else (mask_Of.f k p lvl lo hi).bind fun m => (mask_Mask_First.f m.1 m.2.1 m.2.2.1).bind fun a => cover_splitter_split.l0 k lo hi most out p lvl m.1 m.2.1 m.2.2.1 a.1 a.2
def cover_splitter_split.l0 : Nat → List Int → List Int → Int → List S89 → List Int → Int → Int → Int → Int → Int → Bool → Option (Bool × List S89)
  | 0, _, _, _, _, _, _, _, _, _, _, _ => none
  | k + 1, lo, hi, most, out, p, lvl, m0, m1, m2, at_, ok_ => if ok_ = true then (zbits_Place.f k p lvl at_).bind fun q => (cover_splitter_split.f k lo hi most out q.1 (wrap64 (lvl - 1))).bind fun s => if s.1 = true then (mask_Mask_Next.f k m0 m1 m2 at_).bind fun a => cover_splitter_split.l0 k lo hi most s.2 p lvl m0 m1 m2 a.1 a.2 else some (false, s.2) else some (true, out)
end
theorem cover_splitter_split.mono_l : ∀ k, (∀ y0 y1 y2 y3 y4 y5, LeO (cover_splitter_split.f k y0 y1 y2 y3 y4 y5) (cover_splitter_split.f (k + 1) y0 y1 y2 y3 y4 y5)) ∧ (∀ y0 y1 y2 y3 y4 y5 y6 y7 y8 y9 ya, LeO (cover_splitter_split.l0 k y0 y1 y2 y3 y4 y5 y6 y7 y8 y9 ya) (cover_splitter_split.l0 (k + 1) y0 y1 y2 y3 y4 y5 y6 y7 y8 y9 ya))
  | 0 => ⟨fun _ _ _ _ _ _ r h => by simp [cover_splitter_split.f] at h, fun _ _ _ _ _ _ _ _ _ _ _ r h => by simp [cover_splitter_split.l0] at h⟩
  | k + 1 => by
    obtain ⟨ih0, ih1⟩ := cover_splitter_split.mono_l k
    refine ⟨fun y0 y1 y2 y3 y4 y5 => ?_, fun y0 y1 y2 y3 y4 y5 y6 y7 y8 y9 ya => ?_⟩
    · unfold cover_splitter_split.f
      refine LeO.bind (mask_Whole.mono _ _ _ _ _) (fun t => ?_)
      split
      · exact LeO.refl _
      · exact LeO.bind (mask_Of.mono _ _ _ _ _) (fun m => LeO.bind (LeO.refl _) (fun a => ih1 _ _ _ _ _ _ _ _ _ _ _))
    · unfold cover_splitter_split.l0
      split
      · refine LeO.bind (zbits_Place.mono _ _ _ _) (fun q => LeO.bind (ih0 _ _ _ _ _ _) (fun s => ?_))
        split
        · exact LeO.bind (mask_Mask_Next.mono _ _ _ _ _) (fun a => ih1 _ _ _ _ _ _ _ _ _ _ _)
        · exact LeO.refl _
      · exact LeO.refl _
theorem cover_splitter_split.mono : ∀ a0 a1 a2 a3 a4 a5 k, LeO (cover_splitter_split.f k a0 a1 a2 a3 a4 a5) (cover_splitter_split.f (k + 1) a0 a1 a2 a3 a4 a5) := by
  intro a0 a1 a2 a3 a4 a5 k
  exact (cover_splitter_split.mono_l k).1 _ _ _ _ _ _
--#WALK
theorem Code.wp_up {P : Program} {c : Code} {Q Q' : Exit → Act → World → Prop} {a : Act} {w : World} (h : c.wp P Q a w) (hq : ∀ e a w, Q e a w → Q' e a w) : c.wp P Q' a w := by
  intro b k cs
  obtain ⟨e, a1, w1, h1, h2⟩ := h b k cs
  exact ⟨e, a1, w1, hq _ _ _ h1, h2⟩
theorem least_of (p : Nat → Prop) (h : ∃ n, p n) : ∃ n, p n ∧ ∀ m, p m → n ≤ m := by
  obtain ⟨n, hn⟩ := h
  induction n using Nat.strongRecOn with
  | _ n ih =>
    by_cases hm : ∃ m, m < n ∧ p m
    · obtain ⟨m, hlt, hp⟩ := hm
      exact ih m hlt hp
    · exact ⟨n, hn, fun m hp => by
        by_cases h2 : m < n
        · exact absurd ⟨m, h2, hp⟩ hm
        · omega⟩
theorem wp_scope_rounds {P : Program} {a : Act} {w : World} {Q : Exit → Act → World → Prop} {c rest : Code} (l : Nat) (J : Nat → Act → World → Prop) (hf : findLabel c l = some (Code.skip.seq rest))
    (first : (∀ n a w, J n a w → rest.wp P (Exit.jump l (fun a' w' => ∃ n, J n a' w') Q) a w) → c.wp P (Exit.jump l (fun a' w' => ∃ n, J n a' w') Q) a w)
    (pass : ∀ n a w, J n a w → rest.wp P (Exit.jump l (fun a' w' => ∃ m, J m a' w' ∧ m < n) Q) a w) : (Code.scope c).wp P Q a w := by
  classical
  have hμ : ∀ (a' : Act) (w' : World), ∃ n : Nat, (∃ m, J m a' w') → J n a' w' ∧ ∀ m, J m a' w' → n ≤ m := by
    intro a' w'
    by_cases h : ∃ m, J m a' w'
    · obtain ⟨n, hn⟩ := least_of _ h
      exact ⟨n, fun _ => hn⟩
    · exact ⟨0, fun h' => absurd h' h⟩
  have pass' : ∀ n a w, J n a w → (Code.skip.seq rest).wp P (Exit.jump l (fun a' w' => ∃ m, J m a' w' ∧ m < n) Q) a w := fun n a w hJ => wp_seq (wp_skip (pass n a w hJ))
  have hall : ∀ n a w, J n a w → rest.wp P (Exit.jump l (fun a' w' => ∃ n, J n a' w') Q) a w := by
    intro n a w hJ
    refine Code.wp_up (pass n a w hJ) ?_
    intro e a' w' he
    cases e with
    | goto l' =>
      obtain ⟨hl, m, hm, _⟩ := he
      exact ⟨hl, m, hm⟩
    | normal => exact he
    | exit id => exact he
    | ret => exact he
    | panic ch => exact he
    | outgrown => exact he
  refine wp_scope_jumps l (fun a' w' => ∃ n, J n a' w') (fun a' w' => Classical.choose (hμ a' w')) hf (first hall) ?_
  intro a w hJ
  refine Code.wp_up (pass' (Classical.choose (hμ a w)) a w (Classical.choose_spec (hμ a w) hJ).1) ?_
  intro e a' w' he
  cases e with
  | goto l' =>
    obtain ⟨hl, m, hm, hlt⟩ := he
    exact ⟨hl, ⟨m, hm⟩, Nat.lt_of_le_of_lt ((Classical.choose_spec (hμ a' w') ⟨m, hm⟩).2 m hm) hlt⟩
  | normal => exact he
  | exit id => exact he
  | ret => exact he
  | panic ch => exact he
  | outgrown => exact he
/-- What is carried: gs: the splitter's block; L: this call's own blocks. -/
structure cover_splitter_split.St (W0 w : World) (gs : Nat) (cs : Value → Array Value) (vo : Value) (ok : Nat → Prop) (Ap : Option Addr) (cp : Nat) (p : List Int) (L : Nat → Prop) (w' : World) (v : Value) (out : List S89) : Prop where
  blk : w'.heap[gs]? = some (.cells (cs v) 121 (0, 0))
  rows : Kd.N k89 89 w' W0.heap.size (fun k_ => (ok k_ ∧ ¬ L k_) ∧ k_ ≠ gs) v out
  pt : Kd.V (Kd.int .u64) 30 w' W0.heap.size (fun k_ => (ok k_ ∧ ¬ L k_) ∧ k_ ≠ gs ∧ some k_ ≠ v.ownBlock) (.slice Ap p.length cp) p
  below : Below W0.heap.size W0 w'
  kept : Kept w w' (fun k_ => k_ = gs ∨ some k_ = vo.ownBlock)
  at_ : v.ownBlock = vo.ownBlock ∨ ∃ b, v.ownBlock = some b ∧ w.heap.size ≤ b
  fresh : ∀ k_, w.heap.size ≤ k_ → ok k_
  loc : ∀ k_, L k_ → w.heap.size ≤ k_ ∧ k_ < w'.heap.size
  old : gs < w.heap.size
  ge : W0.heap.size ≤ gs
section
variable {W0 w w' w2 : World} {gs g : Nat} {cs : Value → Array Value} {vo v : Value} {ok L : Nat → Prop} {Ap : Option Addr} {cp : Nat} {p : List Int} {out : List S89}
theorem cover_splitter_split.St.mv (h : cover_splitter_split.St W0 w gs cs vo ok Ap cp p L w' v out) (hb : Below w'.heap.size w' w2) : cover_splitter_split.St W0 w gs cs vo ok Ap cp p L w2 v out :=
  ⟨blk_below h.blk hb, Kd.N_below h.rows hb, Kd.V_below h.pt hb, below_then h.below h.below.size hb, h.kept.below hb, h.at_, h.fresh, fun k hk => ⟨(h.loc k hk).1, Nat.lt_of_lt_of_le (h.loc k hk).2 hb.size⟩, h.old, h.ge⟩
theorem cover_splitter_split.St.drew (h : cover_splitter_split.St W0 w gs cs vo ok Ap cp p L w' v out) : cover_splitter_split.St W0 w gs cs vo ok Ap cp p L w'.drew v out := h.mv (below_drew (Below.refl _ _))
theorem cover_splitter_split.St.own (h : cover_splitter_split.St W0 w gs cs vo ok Ap cp p L w' v out) (hg : w'.heap.size ≤ g) (hb : Below w'.heap.size w' w2) (hlt : g < w2.heap.size) : cover_splitter_split.St W0 w gs cs vo ok Ap cp p (fun k => L k ∨ k = g) w2 v out :=
  ⟨blk_below h.blk hb, Kd.N_mono (Kd.N_below (Kd.N_elderB h.rows g hg) hb) (fun k hk => ⟨⟨hk.1.1.1, fun hl => hl.elim hk.1.1.2 hk.2⟩, hk.1.2⟩),
   Kd.V_mono (Kd.V_below (Kd.V_bound h.pt) hb) (fun k hk => ⟨⟨hk.1.1.1, fun hl => hl.elim hk.1.1.2 (fun e => by have := hk.2; omega)⟩, hk.1.2⟩),
   below_then h.below h.below.size hb, h.kept.below hb, h.at_, h.fresh, fun k hk => hk.elim (fun hk => ⟨(h.loc k hk).1, Nat.lt_of_lt_of_le (h.loc k hk).2 hb.size⟩) (fun e => ⟨by have := h.kept.1; omega, by omega⟩), h.old, h.ge⟩
theorem cover_splitter_split.St.set (h : cover_splitter_split.St W0 w gs cs vo ok Ap cp p L w' v out) (hl : L g) (i : Nat) (u : Value) : cover_splitter_split.St W0 w gs cs vo ok Ap cp p L (w'.setCell ⟨g, i, none⟩ u) v out :=
  have hge : w.heap.size ≤ g := (h.loc g hl).1
  have hne : gs ≠ g := fun e => by have := h.old; omega
  ⟨blk_far h.blk hne u, Kd.N_far (p := ⟨g, i, none⟩) h.rows (fun k hk e => hk.1.2 (e ▸ hl)) u, Kd.V_far (p := ⟨g, i, none⟩) h.pt (fun k hk e => hk.1.2 (e ▸ hl)) u,
   h.below.setCell (p := ⟨g, i, none⟩) (by have := h.old; have := h.ge; show W0.heap.size ≤ g; omega) u, h.kept.setCell (p := ⟨g, i, none⟩) (.inr hge) u, h.at_, h.fresh, fun k hk => ⟨(h.loc k hk).1, by have := (h.loc k hk).2; simpa [World.setCell] using this⟩, h.old, h.ge⟩
theorem cover_splitter_split.St.newpt {v0 : Value} {q : List Int} (h : cover_splitter_split.St W0 w gs cs vo ok Ap cp p L w' v out) (hR : Kd.R (Kd.int .u64) 30 w2 w'.heap.size (fun _ => True) v0 q) : Kd.V (Kd.int .u64) 30 w2 W0.heap.size (fun k_ => (ok k_ ∧ ¬ L k_) ∧ k_ ≠ gs ∧ some k_ ≠ v.ownBlock) v0 q :=
  Kd.R_V (Kd.R_mono (Kd.R_bound hR) (fun k hk => ⟨⟨h.fresh k (Nat.le_trans h.kept.1 hk.2.1), fun hl => by have := (h.loc k hl).2; have := hk.2.1; omega⟩, by have := h.old; have := h.kept.1; have := hk.2.1; omega, fun e => by have := Kd.N_lt h.rows k e.symm; have := hk.2.1; omega⟩))
theorem cover_splitter_split.St.call {v' : Value} {so : List S89} (h : cover_splitter_split.St W0 w gs cs vo ok Ap cp p L w' v out) (hblk : w2.heap[gs]? = some (.cells (cs v') 121 (0, 0))) (hrows : Kd.N k89 89 w2 W0.heap.size (fun k_ => (ok k_ ∧ ¬ L k_) ∧ k_ ≠ gs) v' so) (hbelow : Below W0.heap.size W0 w2) (hkept : Kept w' w2 (fun k_ => k_ = gs ∨ some k_ = v.ownBlock)) (hat : v'.ownBlock = v.ownBlock ∨ ∃ b, v'.ownBlock = some b ∧ w'.heap.size ≤ b) : cover_splitter_split.St W0 w gs cs vo ok Ap cp p L w2 v' so :=
  ⟨hblk, hrows, Kd.V_mono (Kd.V_kept (Kd.V_bound h.pt) hkept (fun k hk hs => hs.elim hk.1.2.1 hk.1.2.2)) (fun k hk => ⟨hk.1.1, hk.1.2.1, fun e => hat.elim (fun e2 => hk.1.2.2 (e.trans e2)) (fun ⟨b, eb, hb⟩ => by
      rw [eb] at e
      injection e with e
      have := hk.2
      omega)⟩),
   hbelow, h.kept.then_ hkept (fun k hk => hk.elim (fun e => .inl (.inl e)) (fun e => h.at_.elim (fun e2 => .inl (.inr (e.trans e2))) (fun ⟨b, eb, hb⟩ => by
      rw [eb] at e
      injection e with e
      exact .inr (by omega)))),
   hat.elim (fun e => h.at_.elim (fun e2 => .inl (e.trans e2)) (fun ⟨b, eb, hb⟩ => .inr ⟨b, e.trans eb, hb⟩)) (fun ⟨b, eb, hb⟩ => .inr ⟨b, eb, Nat.le_trans h.kept.1 hb⟩),
   h.fresh, fun k hk => ⟨(h.loc k hk).1, Nat.lt_of_lt_of_le (h.loc k hk).2 hkept.1⟩, h.old, h.ge⟩
theorem cover_splitter_split.St.neOwn (h : cover_splitter_split.St W0 w gs cs vo ok Ap cp p L w' v out) (hl : L g) : some g ≠ v.ownBlock := fun e => (h.rows.1 g e.symm).1.2 hl
theorem cover_splitter_split.St.neGs (h : cover_splitter_split.St W0 w gs cs vo ok Ap cp p L w' v out) (hl : L g) : g ≠ gs := fun e => by have := (h.loc g hl).1; have := h.old; omega
end
theorem info89_ : (Try.prog.info? 89).map (fun i => (i.zero, i.size, i.bytes)) = some (some (.agg #[(.slice none 0 0), (.int .i64 0)]), 2, 32) := by kernel_rfl
/-- What holds at the label. -/
def cover_splitter_split.J (k : Nat) (W0 w : World) (gs : Nat) (cs : Value → Array Value) (lo hi : List Int) (most : Int) (vo : Value) (Ap : Option Addr) (cp : Nat) (p : List Int) (lvl : Int) (ok : Nat → Prop) (rb : Bool) (rout : List S89) (kq : Nat) (a' : Act) (w' : World) : Prop :=
  ∃ (gc gm : Nat) (m0 m1 m2 at_ : Int) (ok_ : Bool) (v : Value) (out : List S89) (u2 u5 u6 u8 u11 u12 u13 u14 u15 u16 u17 u18 u19 u20 u21 u22 u23 u24 u25 u26 u27 u28 u29 u30 u31 u32 u33 u34 u35 u36 u37 u38 u39 u40 u41 u42 u43 u44 u45 u46 u47 u48 u49 u50 u51 u52 u53 u54 u55 u56 u57 u58 u59 u60 u61 u62 u63 u64 u65 u66 u67 u68 u69 u70 u71 u72 u73 u74 u75 u76 u77 u78 u79 u80 u81 u82 u83 u84 u85 u86 u87 : Value),
    a' = { tmps := #[.pointer (some ⟨gs, 0, none⟩), .agg #[.slice Ap p.length cp, .int .i64 lvl], u2, .pointer (some ⟨gc, 0, none⟩), .bool false, u5, u6, .pointer (some ⟨gm, 0, none⟩), u8, .int .i64 at_, .bool ok_, u11, u12, u13, u14, u15, u16, u17, u18, u19, u20, u21, u22, u23, u24, u25, u26, u27, u28, u29, u30, u31, u32, u33, u34, u35, u36, u37, u38, u39, u40, u41, u42, u43, u44, u45, u46, u47, u48, u49, u50, u51, u52, u53, u54, u55, u56, u57, u58, u59, u60, u61, u62, u63, u64, u65, u66, u67, u68, u69, u70, u71, u72, u73, u74, u75, u76, u77, u78, u79, u80, u81, u82, u83, u84, u85, u86, u87], defers := [] } ∧
    Aside0 (cover_splitter_split.l0 kq lo hi most out p lvl m0 m1 m2 at_ ok_ = some (rb, rout)) ∧ Aside0 (kq ≤ k) ∧
    Aside0 (cover_splitter_split.St W0 w gs cs vo ok Ap cp p (fun k_ => (False ∨ k_ = gc) ∨ k_ = gm) w' v out) ∧
    Aside0 (w'.heap[gc]? = some (.cells #[.slice Ap p.length cp, .int .i64 lvl] 89 (0, 0))) ∧
    Aside0 (w'.heap[gm]? = some (.cells #[.int .i64 m0, .int .i64 m1, .int .i64 m2] 52 (0, 0)))
set_option maxHeartbeats 8000000 in
set_option maxRecDepth 100000 in
theorem cover_splitter_split.calls (k : Nat) : ∀ (W0 : World) (gs : Nat) (A0 : Option Addr) (c0 : Nat) (lo : List Int) (A1 : Option Addr) (c1 : Nat) (hi : List Int) (most : Int) (vo : Value) (out : List S89) (Ap : Option Addr) (cp : Nat) (p : List Int) (lvl : Int) (ok : Nat → Prop) (rb : Bool) (rout : List S89) (w : World) (hr0 : Kd.C (Kd.int .u64) W0 A0 lo.length lo) (hc0 : lo.length ≤ c0) (hr1 : Kd.C (Kd.int .u64) W0 A1 hi.length hi) (hc1 : hi.length ≤ c1) (hge : W0.heap.size ≤ gs) (hB : Below W0.heap.size W0 w) (hgs : w.heap[gs]? = some (.cells #[.slice A0 lo.length c0, .slice A1 hi.length c1, .int .i64 most, vo] 121 (0, 0))) (hO : Kd.N k89 89 w W0.heap.size (fun k_ => ok k_ ∧ k_ ≠ gs) vo out) (hok : ∀ k_, w.heap.size ≤ k_ → ok k_) (hP : Kd.V (Kd.int .u64) 30 w W0.heap.size (fun k_ => ok k_ ∧ k_ ≠ gs ∧ some k_ ≠ vo.ownBlock) (.slice Ap p.length cp) p) (h : cover_splitter_split.f k lo hi most out p lvl = some (rb, rout)),
    Calls Try.prog 95 #[.pointer (some ⟨gs, 0, none⟩), .agg #[.slice Ap p.length cp, .int .i64 lvl]] w fun e w' => ∃ v : Value, e = .returned (.bool rb) ∧ w'.heap[gs]? = some (.cells #[.slice A0 lo.length c0, .slice A1 hi.length c1, .int .i64 most, v] 121 (0, 0)) ∧ Kd.N k89 89 w' W0.heap.size (fun k_ => ok k_ ∧ k_ ≠ gs) v rout ∧ Below W0.heap.size W0 w' ∧ Kept w w' (fun k_ => k_ = gs ∨ some k_ = vo.ownBlock) ∧ (v.ownBlock = vo.ownBlock ∨ ∃ b, v.ownBlock = some b ∧ w.heap.size ≤ b) := by
  induction k using Nat.strongRecOn with
  | _ k ih =>
  intro W0 gs A0 c0 lo A1 c1 hi most vo out Ap cp p lvl ok rb rout w hr0 hc0 hr1 hc1 hge hB hgs hO hok hP h
  cases k with
  | zero => exact absurd h (by simp [cover_splitter_split.f])
  | succ k =>
  simp only [cover_splitter_split.f] at h
  have hu89 := Try.underlying89
  have hu32 := Try.underlying32
  have hu52 := Try.underlying52
  have hu121 := Try.underlying121
  have HR0 := Aside0.mk hr0
  have HR1 := Aside0.mk hr1
  have HC0 := Aside0.mk hc0
  have HC1 := Aside0.mk hc1
  have HS0 := Aside0.mk (cover_splitter_split.St.mk (cs := fun v_ => #[.slice A0 lo.length c0, .slice A1 hi.length c1, .int .i64 most, v_]) (L := fun _ => False) (w' := w) hgs (Kd.N_mono hO (fun _ hk => ⟨⟨hk.1, fun h => h⟩, hk.2⟩)) (Kd.V_mono hP (fun _ hk => ⟨⟨hk.1, fun h => h⟩, hk.2⟩)) hB (Kept.refl _ _) (.inl rfl) hok (fun _ h => h.elim) (blk_lt hgs) hge)
  have HIH := Aside0.mk ih
  clear hr0 hr1 hc0 hc1 hB hge hgs hO hok hP ih
  obtain ⟨⟨tw, te⟩, ht, h1⟩ := Option.bind_eq_some_iff.mp h
  have HT := Aside0.mk ht
  have H := Aside0.mk h1
  clear ht h h1
  go_enter Try.func95, Try.ntmps95
  go_wp2_with ((with_reducible refine gate_dst (N := 3) rfl ?_); refine box_event ?hg (N := 3) ?hd (cs := #[.slice Ap p.length cp, .int .i64 lvl]) (t := 89) ?hr ?_; (case hd => rfl); (case hg => rfl); (case hr => first | (go_simp; done) | (go_simp; rfl)); intro gc hg w1 hbox hb; have HS := Aside0.mk (HS0.out.own (g := gc) (by omega) hb (blk_lt hbox)); have BKC := Aside0.mk hbox; clear HS0 hb hbox hg)
  refine wp_scope_rounds 0 (cover_splitter_split.J k W0 w gs (fun v_ => #[.slice A0 lo.length c0, .slice A1 hi.length c1, .int .i64 most, v_]) lo hi most vo Ap cp p lvl ok rb rout) rfl (fun hkey => ?_) ?_
  · have HKEY := Aside0.mk hkey
    clear hkey
    go_wp2
    refine start_ (n := 14) (S := fun w' => w'.cell? ⟨gc, 0, none⟩ = some (.slice Ap p.length cp) ∧ w'.cell? ⟨gc, 1, none⟩ = some (.int .i64 lvl) ∧ w'.cell? ⟨gs, 0, none⟩ = some (.slice A0 lo.length c0) ∧ w'.cell? ⟨gs, 1, none⟩ = some (.slice A1 hi.length c1)) (ds := []) #[false, false, false, false, false, false, false, false, false, false, false, false, false, false] (by kernel_rfl) rfl rfl ⟨(blk_cell BKC.out 0).trans rfl, (blk_cell BKC.out 1).trans rfl, (blk_cell HS.out.blk 0).trans rfl, (blk_cell HS.out.blk 1).trans rfl⟩ (fun hHeld => ?_)
    have n0_ := Aside0.mk HS.out.drew
    have n1_ := Aside0.mk (blk_drew BKC.out)
    clear HS BKC
    generalize w1.drew = w2 at n0_ n1_ hHeld ⊢
    have HS := n0_
    have BKC := n1_
    clear n0_ n1_
    refine pure_ (i := 0) (N := some 14) (v := ?_) (a' := ?_) #[true, false, false, false, false, false, false, false, false, false, false, false, false, false] rfl rfl (by kernel_rfl) (fun _ _ _ h => h) (Or.inl ⟨by rfl, ?_⟩) ?_ ?_
    rotate_left
    · intro w'
      go_simp
      with_reducible rfl
    rotate_left
    · simp only [Act.put, List.setIfInBounds_toArray, List.set_cons_zero, List.set_cons_succ, i64_w, i32_w]
      rfl
    refine pure_ (i := 2) (N := some 16) (v := ?_) (a' := ?_) #[true, false, true, false, false, false, false, false, false, false, false, false, false, false] rfl rfl (by kernel_rfl) (fun _ _ _ h => h) (Or.inl ⟨by rfl, ?_⟩) ?_ ?_
    rotate_left
    · intro w'
      go_simp
      with_reducible rfl
    rotate_left
    · simp only [Act.put, List.setIfInBounds_toArray, List.set_cons_zero, List.set_cons_succ, i64_w, i32_w]
      rfl
    refine pure_ (i := 4) (N := some 18) (v := ?_) (a' := ?_) #[true, false, true, false, true, false, false, false, false, false, false, false, false, false] rfl rfl (by kernel_rfl) (fun _ _ _ h => h) (Or.inl ⟨by rfl, ?_⟩) ?_ ?_
    rotate_left
    · intro w'
      go_simp
      with_reducible rfl
    rotate_left
    · simp only [Act.put, List.setIfInBounds_toArray, List.set_cons_zero, List.set_cons_succ, i64_w, i32_w]
      rfl
    refine pure_ (i := 5) (N := some 19) (v := ?_) (a' := ?_) #[true, false, true, false, true, true, false, false, false, false, false, false, false, false] rfl rfl (by kernel_rfl) (fun _ _ _ h => h) (Or.inl ⟨by rfl, ?_⟩) ?_ ?_
    rotate_left
    · intro w'
      go_simp
      with_reducible rfl
    rotate_left
    · simp only [Act.put, List.setIfInBounds_toArray, List.set_cons_zero, List.set_cons_succ, i64_w, i32_w]
      rfl
    refine pure_ (i := 6) (N := some 20) (v := ?_) (a' := ?_) #[true, false, true, false, true, true, true, false, false, false, false, false, false, false] rfl rfl (by kernel_rfl) (fun _ _ _ h => h) (Or.inl ⟨by rfl, ?_⟩) ?_ ?_
    rotate_left
    · intro w'
      go_simp
      with_reducible rfl
    rotate_left
    · simp only [Act.put, List.setIfInBounds_toArray, List.set_cons_zero, List.set_cons_succ, i64_w, i32_w]
      rfl
    refine take_ (i := 1) (N := some 15) (v := ?_) (a' := ?_) #[true, true, true, false, true, true, true, false, false, false, false, false, false, false] rfl rfl (by kernel_rfl) (fun _ _ _ h => h) (Or.inl ⟨by rfl, ?_⟩) hHeld ?_ ?_
    rotate_left
    · rintro w' ⟨s0, s1, s2, s3⟩
      go_simp
      with_reducible rfl
    rotate_left
    · simp only [Act.put, List.setIfInBounds_toArray, List.set_cons_zero, List.set_cons_succ, i64_w, i32_w]
      rfl
    refine take_ (i := 3) (N := some 17) (v := ?_) (a' := ?_) #[true, true, true, true, true, true, true, false, false, false, false, false, false, false] rfl rfl (by kernel_rfl) (fun _ _ _ h => h) (Or.inl ⟨by rfl, ?_⟩) hHeld ?_ ?_
    rotate_left
    · rintro w' ⟨s0, s1, s2, s3⟩
      go_simp
      with_reducible rfl
    rotate_left
    · simp only [Act.put, List.setIfInBounds_toArray, List.set_cons_zero, List.set_cons_succ, i64_w, i32_w]
      rfl
    refine take_ (i := 7) (N := some 21) (v := ?_) (a' := ?_) #[true, true, true, true, true, true, true, true, false, false, false, false, false, false] rfl rfl (by kernel_rfl) (fun _ _ _ h => h) (Or.inl ⟨by rfl, ?_⟩) hHeld ?_ ?_
    rotate_left
    · rintro w' ⟨s0, s1, s2, s3⟩
      go_simp
      with_reducible rfl
    rotate_left
    · simp only [Act.put, List.setIfInBounds_toArray, List.set_cons_zero, List.set_cons_succ, i64_w, i32_w]
      rfl
    refine one_ (i := 8) (N := some 22) #[true, true, true, true, true, true, true, true, true, false, false, false, false, false] rfl rfl (by kernel_rfl) (by decide) (fun K hK => ?_)
    refine goes_ Try.func48 (by kernel_rfl) rfl #[.slice Ap p.length cp, .int .i64 lvl, .agg #[.slice A0 lo.length c0, .slice A1 hi.length c1]] (by rfl) rfl rfl (by (try simp only [List.map_toArray, List.map_cons, List.map_nil]); rfl) ?_
    refine (mask_Whole.calls k Ap cp p lvl A0 c0 lo A1 c1 hi tw te _ (Kd.V_reads' HS.out.pt).2.2 (Kd.V_reads' HS.out.pt).2.1 (Kd.C_below HR0.out HS.out.below) HC0.out (Kd.C_below HR1.out HS.out.below) HC1.out HT.out).mono ?_
    rintro e w3 ⟨rfl, hb⟩
    have n0_ := Aside0.mk (HS.out.mv hb)
    have n1_ := Aside0.mk (blk_below BKC.out hb)
    clear HS BKC hb
    have HS := n0_
    have BKC := n1_
    clear n0_ n1_
    refine ⟨_, rfl, hK.out _ _ ⟨(blk_cell BKC.out 0).trans rfl, (blk_cell BKC.out 1).trans rfl, (blk_cell HS.out.blk 0).trans rfl, (blk_cell HS.out.blk 1).trans rfl⟩ (fun hHeld => ?_)⟩
    clear hK K
    refine norm_ (a' := ?_) ?_ ?_
    rotate_left
    · show Act.put _ (some 22) _ = _
      simp only [Act.put, List.setIfInBounds_toArray, List.set_cons_zero, List.set_cons_succ, i64_w, i32_w]
      rfl
    refine pure_ (i := 9) (N := some 13) (v := ?_) (a' := ?_) #[true, true, true, true, true, true, true, true, true, true, false, false, false, false] rfl rfl (by kernel_rfl) (fun _ _ _ h => h) (Or.inl ⟨by rfl, ?_⟩) ?_ ?_
    rotate_left
    · intro w'
      go_simp
      with_reducible rfl
    rotate_left
    · simp only [Act.put, List.setIfInBounds_toArray, List.set_cons_zero, List.set_cons_succ, i64_w, i32_w]
      rfl
    refine pure_ (i := 10) (N := some 23) (v := ?_) (a' := ?_) #[true, true, true, true, true, true, true, true, true, true, true, false, false, false] rfl rfl (by kernel_rfl) (fun _ _ _ h => h) (Or.inl ⟨by rfl, ?_⟩) ?_ ?_
    rotate_left
    · intro w'
      go_simp
      with_reducible rfl
    rotate_left
    · simp only [Act.put, List.setIfInBounds_toArray, List.set_cons_zero, List.set_cons_succ, i64_w, i32_w]
      rfl
    refine pure_ (i := 11) (N := some 24) (v := ?_) (a' := ?_) #[true, true, true, true, true, true, true, true, true, true, true, true, false, false] rfl rfl (by kernel_rfl) (fun _ _ _ h => h) (Or.inl ⟨by rfl, ?_⟩) ?_ ?_
    rotate_left
    · intro w'
      go_simp
      with_reducible rfl
    rotate_left
    · simp only [Act.put, List.setIfInBounds_toArray, List.set_cons_zero, List.set_cons_succ, i64_w, i32_w]
      rfl
    refine pure_ (i := 12) (N := some 5) (v := ?_) (a' := ?_) #[true, true, true, true, true, true, true, true, true, true, true, true, true, false] rfl rfl (by kernel_rfl) (fun _ _ _ h => h) (Or.inl ⟨by rfl, ?_⟩) ?_ ?_
    rotate_left
    · intro w'
      go_simp
      with_reducible rfl
    rotate_left
    · simp only [Act.put, List.setIfInBounds_toArray, List.set_cons_zero, List.set_cons_succ, i64_w, i32_w]
      rfl
    refine pure_ (i := 13) (N := some 6) (v := ?_) (a' := ?_) #[true, true, true, true, true, true, true, true, true, true, true, true, true, true] rfl rfl (by kernel_rfl) (fun _ _ _ h => h) (Or.inl ⟨by rfl, ?_⟩) ?_ ?_
    rotate_left
    · intro w'
      go_simp
      with_reducible rfl
    rotate_left
    · simp only [Act.put, List.setIfInBounds_toArray, List.set_cons_zero, List.set_cons_succ, i64_w, i32_w]
      rfl
    refine done_ (by kernel_rfl) ?_
    cases tw with
    | true =>
      have H := H.out
      rw [if_pos rfl] at H
      by_cases hl : out.length < 1099511627776
      · rw [if_pos hl] at H
        simp only [Option.some.injEq, Prod.mk.injEq] at H
        obtain ⟨hrb, rfl⟩ := H
        have HL := Aside0.mk hl
        have HRB := Aside0.mk hrb
        clear hl hrb
        go_wp2
        refine start_ (n := 11) (S := fun w' => w'.cell? ⟨gs, 3, none⟩ = some vo ∧ w'.cell? ⟨gc, 0, none⟩ = some (.slice Ap p.length cp) ∧ w'.cell? ⟨gc, 1, none⟩ = some (.int .i64 lvl)) (ds := [10]) #[false, false, false, false, false, false, false, false, false, false, false] (by kernel_rfl) rfl rfl ⟨(blk_cell HS.out.blk 3).trans rfl, (blk_cell BKC.out 0).trans rfl, (blk_cell BKC.out 1).trans rfl⟩ (fun hHeld => ?_)
        have n0_ := Aside0.mk HS.out.drew
        have n1_ := Aside0.mk (blk_drew BKC.out)
        clear HS BKC
        generalize w3.drew = w4 at n0_ n1_ hHeld ⊢
        have HS := n0_
        have BKC := n1_
        clear n0_ n1_
        refine pure_ (i := 0) (N := some 26) (v := ?_) (a' := ?_) #[true, false, false, false, false, false, false, false, false, false, false] rfl rfl (by kernel_rfl) (fun _ _ _ h => h) (Or.inl ⟨by rfl, ?_⟩) ?_ ?_
        rotate_left
        · intro w'
          go_simp
          with_reducible rfl
        rotate_left
        · simp only [Act.put, List.setIfInBounds_toArray, List.set_cons_zero, List.set_cons_succ, i64_w, i32_w]
          rfl
        refine pure_ (i := 1) (N := some 27) (v := ?_) (a' := ?_) #[true, true, false, false, false, false, false, false, false, false, false] rfl rfl (by kernel_rfl) (fun _ _ _ h => h) (Or.inl ⟨by rfl, ?_⟩) ?_ ?_
        rotate_left
        · intro w'
          go_simp
          with_reducible rfl
        rotate_left
        · simp only [Act.put, List.setIfInBounds_toArray, List.set_cons_zero, List.set_cons_succ, i64_w, i32_w]
          rfl
        refine pure_ (i := 2) (N := some 28) (v := ?_) (a' := ?_) #[true, true, true, false, false, false, false, false, false, false, false] rfl rfl (by kernel_rfl) (fun _ _ _ h => h) (Or.inl ⟨by rfl, ?_⟩) ?_ ?_
        rotate_left
        · intro w'
          go_simp
          with_reducible rfl
        rotate_left
        · simp only [Act.put, List.setIfInBounds_toArray, List.set_cons_zero, List.set_cons_succ, i64_w, i32_w]
          rfl
        refine pure_ (i := 3) (N := some 29) (v := ?_) (a' := ?_) #[true, true, true, true, false, false, false, false, false, false, false] rfl rfl (by kernel_rfl) (fun _ _ _ h => h) (Or.inl ⟨by rfl, ?_⟩) ?_ ?_
        rotate_left
        · intro w'
          go_simp
          with_reducible rfl
        rotate_left
        · simp only [Act.put, List.setIfInBounds_toArray, List.set_cons_zero, List.set_cons_succ, i64_w, i32_w]
          rfl
        refine take_ (i := 4) (N := some 30) (v := ?_) (a' := ?_) #[true, true, true, true, true, false, false, false, false, false, false] rfl rfl (by kernel_rfl) (fun _ _ _ h => h) (Or.inl ⟨by rfl, ?_⟩) hHeld ?_ ?_
        rotate_left
        · rintro w' ⟨s0, s1, s2⟩
          go_simp
          with_reducible rfl
        rotate_left
        · simp only [Act.put, List.setIfInBounds_toArray, List.set_cons_zero, List.set_cons_succ, i64_w, i32_w]
          rfl
        refine take_ (i := 5) (N := some 31) (v := ?_) (a' := ?_) #[true, true, true, true, true, true, false, false, false, false, false] rfl rfl (by kernel_rfl) (fun _ _ _ h => h) (Or.inl ⟨by rfl, ?_⟩) hHeld ?_ ?_
        rotate_left
        · rintro w' ⟨s0, s1, s2⟩
          go_simp
          with_reducible rfl
        rotate_left
        · simp only [Act.put, List.setIfInBounds_toArray, List.set_cons_zero, List.set_cons_succ, i64_w, i32_w]
          rfl
        refine one_ (i := 6) (N := some 32) #[true, true, true, true, true, true, true, false, false, false, false] rfl rfl (by kernel_rfl) (by decide) (fun K hK => ?_)
        refine event_step (v := .slice (some ⟨w4.heap.size, 0, none⟩) 1 1) (w1 := w4.alloc (.cells #[.slice Ap p.length cp, .int .i64 lvl] 89 (0, 0))) (by rfl) ?_ ?_
        · go_simp
        refine hK.out _ _ ⟨(blk_cell (blk_alloc HS.out.blk _) 3).trans rfl, (blk_cell (blk_alloc BKC.out _) 0).trans rfl, (blk_cell (blk_alloc BKC.out _) 1).trans rfl⟩ (fun hHeld => ?_)
        clear hK K
        refine norm_ (a' := ?_) ?_ ?_
        rotate_left
        · show Act.put _ (some 32) _ = _
          simp only [Act.put, List.setIfInBounds_toArray, List.set_cons_zero, List.set_cons_succ, i64_w, i32_w]
          rfl
        refine one_ (i := 7) (N := some 33) #[true, true, true, true, true, true, true, true, false, false, false] rfl rfl (by kernel_rfl) (by decide) (fun K hK => ?_)
        refine Kd.N_append_step k89 (w0 := W0) W0.heap.size (by rfl) (.tmp 30) (.tmp 32) 85 89 (.agg #[(.slice none 0 0), (.int .i64 0)]) 32 rfl Try.underlying85 info89_ rfl (by decide) (by omega) vo out ⟨p, lvl⟩ [.slice Ap p.length cp, .int .i64 lvl] _ _ rfl rfl ?aP (fun _ hk => hk) ?aF HS.out.rows HS.out.below HS.out.below.size ?aL ?_
        (case aP => exact k89_mkF _ _ ⟨p, lvl⟩ (Kd.V_reads' HS.out.pt).2.1 (Kd.V_F (Kd.V_mono HS.out.pt (fun _ hk => ⟨⟨hk.1, hk.2.1⟩, hk.2.2⟩))))
        (case aF => exact fun k_ hk => ⟨⟨HS.out.fresh k_ (Nat.le_trans HS.out.kept.1 hk), fun hl => by have := (HS.out.loc k_ hl).2; omega⟩, by have := blk_lt HS.out.blk; omega⟩)
        (case aL => have := HL.out; omega)
        intro v1 w5 ho hb hg hat
        obtain ⟨Av, cv, rfl⟩ := Kd.N_slice ho
        have n0_ := Aside0.mk ho
        have n1_ := Aside0.mk hb
        have n2_ := Aside0.mk hg
        have n3_ := Aside0.mk hat
        have n4_ := Aside0.mk (blk_grown HS.out.blk hg (fun e => (HS.out.rows.1 gs e.symm).2 rfl))
        have n5_ := Aside0.mk (blk_grown BKC.out hg (HS.out.neOwn (.inr rfl)))
        clear ho hb hg hat
        refine hK.out _ _ ⟨(blk_cell n4_.out 3).trans rfl, (blk_cell n5_.out 0).trans rfl, (blk_cell n5_.out 1).trans rfl⟩ (fun hHeld => ?_)
        clear hK K
        refine norm_ (a' := ?_) ?_ ?_
        rotate_left
        · show Act.put _ (some 33) _ = _
          simp only [Act.put, List.setIfInBounds_toArray, List.set_cons_zero, List.set_cons_succ, i64_w, i32_w]
          rfl
        refine pure_ (i := 8) (N := some 34) (v := ?_) (a' := ?_) #[true, true, true, true, true, true, true, true, true, false, false] rfl rfl (by kernel_rfl) (fun _ _ _ h => h) (Or.inl ⟨by rfl, ?_⟩) ?_ ?_
        rotate_left
        · intro w'
          go_simp
          with_reducible rfl
        rotate_left
        · simp only [Act.put, List.setIfInBounds_toArray, List.set_cons_zero, List.set_cons_succ, i64_w, i32_w]
          rfl
        refine pure_ (i := 9) (N := some 35) (v := ?_) (a' := ?_) #[true, true, true, true, true, true, true, true, true, true, false] rfl rfl (by kernel_rfl) (fun _ _ _ h => h) (Or.inl ⟨by rfl, ?_⟩) ?_ ?_
        rotate_left
        · intro w'
          go_simp
          with_reducible rfl
        rotate_left
        · simp only [Act.put, List.setIfInBounds_toArray, List.set_cons_zero, List.set_cons_succ, i64_w, i32_w]
          rfl
        refine last_ (i := 10) (N := none) #[true, true, true, true, true, true, true, true, true, true, true] rfl rfl (by kernel_rfl) (by decide) (fun K hK => ?_)
        have hcz := (blk_cell n4_.out 3).trans rfl
        have hfz := blk_frozen n4_.out 3
        refine skip_ (w1 := w5.setCell ⟨gs, 3, none⟩ (.slice Av (out ++ [(⟨p, lvl⟩ : S89)]).length cv)) (by rfl) rfl ?_ ?_
        · go_simp
        refine hK.out _ _ ?_
        clear hK K
        refine done_ (by kernel_rfl) ?_
        have m0_ := Aside0.mk (blk_put n4_.out 3 (.slice Av (out ++ [(⟨p, lvl⟩ : S89)]).length cv) rfl)
        have m1_ := Aside0.mk (Kd.N_far (p := ⟨gs, 3, none⟩) n0_.out (fun k_ hk => hk.2) (.slice Av (out ++ [(⟨p, lvl⟩ : S89)]).length cv))
        have m2_ := Aside0.mk (n1_.out.setCell (p := ⟨gs, 3, none⟩) HS.out.ge (.slice Av (out ++ [(⟨p, lvl⟩ : S89)]).length cv))
        have m3_ := Aside0.mk ((Kept.of_grown n2_.out HS.out.kept (fun k_ hk => .inl (.inr hk.symm))).setCell (p := ⟨gs, 3, none⟩) (.inl (.inl rfl)) (.slice Av (out ++ [(⟨p, lvl⟩ : S89)]).length cv))
        have m4_ : Aside0 ((Value.slice Av (out ++ [(⟨p, lvl⟩ : S89)]).length cv).ownBlock = vo.ownBlock ∨ ∃ b, (Value.slice Av (out ++ [(⟨p, lvl⟩ : S89)]).length cv).ownBlock = some b ∧ w.heap.size ≤ b) := ⟨n3_.out.elim .inl (fun ⟨b, e, hb⟩ => .inr ⟨b, e, Nat.le_trans HS.out.kept.1 hb⟩)⟩
        clear hHeld
        generalize w5.setCell ⟨gs, 3, none⟩ (.slice Av (out ++ [(⟨p, lvl⟩ : S89)]).length cv) = w6 at m0_ m1_ m2_ m3_ ⊢
        go_wp2
        refine start_ (n := 11) (S := fun w' => w'.cell? ⟨gs, 3, none⟩ = some (.slice Av (out ++ [(⟨p, lvl⟩ : S89)]).length cv) ∧ w'.cell? ⟨gs, 2, none⟩ = some (.int .i64 most)) (ds := []) #[false, false, false, false, false, false, false, false, false, false, false] (by kernel_rfl) rfl rfl ⟨(blk_cell m0_.out 3).trans rfl, (blk_cell m0_.out 2).trans rfl⟩ (fun hHeld => ?_)
        refine pure_ (i := 0) (N := some 36) (v := ?_) (a' := ?_) #[true, false, false, false, false, false, false, false, false, false, false] rfl rfl (by kernel_rfl) (fun _ _ _ h => h) (Or.inl ⟨by rfl, ?_⟩) ?_ ?_
        rotate_left
        · intro w'
          go_simp
          with_reducible rfl
        rotate_left
        · simp only [Act.put, List.setIfInBounds_toArray, List.set_cons_zero, List.set_cons_succ, i64_w, i32_w]
          rfl
        refine pure_ (i := 1) (N := some 37) (v := ?_) (a' := ?_) #[true, true, false, false, false, false, false, false, false, false, false] rfl rfl (by kernel_rfl) (fun _ _ _ h => h) (Or.inl ⟨by rfl, ?_⟩) ?_ ?_
        rotate_left
        · intro w'
          go_simp
          with_reducible rfl
        rotate_left
        · simp only [Act.put, List.setIfInBounds_toArray, List.set_cons_zero, List.set_cons_succ, i64_w, i32_w]
          rfl
        refine pure_ (i := 2) (N := some 38) (v := ?_) (a' := ?_) #[true, true, true, false, false, false, false, false, false, false, false] rfl rfl (by kernel_rfl) (fun _ _ _ h => h) (Or.inl ⟨by rfl, ?_⟩) ?_ ?_
        rotate_left
        · intro w'
          go_simp
          with_reducible rfl
        rotate_left
        · simp only [Act.put, List.setIfInBounds_toArray, List.set_cons_zero, List.set_cons_succ, i64_w, i32_w]
          rfl
        refine pure_ (i := 5) (N := some 41) (v := ?_) (a' := ?_) #[true, true, true, false, false, true, false, false, false, false, false] rfl rfl (by kernel_rfl) (fun _ _ _ h => h) (Or.inl ⟨by rfl, ?_⟩) ?_ ?_
        rotate_left
        · intro w'
          go_simp
          with_reducible rfl
        rotate_left
        · simp only [Act.put, List.setIfInBounds_toArray, List.set_cons_zero, List.set_cons_succ, i64_w, i32_w]
          rfl
        refine pure_ (i := 6) (N := some 42) (v := ?_) (a' := ?_) #[true, true, true, false, false, true, true, false, false, false, false] rfl rfl (by kernel_rfl) (fun _ _ _ h => h) (Or.inl ⟨by rfl, ?_⟩) ?_ ?_
        rotate_left
        · intro w'
          go_simp
          with_reducible rfl
        rotate_left
        · simp only [Act.put, List.setIfInBounds_toArray, List.set_cons_zero, List.set_cons_succ, i64_w, i32_w]
          rfl
        refine pure_ (i := 7) (N := some 43) (v := ?_) (a' := ?_) #[true, true, true, false, false, true, true, true, false, false, false] rfl rfl (by kernel_rfl) (fun _ _ _ h => h) (Or.inl ⟨by rfl, ?_⟩) ?_ ?_
        rotate_left
        · intro w'
          go_simp
          with_reducible rfl
        rotate_left
        · simp only [Act.put, List.setIfInBounds_toArray, List.set_cons_zero, List.set_cons_succ, i64_w, i32_w]
          rfl
        refine take_ (i := 3) (N := some 39) (v := ?_) (a' := ?_) #[true, true, true, true, false, true, true, true, false, false, false] rfl rfl (by kernel_rfl) (fun _ _ _ h => h) (Or.inl ⟨by rfl, ?_⟩) hHeld ?_ ?_
        rotate_left
        · rintro w' ⟨s0, s1⟩
          go_simp
          with_reducible rfl
        rotate_left
        · simp only [Act.put, List.setIfInBounds_toArray, List.set_cons_zero, List.set_cons_succ, i64_w, i32_w]
          rfl
        refine take_ (i := 8) (N := some 44) (v := ?_) (a' := ?_) #[true, true, true, true, false, true, true, true, true, false, false] rfl rfl (by kernel_rfl) (fun _ _ _ h => h) (Or.inl ⟨by rfl, ?_⟩) hHeld ?_ ?_
        rotate_left
        · rintro w' ⟨s0, s1⟩
          go_simp
          with_reducible rfl
        rotate_left
        · simp only [Act.put, List.setIfInBounds_toArray, List.set_cons_zero, List.set_cons_succ, i64_w, i32_w]
          rfl
        refine pure_ (i := 4) (N := some 40) (v := ?_) (a' := ?_) #[true, true, true, true, true, true, true, true, true, false, false] rfl rfl (by kernel_rfl) (fun _ _ _ h => h) (Or.inl ⟨by rfl, ?_⟩) ?_ ?_
        rotate_left
        · intro w'
          go_simp
          with_reducible rfl
        rotate_left
        · simp only [Act.put, List.setIfInBounds_toArray, List.set_cons_zero, List.set_cons_succ, i64_w, i32_w]
          rfl
        refine pure_ (i := 9) (N := some 45) (v := ?_) (a' := ?_) #[true, true, true, true, true, true, true, true, true, true, false] rfl rfl (by kernel_rfl) (fun _ _ _ h => h) (Or.inl ⟨by rfl, ?_⟩) ?_ ?_
        rotate_left
        · intro w'
          go_simp
          with_reducible rfl
        rotate_left
        · simp only [Act.put, List.setIfInBounds_toArray, List.set_cons_zero, List.set_cons_succ, i64_w, i32_w]
          rfl
        refine pure_ (i := 10) (N := some 4) (v := ?_) (a' := ?_) #[true, true, true, true, true, true, true, true, true, true, true] rfl rfl (by kernel_rfl) (fun _ _ _ h => h) (Or.inl ⟨by rfl, ?_⟩) ?_ ?_
        rotate_left
        · intro w'
          go_simp
          with_reducible rfl
        rotate_left
        · simp only [Act.put, List.setIfInBounds_toArray, List.set_cons_zero, List.set_cons_succ, i64_w, i32_w]
          rfl
        refine done_ (by kernel_rfl) ?_
        go_wp2
        simp only [Exit.jump]
        go_ret
        refine ⟨_, ?_, blk_drew m0_.out, Kd.N_drew (Kd.N_mono m1_.out (fun _ hk => ⟨hk.1.1, hk.2⟩)), below_drew1 m2_.out, m3_.out.drew, m4_.out⟩
        rw [← HRB.out]
        simp
      · rw [if_neg hl] at H
        exact absurd H (by simp)
    | false =>
      have H0 := H.out
      rw [if_neg (by simp)] at H0
      clear H
      obtain ⟨⟨m0, m1, m2, me⟩, hm, H1⟩ := Option.bind_eq_some_iff.mp H0
      obtain ⟨⟨at0, ok0⟩, ha, H2⟩ := Option.bind_eq_some_iff.mp H1
      have HM := Aside0.mk hm
      have HA := Aside0.mk ha
      have H := Aside0.mk H2
      clear hm ha H0 H1 H2
      go_wp2
      refine start_ (n := 15) (S := fun w' => w'.cell? ⟨gc, 0, none⟩ = some (.slice Ap p.length cp) ∧ w'.cell? ⟨gc, 1, none⟩ = some (.int .i64 lvl) ∧ w'.cell? ⟨gs, 0, none⟩ = some (.slice A0 lo.length c0) ∧ w'.cell? ⟨gs, 1, none⟩ = some (.slice A1 hi.length c1)) (ds := []) #[false, false, false, false, false, false, false, false, false, false, false, false, false, false, false] (by kernel_rfl) rfl rfl ⟨(blk_cell BKC.out 0).trans rfl, (blk_cell BKC.out 1).trans rfl, (blk_cell HS.out.blk 0).trans rfl, (blk_cell HS.out.blk 1).trans rfl⟩ (fun hHeld => ?_)
      have n0_ := Aside0.mk HS.out.drew
      have n1_ := Aside0.mk (blk_drew BKC.out)
      clear HS BKC
      generalize w3.drew = w4 at n0_ n1_ hHeld ⊢
      have HS := n0_
      have BKC := n1_
      clear n0_ n1_
      refine pure_ (i := 0) (N := some 47) (v := ?_) (a' := ?_) #[true, false, false, false, false, false, false, false, false, false, false, false, false, false, false] rfl rfl (by kernel_rfl) (fun _ _ _ h => h) (Or.inl ⟨by rfl, ?_⟩) ?_ ?_
      rotate_left
      · intro w'
        go_simp
        with_reducible rfl
      rotate_left
      · simp only [Act.put, List.setIfInBounds_toArray, List.set_cons_zero, List.set_cons_succ, i64_w, i32_w]
        rfl
      refine pure_ (i := 2) (N := some 49) (v := ?_) (a' := ?_) #[true, false, true, false, false, false, false, false, false, false, false, false, false, false, false] rfl rfl (by kernel_rfl) (fun _ _ _ h => h) (Or.inl ⟨by rfl, ?_⟩) ?_ ?_
      rotate_left
      · intro w'
        go_simp
        with_reducible rfl
      rotate_left
      · simp only [Act.put, List.setIfInBounds_toArray, List.set_cons_zero, List.set_cons_succ, i64_w, i32_w]
        rfl
      refine pure_ (i := 4) (N := some 51) (v := ?_) (a' := ?_) #[true, false, true, false, true, false, false, false, false, false, false, false, false, false, false] rfl rfl (by kernel_rfl) (fun _ _ _ h => h) (Or.inl ⟨by rfl, ?_⟩) ?_ ?_
      rotate_left
      · intro w'
        go_simp
        with_reducible rfl
      rotate_left
      · simp only [Act.put, List.setIfInBounds_toArray, List.set_cons_zero, List.set_cons_succ, i64_w, i32_w]
        rfl
      refine pure_ (i := 5) (N := some 52) (v := ?_) (a' := ?_) #[true, false, true, false, true, true, false, false, false, false, false, false, false, false, false] rfl rfl (by kernel_rfl) (fun _ _ _ h => h) (Or.inl ⟨by rfl, ?_⟩) ?_ ?_
      rotate_left
      · intro w'
        go_simp
        with_reducible rfl
      rotate_left
      · simp only [Act.put, List.setIfInBounds_toArray, List.set_cons_zero, List.set_cons_succ, i64_w, i32_w]
        rfl
      refine pure_ (i := 6) (N := some 53) (v := ?_) (a' := ?_) #[true, false, true, false, true, true, true, false, false, false, false, false, false, false, false] rfl rfl (by kernel_rfl) (fun _ _ _ h => h) (Or.inl ⟨by rfl, ?_⟩) ?_ ?_
      rotate_left
      · intro w'
        go_simp
        with_reducible rfl
      rotate_left
      · simp only [Act.put, List.setIfInBounds_toArray, List.set_cons_zero, List.set_cons_succ, i64_w, i32_w]
        rfl
      refine take_ (i := 1) (N := some 48) (v := ?_) (a' := ?_) #[true, true, true, false, true, true, true, false, false, false, false, false, false, false, false] rfl rfl (by kernel_rfl) (fun _ _ _ h => h) (Or.inl ⟨by rfl, ?_⟩) hHeld ?_ ?_
      rotate_left
      · rintro w' ⟨s0, s1, s2, s3⟩
        go_simp
        with_reducible rfl
      rotate_left
      · simp only [Act.put, List.setIfInBounds_toArray, List.set_cons_zero, List.set_cons_succ, i64_w, i32_w]
        rfl
      refine take_ (i := 3) (N := some 50) (v := ?_) (a' := ?_) #[true, true, true, true, true, true, true, false, false, false, false, false, false, false, false] rfl rfl (by kernel_rfl) (fun _ _ _ h => h) (Or.inl ⟨by rfl, ?_⟩) hHeld ?_ ?_
      rotate_left
      · rintro w' ⟨s0, s1, s2, s3⟩
        go_simp
        with_reducible rfl
      rotate_left
      · simp only [Act.put, List.setIfInBounds_toArray, List.set_cons_zero, List.set_cons_succ, i64_w, i32_w]
        rfl
      refine take_ (i := 7) (N := some 54) (v := ?_) (a' := ?_) #[true, true, true, true, true, true, true, true, false, false, false, false, false, false, false] rfl rfl (by kernel_rfl) (fun _ _ _ h => h) (Or.inl ⟨by rfl, ?_⟩) hHeld ?_ ?_
      rotate_left
      · rintro w' ⟨s0, s1, s2, s3⟩
        go_simp
        with_reducible rfl
      rotate_left
      · simp only [Act.put, List.setIfInBounds_toArray, List.set_cons_zero, List.set_cons_succ, i64_w, i32_w]
        rfl
      refine join_ (σ := Nat) 2 #[true, true, true, true, true, true, true, true, true, true, true, true, true, false, false] (fun gm => [(55, .tuple #[.agg #[.int .i64 m0, .int .i64 m1, .int .i64 m2], .int .i64 me]), (46, .tuple #[.agg #[.int .i64 m0, .int .i64 m1, .int .i64 m2], .int .i64 me]), (56, .agg #[.int .i64 m0, .int .i64 m1, .int .i64 m2]), (57, .int .i64 me), (7, .pointer (some ⟨gm, 0, none⟩))]) (fun gm w' => cover_splitter_split.St W0 w gs (fun v_ => #[.slice A0 lo.length c0, .slice A1 hi.length c1, .int .i64 most, v_]) vo ok Ap cp p (fun k_ => (False ∨ k_ = gc) ∨ k_ = gm) w' vo out ∧ w'.heap[gc]? = some (.cells #[.slice Ap p.length cp, .int .i64 lvl] 89 (0, 0)) ∧ w'.heap[gm]? = some (.cells #[.int .i64 0, .int .i64 0, .int .i64 0] 52 (0, 0))) ?_ (fun hj => ?_)
      rotate_left
      · refine two_ (i := 8) (j := 12) (Ni := some 55) (Nj := some 7) #[true, true, true, true, true, true, true, true, true, false, false, false, false, false, false] #[true, true, true, true, true, true, true, true, false, false, false, false, true, false, false] rfl rfl rfl rfl (by kernel_rfl) (by decide) (by decide) (fun K hK => ?_) (fun K hK => ?_)
        · refine goes_ Try.func38 (by kernel_rfl) rfl #[.slice Ap p.length cp, .int .i64 lvl, .agg #[.slice A0 lo.length c0, .slice A1 hi.length c1]] (by rfl) rfl rfl (by (try simp only [List.map_toArray, List.map_cons, List.map_nil]); rfl) ?_
          refine (mask_Of.calls k Ap cp p lvl A0 c0 lo A1 c1 hi m0 m1 m2 me _ (Kd.V_reads' HS.out.pt).2.2 (Kd.V_reads' HS.out.pt).2.1 (Kd.C_below HR0.out HS.out.below) HC0.out (Kd.C_below HR1.out HS.out.below) HC1.out HM.out).mono ?_
          rintro e w5 ⟨rfl, hb⟩
          have n0_ := Aside0.mk (HS.out.mv hb)
          have n1_ := Aside0.mk (blk_below BKC.out hb)
          clear HS BKC hb
          have HS := n0_
          have BKC := n1_
          clear n0_ n1_
          refine ⟨_, rfl, hK.out _ _ ⟨(blk_cell BKC.out 0).trans rfl, (blk_cell BKC.out 1).trans rfl, (blk_cell HS.out.blk 0).trans rfl, (blk_cell HS.out.blk 1).trans rfl⟩ (fun hHeld => ?_)⟩
          clear hK K
          refine norm_ (a' := ?_) ?_ ?_
          rotate_left
          · show Act.put _ (some 55) _ = _
            simp only [Act.put, List.setIfInBounds_toArray, List.set_cons_zero, List.set_cons_succ, i64_w, i32_w]
            rfl
          refine pure_ (i := 9) (N := some 46) (v := ?_) (a' := ?_) #[true, true, true, true, true, true, true, true, true, true, false, false, false, false, false] rfl rfl (by kernel_rfl) (fun _ _ _ h => h) (Or.inl ⟨by rfl, ?_⟩) ?_ ?_
          rotate_left
          · intro w'
            go_simp
            with_reducible rfl
          rotate_left
          · simp only [Act.put, List.setIfInBounds_toArray, List.set_cons_zero, List.set_cons_succ, i64_w, i32_w]
            rfl
          refine pure_ (i := 10) (N := some 56) (v := ?_) (a' := ?_) #[true, true, true, true, true, true, true, true, true, true, true, false, false, false, false] rfl rfl (by kernel_rfl) (fun _ _ _ h => h) (Or.inl ⟨by rfl, ?_⟩) ?_ ?_
          rotate_left
          · intro w'
            go_simp
            with_reducible rfl
          rotate_left
          · simp only [Act.put, List.setIfInBounds_toArray, List.set_cons_zero, List.set_cons_succ, i64_w, i32_w]
            rfl
          refine pure_ (i := 11) (N := some 57) (v := ?_) (a' := ?_) #[true, true, true, true, true, true, true, true, true, true, true, true, false, false, false] rfl rfl (by kernel_rfl) (fun _ _ _ h => h) (Or.inl ⟨by rfl, ?_⟩) ?_ ?_
          rotate_left
          · intro w'
            go_simp
            with_reducible rfl
          rotate_left
          · simp only [Act.put, List.setIfInBounds_toArray, List.set_cons_zero, List.set_cons_succ, i64_w, i32_w]
            rfl
          refine one_ (i := 12) (N := some 7) #[true, true, true, true, true, true, true, true, true, true, true, true, true, false, false] rfl rfl (by kernel_rfl) (by decide) (fun K hK => ?_)
          refine box_step (by rfl) (N := 7) rfl (cs := #[.int .i64 0, .int .i64 0, .int .i64 0]) (t := 52) ?hr ?_
          case hr => first | (go_simp; done) | (go_simp; rfl)
          intro gm hg w6 hbox hb
          have n0_ := Aside0.mk (HS.out.own (g := gm) (by omega) hb (blk_lt hbox))
          have n1_ := Aside0.mk (blk_below BKC.out hb)
          have n2_ := Aside0.mk hbox
          clear HS BKC hb hbox
          have HS := n0_
          have BKC := n1_
          clear n0_ n1_
          refine hK.out _ _ ⟨(blk_cell BKC.out 0).trans rfl, (blk_cell BKC.out 1).trans rfl, (blk_cell HS.out.blk 0).trans rfl, (blk_cell HS.out.blk 1).trans rfl⟩ (fun hHeld => ?_)
          clear hK K
          refine norm_ ?_ (hj gm w6 ⟨HS.out, BKC.out, n2_.out⟩)
          show Act.put _ (some 7) _ = _
          simp only [putAll, Act.put, List.setIfInBounds_toArray, List.set_cons_zero, List.set_cons_succ]
        · refine box_step (by rfl) (N := 7) rfl (cs := #[.int .i64 0, .int .i64 0, .int .i64 0]) (t := 52) ?hr ?_
          case hr => first | (go_simp; done) | (go_simp; rfl)
          intro gm hg w5 hbox hb
          have n0_ := Aside0.mk (HS.out.own (g := gm) (by omega) hb (blk_lt hbox))
          have n1_ := Aside0.mk (blk_below BKC.out hb)
          have n2_ := Aside0.mk hbox
          clear HS BKC hb hbox
          have HS := n0_
          have BKC := n1_
          clear n0_ n1_
          refine hK.out _ _ ⟨(blk_cell BKC.out 0).trans rfl, (blk_cell BKC.out 1).trans rfl, (blk_cell HS.out.blk 0).trans rfl, (blk_cell HS.out.blk 1).trans rfl⟩ (fun hHeld => ?_)
          clear hK K
          refine norm_ (a' := ?_) ?_ ?_
          rotate_left
          · show Act.put _ (some 7) _ = _
            simp only [Act.put, List.setIfInBounds_toArray, List.set_cons_zero, List.set_cons_succ, i64_w, i32_w]
            rfl
          refine one_ (i := 8) (N := some 55) #[true, true, true, true, true, true, true, true, true, false, false, false, true, false, false] rfl rfl (by kernel_rfl) (by decide) (fun K hK => ?_)
          refine goes_ Try.func38 (by kernel_rfl) rfl #[.slice Ap p.length cp, .int .i64 lvl, .agg #[.slice A0 lo.length c0, .slice A1 hi.length c1]] (by rfl) rfl rfl (by (try simp only [List.map_toArray, List.map_cons, List.map_nil]); rfl) ?_
          refine (mask_Of.calls k Ap cp p lvl A0 c0 lo A1 c1 hi m0 m1 m2 me _ (Kd.V_reads' HS.out.pt).2.2 (Kd.V_reads' HS.out.pt).2.1 (Kd.C_below HR0.out HS.out.below) HC0.out (Kd.C_below HR1.out HS.out.below) HC1.out HM.out).mono ?_
          rintro e w6 ⟨rfl, hb⟩
          have n0_ := Aside0.mk (HS.out.mv hb)
          have n1_ := Aside0.mk (blk_below BKC.out hb)
          have n3_ := Aside0.mk (blk_below n2_.out hb)
          clear HS BKC hb
          have HS := n0_
          have BKC := n1_
          clear n0_ n1_
          refine ⟨_, rfl, hK.out _ _ ⟨(blk_cell BKC.out 0).trans rfl, (blk_cell BKC.out 1).trans rfl, (blk_cell HS.out.blk 0).trans rfl, (blk_cell HS.out.blk 1).trans rfl⟩ (fun hHeld => ?_)⟩
          clear hK K
          refine norm_ (a' := ?_) ?_ ?_
          rotate_left
          · show Act.put _ (some 55) _ = _
            simp only [Act.put, List.setIfInBounds_toArray, List.set_cons_zero, List.set_cons_succ, i64_w, i32_w]
            rfl
          refine pure_ (i := 9) (N := some 46) (v := ?_) (a' := ?_) #[true, true, true, true, true, true, true, true, true, true, false, false, true, false, false] rfl rfl (by kernel_rfl) (fun _ _ _ h => h) (Or.inl ⟨by rfl, ?_⟩) ?_ ?_
          rotate_left
          · intro w'
            go_simp
            with_reducible rfl
          rotate_left
          · simp only [Act.put, List.setIfInBounds_toArray, List.set_cons_zero, List.set_cons_succ, i64_w, i32_w]
            rfl
          refine pure_ (i := 10) (N := some 56) (v := ?_) (a' := ?_) #[true, true, true, true, true, true, true, true, true, true, true, false, true, false, false] rfl rfl (by kernel_rfl) (fun _ _ _ h => h) (Or.inl ⟨by rfl, ?_⟩) ?_ ?_
          rotate_left
          · intro w'
            go_simp
            with_reducible rfl
          rotate_left
          · simp only [Act.put, List.setIfInBounds_toArray, List.set_cons_zero, List.set_cons_succ, i64_w, i32_w]
            rfl
          refine pure_ (i := 11) (N := some 57) (v := ?_) (a' := ?_) #[true, true, true, true, true, true, true, true, true, true, true, true, true, false, false] rfl rfl (by kernel_rfl) (fun _ _ _ h => h) (Or.inl ⟨by rfl, ?_⟩) ?_ ?_
          rotate_left
          · intro w'
            go_simp
            with_reducible rfl
          rotate_left
          · simp only [Act.put, List.setIfInBounds_toArray, List.set_cons_zero, List.set_cons_succ, i64_w, i32_w]
            rfl
          refine norm_ ?_ (hj gm w6 ⟨HS.out, BKC.out, n3_.out⟩)
          simp only [putAll, Act.put, List.setIfInBounds_toArray, List.set_cons_zero, List.set_cons_succ]
      rintro gm w5 ⟨hs, hkc, hkm⟩
      have n0_ := Aside0.mk hs
      have n1_ := Aside0.mk hkc
      have BKM := Aside0.mk hkm
      clear HS BKC hs hkc hkm
      have HS := n0_
      have BKC := n1_
      clear n0_ n1_
      refine norm_ (a' := ?_) ?_ ?_
      rotate_left
      · simp only [putAll, Act.put, List.setIfInBounds_toArray, List.set_cons_zero, List.set_cons_succ]
        rfl
      refine one_ (i := 13) (N := none) #[true, true, true, true, true, true, true, true, true, true, true, true, true, true, false] rfl rfl (by kernel_rfl) (by decide) (fun K hK => ?_)
      have hcz0 := (blk_cell BKM.out 0).trans rfl
      have hcz1 := (blk_cell BKM.out 1).trans rfl
      have hcz2 := (blk_cell BKM.out 2).trans rfl
      have hfz0 := blk_frozen BKM.out 0
      have hfz1 := blk_frozen BKM.out 1
      have hfz2 := blk_frozen BKM.out 2
      refine skip_ (w1 := ((w5.setCell ⟨gm, 0, none⟩ (.int .i64 m0)).setCell ⟨gm, 1, none⟩ (.int .i64 m1)).setCell ⟨gm, 2, none⟩ (.int .i64 m2)) (by rfl) rfl ?_ ?_
      · go_simp
      have HS2 := Aside0.mk (((HS.out.set (g := gm) (.inr rfl) 0 (.int .i64 m0)).set (g := gm) (.inr rfl) 1 (.int .i64 m1)).set (g := gm) (.inr rfl) 2 (.int .i64 m2))
      have hcm : gc ≠ gm := fun e => by have := blk_lt BKC.out; rw [e, BKM.out] at BKC; exact absurd BKC.out (by simp)
      have BKC2 := Aside0.mk (blk_far (p := ⟨gm, 2, none⟩) (blk_far (p := ⟨gm, 1, none⟩) (blk_far (p := ⟨gm, 0, none⟩) BKC.out hcm (.int .i64 m0)) hcm (.int .i64 m1)) hcm (.int .i64 m2))
      have BKM2 := Aside0.mk (blk_put (blk_put (blk_put BKM.out 0 (.int .i64 m0) rfl) 1 (.int .i64 m1) rfl) 2 (.int .i64 m2) rfl)
      clear HS BKC BKM hcz0 hcz1 hcz2 hfz0 hfz1 hfz2 hcm
      generalize ((w5.setCell ⟨gm, 0, none⟩ (.int .i64 m0)).setCell ⟨gm, 1, none⟩ (.int .i64 m1)).setCell ⟨gm, 2, none⟩ (.int .i64 m2) = w6 at HS2 BKC2 BKM2 ⊢
      refine hK.out _ _ ⟨(blk_cell BKC2.out 0).trans rfl, (blk_cell BKC2.out 1).trans rfl, (blk_cell HS2.out.blk 0).trans rfl, (blk_cell HS2.out.blk 1).trans rfl⟩ (fun hHeld => ?_)
      clear hK K
      refine pure_ (i := 14) (N := some 8) (v := ?_) (a' := ?_) #[true, true, true, true, true, true, true, true, true, true, true, true, true, true, true] rfl rfl (by kernel_rfl) (fun _ _ _ h => h) (Or.inl ⟨by rfl, ?_⟩) ?_ ?_
      rotate_left
      · intro w'
        go_simp
        with_reducible rfl
      rotate_left
      · simp only [Act.put, List.setIfInBounds_toArray, List.set_cons_zero, List.set_cons_succ, i64_w, i32_w]
        rfl
      refine done_ (by kernel_rfl) ?_
      have hcz0 := (blk_cell BKM2.out 0).trans rfl
      have hcz1 := (blk_cell BKM2.out 1).trans rfl
      have hcz2 := (blk_cell BKM2.out 2).trans rfl
      go_wp2_with (go_at_call 56; refine (mask_Mask_First.calls m0 m1 m2 at0 ok0 _ HA.out).mono ?_; rintro e w7 ⟨rfl, hb⟩; have HS3 := Aside0.mk (HS2.out.mv hb); have BKC3 := Aside0.mk (blk_below BKC2.out hb); have BKM3 := Aside0.mk (blk_below BKM2.out hb); clear hb)
      go_step3
      rename_i hKK
      refine hKK _ _ (HKEY.out k _ _ ?_)
      exact ⟨gc, gm, m0, m1, m2, at0, ok0, vo, out, _, _, _, _, _, _, _, _, _, _, _, _, _, _, _, _, _, _, _, _, _, _, _, _, _, _, _, _, _, _, _, _, _, _, _, _, _, _, _, _, _, _, _, _, _, _, _, _, _, _, _, _, _, _, _, _, _, _, _, _, _, _, _, _, _, _, _, _, _, _, _, _, _, _, _, _, _, _, _, _, _, rfl, H, ⟨Nat.le_refl _⟩, HS3, BKC3, BKM3⟩
  · clear HS BKC H HT
    rintro kq a' w' ⟨gc, gm, m0, m1, m2, at_, ok_, v, out2, u2, u5, u6, u8, u11, u12, u13, u14, u15, u16, u17, u18, u19, u20, u21, u22, u23, u24, u25, u26, u27, u28, u29, u30, u31, u32, u33, u34, u35, u36, u37, u38, u39, u40, u41, u42, u43, u44, u45, u46, u47, u48, u49, u50, u51, u52, u53, u54, u55, u56, u57, u58, u59, u60, u61, u62, u63, u64, u65, u66, u67, u68, u69, u70, u71, u72, u73, u74, u75, u76, u77, u78, u79, u80, u81, u82, u83, u84, u85, u86, u87, rfl, HLO, HK, HS2, BKC2, BKM2⟩
    cases kq with
    | zero => exact absurd HLO.out (by simp [cover_splitter_split.l0])
    | succ kq =>
      have H := HLO.out
      clear HLO
      simp only [cover_splitter_split.l0] at H
      cases ok_ with
      | false =>
        rw [if_neg (by simp)] at H
        simp only [Option.some.injEq, Prod.mk.injEq] at H
        obtain ⟨rfl, rfl⟩ := H
        go_wp2
        simp only [Exit.jump]
        go_ret
        exact ⟨v, rfl, HS2.out.blk, Kd.N_mono HS2.out.rows (fun _ hk => ⟨hk.1.1, hk.2⟩), HS2.out.below, HS2.out.kept, HS2.out.at_⟩
      | true =>
        rw [if_pos rfl] at H
        obtain ⟨⟨q, qe⟩, hq, H⟩ := Option.bind_eq_some_iff.mp H
        obtain ⟨⟨sb, so⟩, hs, H⟩ := Option.bind_eq_some_iff.mp H
        have HQ := Aside0.mk hq
        have HSP := Aside0.mk hs
        clear hq hs
        have hc0 := (blk_cell BKC2.out 0).trans rfl
        have hc1 := (blk_cell BKC2.out 1).trans rfl
        cases sb with
        | false =>
          rw [if_neg (by simp)] at H
          simp only [Option.some.injEq, Prod.mk.injEq] at H
          obtain ⟨rfl, rfl⟩ := H
          go_wp2_with (first | (go_at_call 44; refine (zbits_Place.calls kq Ap cp p lvl at_ q qe _ (Kd.V_reads' HS2.out.pt).2.2 (Kd.V_reads' HS2.out.pt).2.1 HQ.out).mono ?_; rintro e w8 ⟨v0, rfl, hR, hB⟩; obtain ⟨Ao, co, eo⟩ := Kd.R_slice hR; subst eo; have HPQ := Aside0.mk (HS2.out.newpt hR); have HS3 := Aside0.mk (HS2.out.mv hB); have BKC3 := Aside0.mk (blk_below BKC2.out hB); have BKM3 := Aside0.mk (blk_below BKM2.out hB); have hc3 := (blk_cell BKC3.out 1).trans rfl; clear hR hB) | (go_at_call 95; refine (HIH.out kq (by have := HK.out; omega) W0 gs A0 c0 lo A1 c1 hi most v out2 Ao co q (wrap64 (lvl - 1)) (fun k_ => ok k_ ∧ ¬ ((False ∨ k_ = gc) ∨ k_ = gm)) false so _ HR0.out HC0.out HR1.out HC1.out HS3.out.ge HS3.out.below HS3.out.blk HS3.out.rows (fun k_ hk => ⟨HS3.out.fresh k_ (Nat.le_trans HS3.out.kept.1 hk), fun hl => by have := (HS3.out.loc k_ hl).2; omega⟩) HPQ.out HSP.out).mono ?_; rintro e w9 ⟨v', rfl, hblk, hrows, hbelow, hkept, hat⟩; have HS4 := Aside0.mk (HS3.out.call hblk hrows hbelow hkept hat); have BKC4 := Aside0.mk (blk_kept BKC3.out hkept (fun hs => hs.elim (HS3.out.neGs (.inl (.inr rfl))) (HS3.out.neOwn (.inl (.inr rfl))))); have BKM4 := Aside0.mk (blk_kept BKM3.out hkept (fun hs => hs.elim (HS3.out.neGs (.inr rfl)) (HS3.out.neOwn (.inr rfl)))); have hm40 := (blk_cell BKM4.out 0).trans rfl; have hm41 := (blk_cell BKM4.out 1).trans rfl; have hm42 := (blk_cell BKM4.out 2).trans rfl; clear hblk hrows hbelow hkept hat))
          simp only [Exit.jump]
          go_ret
          exact ⟨v', rfl, HS4.out.blk, Kd.N_mono HS4.out.rows (fun _ hk => ⟨hk.1.1, hk.2⟩), HS4.out.below, HS4.out.kept, HS4.out.at_⟩
        | true =>
          rw [if_pos rfl] at H
          obtain ⟨⟨a1, a2⟩, hn, H⟩ := Option.bind_eq_some_iff.mp H
          have HN := Aside0.mk hn
          have HLO := Aside0.mk H
          clear hn H
          go_wp2_with (first | (go_at_call 44; refine (zbits_Place.calls kq Ap cp p lvl at_ q qe _ (Kd.V_reads' HS2.out.pt).2.2 (Kd.V_reads' HS2.out.pt).2.1 HQ.out).mono ?_; rintro e w8 ⟨v0, rfl, hR, hB⟩; obtain ⟨Ao, co, eo⟩ := Kd.R_slice hR; subst eo; have HPQ := Aside0.mk (HS2.out.newpt hR); have HS3 := Aside0.mk (HS2.out.mv hB); have BKC3 := Aside0.mk (blk_below BKC2.out hB); have BKM3 := Aside0.mk (blk_below BKM2.out hB); have hc3 := (blk_cell BKC3.out 1).trans rfl; clear hR hB) | (go_at_call 95; refine (HIH.out kq (by have := HK.out; omega) W0 gs A0 c0 lo A1 c1 hi most v out2 Ao co q (wrap64 (lvl - 1)) (fun k_ => ok k_ ∧ ¬ ((False ∨ k_ = gc) ∨ k_ = gm)) true so _ HR0.out HC0.out HR1.out HC1.out HS3.out.ge HS3.out.below HS3.out.blk HS3.out.rows (fun k_ hk => ⟨HS3.out.fresh k_ (Nat.le_trans HS3.out.kept.1 hk), fun hl => by have := (HS3.out.loc k_ hl).2; omega⟩) HPQ.out HSP.out).mono ?_; rintro e w9 ⟨v', rfl, hblk, hrows, hbelow, hkept, hat⟩; have HS4 := Aside0.mk (HS3.out.call hblk hrows hbelow hkept hat); have BKC4 := Aside0.mk (blk_kept BKC3.out hkept (fun hs => hs.elim (HS3.out.neGs (.inl (.inr rfl))) (HS3.out.neOwn (.inl (.inr rfl))))); have BKM4 := Aside0.mk (blk_kept BKM3.out hkept (fun hs => hs.elim (HS3.out.neGs (.inr rfl)) (HS3.out.neOwn (.inr rfl)))); have hm40 := (blk_cell BKM4.out 0).trans rfl; have hm41 := (blk_cell BKM4.out 1).trans rfl; have hm42 := (blk_cell BKM4.out 2).trans rfl; clear hblk hrows hbelow hkept hat) | (go_at_call 57; refine (mask_Mask_Next.calls kq m0 m1 m2 at_ a1 a2 _ HN.out).mono ?_; rintro e w10 ⟨rfl, hb⟩; have HS5 := Aside0.mk (HS4.out.mv hb); have BKC5 := Aside0.mk (blk_below BKC4.out hb); have BKM5 := Aside0.mk (blk_below BKM4.out hb); clear hb))
          go_step3
          refine ⟨rfl, kq, ?_, by omega⟩
          exact ⟨gc, gm, m0, m1, m2, a1, a2, v', so, _, _, _, _, _, _, _, _, _, _, _, _, _, _, _, _, _, _, _, _, _, _, _, _, _, _, _, _, _, _, _, _, _, _, _, _, _, _, _, _, _, _, _, _, _, _, _, _, _, _, _, _, _, _, _, _, _, _, _, _, _, _, _, _, _, _, _, _, _, _, _, _, _, _, _, _, _, _, _, _, _, rfl, HLO, ⟨by have := HK.out; omega⟩, HS5, BKC5, BKM5⟩

end Go.Proofs.Ythdphjbecibeaaa.PCoverOnce
