-- packed by wip/tools/pack.py
-- Written by wip/tools/print2.py, a program of this session, over the kit's print of the program. Lean checks it.
import Derived.Test.YthdphjbecibeaaaPCoverCellsx0
import Derived.Test.YthdphjbecibeaaaPCoverCellsx1
import Derived.Test.YthdphjbecibeaaaPCoverCellsx2
import Derived.Test.YthdphjbecibeaaaPCoverCellsx3
import Derived.Test.YthdphjbecibeaaaPCoverCellsx8
namespace Go.Proofs.Ythdphjbecibeaaa.PCoverCells
open Go.RowKit Go.Proofs.YthdphjbecibeaaaW.PrintWords Go.Proofs.YthdphjbecibeaaaW.PrintLast Go.Proofs.YthdphjbecibeaaaW.PrintMore
attribute [local go_sem] max2_int min2_int max_two min_two max_three min_three max_four min_four   -- for this text's walks alone
open List renaming setIfInBounds_toArray → lsA, set_cons_zero → ls0, set_cons_succ → ls1
set_option linter.unusedVariables false
set_option linter.unusedSimpArgs false

/-! ### cover_Cells: function 67: by hand -/
def cover_Cells.f (k : Nat) (l0_0 : List Int) (l0_1 : List Int) (a1 : Int) : Option (List (S89) × Int) := (box_Empty.f k l0_0 l0_1).bind fun e => if e.2 = 0 then (if e.1 = true then (if a1 < 0 then some ([], 11) else some ([], 0)) else (cover_Least.f k l0_0 l0_1).bind fun c => (cover_splitter_split.f k l0_0 l0_1 a1 [] c.1 c.2.1).bind fun s => if s.1 = true then some (s.2, 0) else some ([], 11)) else some ([], e.2)
theorem cover_Cells.mono : ∀ a0 a1 a2 k, LeO (cover_Cells.f k a0 a1 a2) (cover_Cells.f (k + 1) a0 a1 a2) := by
  intro a0 a1 a2 k
  unfold cover_Cells.f
  refine LeO.bind (box_Empty.mono _ _ _) (fun e => ?_)
  split
  · split
    · exact LeO.refl _
    · exact LeO.bind (cover_Least.mono _ _ _) (fun c => LeO.bind (cover_splitter_split.mono _ _ _ _ _ _ _) (fun s => LeO.refl _))
  · exact LeO.refl _
--#WALK
set_option maxHeartbeats 8000000 in
set_option maxRecDepth 100000 in
theorem cover_Cells.calls (k : Nat) (A0_0 : Option Addr) (c0_0 : Nat) (l0_0 : List Int) (A0_1 : Option Addr) (c0_1 : Nat) (l0_1 : List Int) (a1 : Int) (r1 : List (S89)) (r2 : Int) (w : World) (hr0_0 : Kd.C (Kd.int .u64) w A0_0 l0_0.length l0_0) (hc0_0 : l0_0.length ≤ c0_0) (hr0_1 : Kd.C (Kd.int .u64) w A0_1 l0_1.length l0_1) (hc0_1 : l0_1.length ≤ c0_1) (h : cover_Cells.f k l0_0 l0_1 a1 = some (r1, r2)) :
  Calls Try.prog 67 #[.agg #[.slice A0_0 l0_0.length c0_0, .slice A0_1 l0_1.length c0_1], .int .i64 a1] w fun e w' => ∃ v0_ : Value, e = .returned (.tuple #[v0_, .int .i64 r2]) ∧ Kd.N k89 89 w' w.heap.size (fun k_ => (w.heap.size ≤ k_)) v0_ r1 ∧ Below w.heap.size w w' := by
 have hu89 := Try.underlying89
 have hu32 := Try.underlying32
 have hu121 := Try.underlying121
 have HR0 := Aside0.mk hr0_0
 have HR1 := Aside0.mk hr0_1
 have HC0 := Aside0.mk hc0_0
 have HC1 := Aside0.mk hc0_1
 obtain ⟨⟨em, ec⟩, he, H⟩ := Option.bind_eq_some_iff.mp h
 have HE := Aside0.mk he
 clear hr0_0 hr0_1 hc0_0 hc0_1 h he
 simp only at H
 by_cases hec : ec = 0
 ·subst hec
  rw [if_pos rfl] at H
  cases em with
  | true =>
   rw [if_pos rfl] at H
   by_cases hneg : a1 < 0
   ·rw [if_pos hneg] at H
    simp only [Option.some.injEq, Prod.mk.injEq] at H
    obtain ⟨rfl, rfl⟩ := H
    have hd := decide_eq_true hneg
    clear hneg
    go_enter Try.func67, Try.ntmps67
    go_wp2_with (first | ((with_reducible refine gate_dst (N := 2) rfl ?_); refine box_event ?hg (N := 2) ?hd (cs := #[.slice A0_0 l0_0.length c0_0, .slice A0_1 l0_1.length c0_1]) (t := 32) ?hr ?_; (case hd => rfl); (case hg => rfl); (case hr => first | (go_simp; done) | (go_simp; rfl)); intro gb hg w1 hbox hb; have HB := Aside0.mk hb; have BKB := Aside0.mk hbox; have HGB := Aside0.mk (show w.heap.size ≤ gb by omega); have hb10 := (blk_cell hbox 0).trans rfl; have hb11 := (blk_cell hbox 1).trans rfl; clear hb hbox hg) | (go_at_call 62; refine (box_Empty.calls k A0_0 c0_0 l0_0 A0_1 c0_1 l0_1 _ _ _ (Kd.C_below HR0.out HB.out) HC0.out (Kd.C_below HR1.out HB.out) HC1.out HE.out).mono ?_; rintro e w2 ⟨rfl, hb⟩; have HB2 := Aside0.mk (below_step HB.out hb); have BKB2 := Aside0.mk (blk_below BKB.out hb); have hb20 := (blk_cell BKB2.out 0).trans rfl; have hb21 := (blk_cell BKB2.out 1).trans rfl; clear hb))
    go_ret2
    exact ⟨_, rfl, Kd.N_nil _ _ _ _ _, HB2.out⟩
   ·rw [if_neg hneg] at H
    simp only [Option.some.injEq, Prod.mk.injEq] at H
    obtain ⟨rfl, rfl⟩ := H
    have hd := decide_eq_false hneg
    clear hneg
    go_enter Try.func67, Try.ntmps67
    go_wp2_with (first | ((with_reducible refine gate_dst (N := 2) rfl ?_); refine box_event ?hg (N := 2) ?hd (cs := #[.slice A0_0 l0_0.length c0_0, .slice A0_1 l0_1.length c0_1]) (t := 32) ?hr ?_; (case hd => rfl); (case hg => rfl); (case hr => first | (go_simp; done) | (go_simp; rfl)); intro gb hg w1 hbox hb; have HB := Aside0.mk hb; have BKB := Aside0.mk hbox; have HGB := Aside0.mk (show w.heap.size ≤ gb by omega); have hb10 := (blk_cell hbox 0).trans rfl; have hb11 := (blk_cell hbox 1).trans rfl; clear hb hbox hg) | (go_at_call 62; refine (box_Empty.calls k A0_0 c0_0 l0_0 A0_1 c0_1 l0_1 _ _ _ (Kd.C_below HR0.out HB.out) HC0.out (Kd.C_below HR1.out HB.out) HC1.out HE.out).mono ?_; rintro e w2 ⟨rfl, hb⟩; have HB2 := Aside0.mk (below_step HB.out hb); have BKB2 := Aside0.mk (blk_below BKB.out hb); have hb20 := (blk_cell BKB2.out 0).trans rfl; have hb21 := (blk_cell BKB2.out 1).trans rfl; clear hb))
    go_ret2
    exact ⟨_, rfl, Kd.N_nil _ _ _ _ _, HB2.out⟩
  | false =>
   rw [if_neg (by simp)] at H
   obtain ⟨⟨c, cl, cc⟩, hl, H⟩ := Option.bind_eq_some_iff.mp H
   obtain ⟨⟨sb, so⟩, hs, H⟩ := Option.bind_eq_some_iff.mp H
   have HL := Aside0.mk hl
   have HSP := Aside0.mk hs
   clear hl hs
   simp only at H
   cases sb with
   | false =>
    rw [if_neg (by simp)] at H
    simp only [Option.some.injEq, Prod.mk.injEq] at H
    obtain ⟨rfl, rfl⟩ := H
    go_enter Try.func67, Try.ntmps67
    go_wp2_with (first | ((with_reducible refine gate_dst (N := 2) rfl ?_); refine box_event ?hg (N := 2) ?hd (cs := #[.slice A0_0 l0_0.length c0_0, .slice A0_1 l0_1.length c0_1]) (t := 32) ?hr ?_; (case hd => rfl); (case hg => rfl); (case hr => first | (go_simp; done) | (go_simp; rfl)); intro gb hg w1 hbox hb; have HB := Aside0.mk hb; have BKB := Aside0.mk hbox; have HGB := Aside0.mk (show w.heap.size ≤ gb by omega); have hb10 := (blk_cell hbox 0).trans rfl; have hb11 := (blk_cell hbox 1).trans rfl; clear hb hbox hg) | (go_at_call 62; refine (box_Empty.calls k A0_0 c0_0 l0_0 A0_1 c0_1 l0_1 _ _ _ (Kd.C_below HR0.out HB.out) HC0.out (Kd.C_below HR1.out HB.out) HC1.out HE.out).mono ?_; rintro e w2 ⟨rfl, hb⟩; have HB2 := Aside0.mk (below_step HB.out hb); have BKB2 := Aside0.mk (blk_below BKB.out hb); have hb20 := (blk_cell BKB2.out 0).trans rfl; have hb21 := (blk_cell BKB2.out 1).trans rfl; clear hb) | (go_at_call 68; refine (cover_Least.calls k A0_0 c0_0 l0_0 A0_1 c0_1 l0_1 _ _ _ _ (Kd.C_below HR0.out HB2.out) HC0.out (Kd.C_below HR1.out HB2.out) HC1.out HL.out).mono ?_; rintro e w3 ⟨v0, rfl, hR, hb⟩; obtain ⟨Ao, co, eo⟩ := Kd.R_slice hR; subst eo; have HB3 := Aside0.mk (below_step HB2.out hb); have BKB3 := Aside0.mk (blk_below BKB2.out hb); have HP3 := Aside0.mk (show Kd.V (Kd.int .u64) 30 w3 w.heap.size (fun k_ => w.heap.size ≤ k_ ∧ k_ < w3.heap.size) (.slice Ao c.length co) c from Kd.R_V (Kd.R_mono (Kd.R_bound hR) (fun k_ hk => ⟨Nat.le_trans HB2.out.size hk.2.1, hk.2.2.1⟩))); clear hR hb) | ((with_reducible refine gate_dst (N := 8) rfl ?_); refine box_event ?hg (N := 8) ?hd (cs := #[.slice none 0 0, .int .i64 0]) (t := 89) ?hr ?_; (case hd => rfl); (case hg => rfl); (case hr => first | (go_simp; done) | (go_simp; rfl)); intro gc hg w4 hbox hb; have HB4 := Aside0.mk (below_step HB3.out hb); have BKB4 := Aside0.mk (blk_below BKB3.out hb); have HGC := Aside0.mk (show w3.heap.size ≤ gc by omega); have HNE := Aside0.mk (show gb ≠ gc by have := blk_lt BKB3.out; omega); have HP4 := Aside0.mk (Kd.V_below HP3.out hb); have BKC4 := Aside0.mk hbox; have hc40 := (blk_cell hbox 0).trans rfl; have hc41 := (blk_cell hbox 1).trans rfl; have hf40 := blk_frozen hbox 0; have hf41 := blk_frozen hbox 1; have HSZ := Aside0.mk hb.size; have hb40 : ∀ u0 u1, ((w4.setCell ⟨gc, 0, none⟩ u0).setCell ⟨gc, 1, none⟩ u1).cell? ⟨gb, 0, none⟩ = some (.slice A0_0 l0_0.length c0_0) := (fun u0 u1 => (blk_cell (blk_far (p := ⟨gc, 1, none⟩) (blk_far (p := ⟨gc, 0, none⟩) BKB4.out HNE.out u0) HNE.out u1) 0).trans rfl); have hb41 : ∀ u0 u1, ((w4.setCell ⟨gc, 0, none⟩ u0).setCell ⟨gc, 1, none⟩ u1).cell? ⟨gb, 1, none⟩ = some (.slice A0_1 l0_1.length c0_1) := (fun u0 u1 => (blk_cell (blk_far (p := ⟨gc, 1, none⟩) (blk_far (p := ⟨gc, 0, none⟩) BKB4.out HNE.out u0) HNE.out u1) 1).trans rfl); clear hb hbox hg) | ((with_reducible refine gate_dst (N := 36) rfl ?_); refine box_event ?hg (N := 36) ?hd (cs := #[.slice A0_0 l0_0.length c0_0, .slice A0_1 l0_1.length c0_1, .int .i64 a1, .slice none 0 0]) (t := 121) ?hr ?_; (case hd => rfl); (case hg => rfl); (case hr => first | (go_simp; done) | (go_simp; rfl)); intro gs hg w5 hbox hb; have HGS := Aside0.mk (show gs = w4.heap.size by rw [hg]; simp [World.setCell]); have hle3 := (show w.heap.size ≤ w3.heap.size from HB3.out.size); have HGCW := Aside0.mk (show w.heap.size ≤ gc by have := HGC.out; omega); have BKC5 := Aside0.mk (blk_below (blk_put (blk_put BKC4.out 0 (.slice Ao c.length co) rfl) 1 (.int .i64 cl) rfl) hb); have HB5 := Aside0.mk (below_step ((HB4.out.setCell (p := ⟨gc, 0, none⟩) HGCW.out (.slice Ao c.length co)).setCell (p := ⟨gc, 1, none⟩) HGCW.out (.int .i64 cl)) hb); have HP5 := Aside0.mk (Kd.V_below (Kd.V_far (p := ⟨gc, 1, none⟩) (Kd.V_far (p := ⟨gc, 0, none⟩) HP4.out (fun k_ hk => by show k_ ≠ gc; have := hk.2; have := HGC.out; omega) (.slice Ao c.length co)) (fun k_ hk => by show k_ ≠ gc; have := hk.2; have := HGC.out; omega) (.int .i64 cl)) hb); have BKS5 := Aside0.mk hbox; have hc50 := (blk_cell BKC5.out 0).trans rfl; have hc51 := (blk_cell BKC5.out 1).trans rfl; clear hb hbox hg hle3 hc40 hc41 hf40 hf41 hb40 hb41) | (go_at_call 95; refine (cover_splitter_split.calls k w gs A0_0 c0_0 l0_0 A0_1 c0_1 l0_1 a1 (.slice none 0 0) [] Ao co c cl (fun k_ => w.heap.size ≤ k_) _ _ _ HR0.out HC0.out HR1.out HC1.out (by have := HGS.out; have := HB4.out.size; omega) HB5.out BKS5.out (Kd.N_nil _ _ _ _ _) (fun k_ hk => Nat.le_trans HB5.out.size hk) (Kd.V_mono HP5.out (fun k_ hk => ⟨hk.1, by have := hk.2; have := HGS.out; have := HSZ.out; omega, by simp [Value.ownBlock]⟩)) HSP.out).mono ?_; rintro e w6 ⟨v, rfl, hblk, hrows, hbelow, hkept, hat⟩; have HRW := Aside0.mk hrows; have HB6 := Aside0.mk hbelow; have hv6 := (blk_cell hblk 3).trans rfl; clear hblk hrows hbelow hkept hat))
    go_ret2
    exact ⟨_, rfl, Kd.N_nil _ _ _ _ _, HB6.out⟩
   | true =>
    rw [if_pos rfl] at H
    simp only [Option.some.injEq, Prod.mk.injEq] at H
    obtain ⟨rfl, rfl⟩ := H
    go_enter Try.func67, Try.ntmps67
    go_wp2_with (first | ((with_reducible refine gate_dst (N := 2) rfl ?_); refine box_event ?hg (N := 2) ?hd (cs := #[.slice A0_0 l0_0.length c0_0, .slice A0_1 l0_1.length c0_1]) (t := 32) ?hr ?_; (case hd => rfl); (case hg => rfl); (case hr => first | (go_simp; done) | (go_simp; rfl)); intro gb hg w1 hbox hb; have HB := Aside0.mk hb; have BKB := Aside0.mk hbox; have HGB := Aside0.mk (show w.heap.size ≤ gb by omega); have hb10 := (blk_cell hbox 0).trans rfl; have hb11 := (blk_cell hbox 1).trans rfl; clear hb hbox hg) | (go_at_call 62; refine (box_Empty.calls k A0_0 c0_0 l0_0 A0_1 c0_1 l0_1 _ _ _ (Kd.C_below HR0.out HB.out) HC0.out (Kd.C_below HR1.out HB.out) HC1.out HE.out).mono ?_; rintro e w2 ⟨rfl, hb⟩; have HB2 := Aside0.mk (below_step HB.out hb); have BKB2 := Aside0.mk (blk_below BKB.out hb); have hb20 := (blk_cell BKB2.out 0).trans rfl; have hb21 := (blk_cell BKB2.out 1).trans rfl; clear hb) | (go_at_call 68; refine (cover_Least.calls k A0_0 c0_0 l0_0 A0_1 c0_1 l0_1 _ _ _ _ (Kd.C_below HR0.out HB2.out) HC0.out (Kd.C_below HR1.out HB2.out) HC1.out HL.out).mono ?_; rintro e w3 ⟨v0, rfl, hR, hb⟩; obtain ⟨Ao, co, eo⟩ := Kd.R_slice hR; subst eo; have HB3 := Aside0.mk (below_step HB2.out hb); have BKB3 := Aside0.mk (blk_below BKB2.out hb); have HP3 := Aside0.mk (show Kd.V (Kd.int .u64) 30 w3 w.heap.size (fun k_ => w.heap.size ≤ k_ ∧ k_ < w3.heap.size) (.slice Ao c.length co) c from Kd.R_V (Kd.R_mono (Kd.R_bound hR) (fun k_ hk => ⟨Nat.le_trans HB2.out.size hk.2.1, hk.2.2.1⟩))); clear hR hb) | ((with_reducible refine gate_dst (N := 8) rfl ?_); refine box_event ?hg (N := 8) ?hd (cs := #[.slice none 0 0, .int .i64 0]) (t := 89) ?hr ?_; (case hd => rfl); (case hg => rfl); (case hr => first | (go_simp; done) | (go_simp; rfl)); intro gc hg w4 hbox hb; have HB4 := Aside0.mk (below_step HB3.out hb); have BKB4 := Aside0.mk (blk_below BKB3.out hb); have HGC := Aside0.mk (show w3.heap.size ≤ gc by omega); have HNE := Aside0.mk (show gb ≠ gc by have := blk_lt BKB3.out; omega); have HP4 := Aside0.mk (Kd.V_below HP3.out hb); have BKC4 := Aside0.mk hbox; have hc40 := (blk_cell hbox 0).trans rfl; have hc41 := (blk_cell hbox 1).trans rfl; have hf40 := blk_frozen hbox 0; have hf41 := blk_frozen hbox 1; have HSZ := Aside0.mk hb.size; have hb40 : ∀ u0 u1, ((w4.setCell ⟨gc, 0, none⟩ u0).setCell ⟨gc, 1, none⟩ u1).cell? ⟨gb, 0, none⟩ = some (.slice A0_0 l0_0.length c0_0) := (fun u0 u1 => (blk_cell (blk_far (p := ⟨gc, 1, none⟩) (blk_far (p := ⟨gc, 0, none⟩) BKB4.out HNE.out u0) HNE.out u1) 0).trans rfl); have hb41 : ∀ u0 u1, ((w4.setCell ⟨gc, 0, none⟩ u0).setCell ⟨gc, 1, none⟩ u1).cell? ⟨gb, 1, none⟩ = some (.slice A0_1 l0_1.length c0_1) := (fun u0 u1 => (blk_cell (blk_far (p := ⟨gc, 1, none⟩) (blk_far (p := ⟨gc, 0, none⟩) BKB4.out HNE.out u0) HNE.out u1) 1).trans rfl); clear hb hbox hg) | ((with_reducible refine gate_dst (N := 36) rfl ?_); refine box_event ?hg (N := 36) ?hd (cs := #[.slice A0_0 l0_0.length c0_0, .slice A0_1 l0_1.length c0_1, .int .i64 a1, .slice none 0 0]) (t := 121) ?hr ?_; (case hd => rfl); (case hg => rfl); (case hr => first | (go_simp; done) | (go_simp; rfl)); intro gs hg w5 hbox hb; have HGS := Aside0.mk (show gs = w4.heap.size by rw [hg]; simp [World.setCell]); have hle3 := (show w.heap.size ≤ w3.heap.size from HB3.out.size); have HGCW := Aside0.mk (show w.heap.size ≤ gc by have := HGC.out; omega); have BKC5 := Aside0.mk (blk_below (blk_put (blk_put BKC4.out 0 (.slice Ao c.length co) rfl) 1 (.int .i64 cl) rfl) hb); have HB5 := Aside0.mk (below_step ((HB4.out.setCell (p := ⟨gc, 0, none⟩) HGCW.out (.slice Ao c.length co)).setCell (p := ⟨gc, 1, none⟩) HGCW.out (.int .i64 cl)) hb); have HP5 := Aside0.mk (Kd.V_below (Kd.V_far (p := ⟨gc, 1, none⟩) (Kd.V_far (p := ⟨gc, 0, none⟩) HP4.out (fun k_ hk => by show k_ ≠ gc; have := hk.2; have := HGC.out; omega) (.slice Ao c.length co)) (fun k_ hk => by show k_ ≠ gc; have := hk.2; have := HGC.out; omega) (.int .i64 cl)) hb); have BKS5 := Aside0.mk hbox; have hc50 := (blk_cell BKC5.out 0).trans rfl; have hc51 := (blk_cell BKC5.out 1).trans rfl; clear hb hbox hg hle3 hc40 hc41 hf40 hf41 hb40 hb41) | (go_at_call 95; refine (cover_splitter_split.calls k w gs A0_0 c0_0 l0_0 A0_1 c0_1 l0_1 a1 (.slice none 0 0) [] Ao co c cl (fun k_ => w.heap.size ≤ k_) _ _ _ HR0.out HC0.out HR1.out HC1.out (by have := HGS.out; have := HB4.out.size; omega) HB5.out BKS5.out (Kd.N_nil _ _ _ _ _) (fun k_ hk => Nat.le_trans HB5.out.size hk) (Kd.V_mono HP5.out (fun k_ hk => ⟨hk.1, by have := hk.2; have := HGS.out; have := HSZ.out; omega, by simp [Value.ownBlock]⟩)) HSP.out).mono ?_; rintro e w6 ⟨v, rfl, hblk, hrows, hbelow, hkept, hat⟩; have HRW := Aside0.mk hrows; have HB6 := Aside0.mk hbelow; have hv6 := (blk_cell hblk 3).trans rfl; clear hblk hrows hbelow hkept hat))
    go_ret2
    exact ⟨v, rfl, Kd.N_mono HRW.out (fun _ hk => hk.1), HB6.out⟩
 ·rw [if_neg hec] at H
  simp only [Option.some.injEq, Prod.mk.injEq] at H
  obtain ⟨rfl, rfl⟩ := H
  have hd0 : (ec != 0) = true := bne_iff_ne.mpr hec
  clear hec
  go_enter Try.func67, Try.ntmps67
  go_wp2_with (first | ((with_reducible refine gate_dst (N := 2) rfl ?_); refine box_event ?hg (N := 2) ?hd (cs := #[.slice A0_0 l0_0.length c0_0, .slice A0_1 l0_1.length c0_1]) (t := 32) ?hr ?_; (case hd => rfl); (case hg => rfl); (case hr => first | (go_simp; done) | (go_simp; rfl)); intro gb hg w1 hbox hb; have HB := Aside0.mk hb; have BKB := Aside0.mk hbox; have HGB := Aside0.mk (show w.heap.size ≤ gb by omega); have hb10 := (blk_cell hbox 0).trans rfl; have hb11 := (blk_cell hbox 1).trans rfl; clear hb hbox hg) | (go_at_call 62; refine (box_Empty.calls k A0_0 c0_0 l0_0 A0_1 c0_1 l0_1 _ _ _ (Kd.C_below HR0.out HB.out) HC0.out (Kd.C_below HR1.out HB.out) HC1.out HE.out).mono ?_; rintro e w2 ⟨rfl, hb⟩; have HB2 := Aside0.mk (below_step HB.out hb); have BKB2 := Aside0.mk (blk_below BKB.out hb); have hb20 := (blk_cell BKB2.out 0).trans rfl; have hb21 := (blk_cell BKB2.out 1).trans rfl; clear hb))
  go_ret2
  exact ⟨_, rfl, Kd.N_nil _ _ _ _ _, HB2.out⟩

/-! ### pantilelaw33_awake: function 66 -/
def pantilelaw33_awake.f (k : Nat)  : Option (Bool) := (cover_Cells.f k (([1] : List Int)) (([6] : List Int)) 9).bind fun bt219 => (if bt219.2 = 0 then (if (bt219.1.length : Int) = 4 then (if 0 < (bt219.1.length : Int) then (if ((rd_T89 bt219.1 0).f1) = (-1) then (if 1 < (bt219.1.length : Int) then (if ((rd_T89 bt219.1 1).f1) = 0 then (if 2 < (bt219.1.length : Int) then (if 0 < (((rd_T89 bt219.1 2).f0).length : Int) then (if (rd ((rd_T89 bt219.1 2).f0) 0) = 4 then (if 3 < (bt219.1.length : Int) then (if 0 < (((rd_T89 bt219.1 3).f0).length : Int) then (some ((rd ((rd_T89 bt219.1 3).f0) 0) == 6)) else (none)) else (none)) else (some false)) else (none)) else (none)) else (some false)) else (none)) else (some false)) else (none)) else (some false)) else (some false))
theorem pantilelaw33_awake.mono : ∀ k, LeO (pantilelaw33_awake.f k ) (pantilelaw33_awake.f (k + 1) ) := by
  intro  k
  unfold pantilelaw33_awake.f
  repeat' first
      | (with_reducible exact cover_Cells.mono _ _ _ _)
      | (with_reducible exact LeO.refl _)
      | (with_reducible exact LeO.none _)
      | (with_reducible refine LeO.ite ?_ ?_)
      | (with_reducible refine LeO.bind ?_ (fun _ => ?_))
      | exact cover_Cells.mono _ _ _ _
      | exact LeO.none _
      | refine LeO.ite ?_ ?_
      | refine LeO.bind ?_ (fun _ => ?_)
set_option maxHeartbeats 8000000 in
set_option maxRecDepth 100000 in
theorem pantilelaw33_awake.calls (k : Nat)  (r : Bool) (w : World) (h : pantilelaw33_awake.f k  = some r) :
  Calls Try.prog 66 #[] w fun e w' => e = .returned (.bool r) ∧ Below w.heap.size w w' := by
 have hu32 := Try.underlying32
 have HB := Aside0.mk (Below.refl w.heap.size w)
 have H : ((cover_Cells.f k (([1] : List Int)) (([6] : List Int)) 9).bind fun bt219 => (if bt219.2 = 0 then (if (bt219.1.length : Int) = 4 then (if 0 < (bt219.1.length : Int) then (if ((rd_T89 bt219.1 0).f1) = (-1) then (if 1 < (bt219.1.length : Int) then (if ((rd_T89 bt219.1 1).f1) = 0 then (if 2 < (bt219.1.length : Int) then (if 0 < (((rd_T89 bt219.1 2).f0).length : Int) then (if (rd ((rd_T89 bt219.1 2).f0) 0) = 4 then (if 3 < (bt219.1.length : Int) then (if 0 < (((rd_T89 bt219.1 3).f0).length : Int) then (some ((rd ((rd_T89 bt219.1 3).f0) 0) == 6)) else (none)) else (none)) else (some false)) else (none)) else (none)) else (some false)) else (none)) else (some false)) else (none)) else (some false)) else (some false))) = some r := h
 clear h
 obtain ⟨y213, hy213⟩ : ∃ y_ : List Int, y_ = (([1] : List Int)) := ⟨_, rfl⟩
 replace H : ((cover_Cells.f k y213 (([6] : List Int)) 9).bind fun bt219 => (if bt219.2 = 0 then (if (bt219.1.length : Int) = 4 then (if 0 < (bt219.1.length : Int) then (if ((rd_T89 bt219.1 0).f1) = (-1) then (if 1 < (bt219.1.length : Int) then (if ((rd_T89 bt219.1 1).f1) = 0 then (if 2 < (bt219.1.length : Int) then (if 0 < (((rd_T89 bt219.1 2).f0).length : Int) then (if (rd ((rd_T89 bt219.1 2).f0) 0) = 4 then (if 3 < (bt219.1.length : Int) then (if 0 < (((rd_T89 bt219.1 3).f0).length : Int) then (some ((rd ((rd_T89 bt219.1 3).f0) 0) == 6)) else (none)) else (none)) else (some false)) else (none)) else (none)) else (some false)) else (none)) else (some false)) else (none)) else (some false)) else (some false))) = some r := by first | (rw [hy213]; with_reducible exact H) | (have H2_ := (Option.bind_some _ _).symm.trans H; rw [hy213]; with_reducible exact H2_) | (have H2_ := (Option.bind_some _ _).symm.trans H; with_reducible exact H2_) | with_reducible exact H | (rw [hy213]; exact H) | exact H
 have Ny213 := Aside0.mk hy213
 clear hy213
 obtain ⟨y216, hy216⟩ : ∃ y_ : List Int, y_ = (([6] : List Int)) := ⟨_, rfl⟩
 replace H : ((cover_Cells.f k y213 y216 9).bind fun bt219 => (if bt219.2 = 0 then (if (bt219.1.length : Int) = 4 then (if 0 < (bt219.1.length : Int) then (if ((rd_T89 bt219.1 0).f1) = (-1) then (if 1 < (bt219.1.length : Int) then (if ((rd_T89 bt219.1 1).f1) = 0 then (if 2 < (bt219.1.length : Int) then (if 0 < (((rd_T89 bt219.1 2).f0).length : Int) then (if (rd ((rd_T89 bt219.1 2).f0) 0) = 4 then (if 3 < (bt219.1.length : Int) then (if 0 < (((rd_T89 bt219.1 3).f0).length : Int) then (some ((rd ((rd_T89 bt219.1 3).f0) 0) == 6)) else (none)) else (none)) else (some false)) else (none)) else (none)) else (some false)) else (none)) else (some false)) else (none)) else (some false)) else (some false))) = some r := by first | (rw [hy216]; with_reducible exact H) | (have H2_ := (Option.bind_some _ _).symm.trans H; rw [hy216]; with_reducible exact H2_) | (have H2_ := (Option.bind_some _ _).symm.trans H; with_reducible exact H2_) | with_reducible exact H | (rw [hy216]; exact H) | exact H
 have Ny216 := Aside0.mk hy216
 clear hy216
 replace H := Option.bind_eq_some_iff.mp H
 obtain ⟨⟨t219, t222⟩, A10, H⟩ := H
 replace H : (if t222 = 0 then (if (t219.length : Int) = 4 then (if 0 < (t219.length : Int) then (if ((rd_T89 t219 0).f1) = (-1) then (if 1 < (t219.length : Int) then (if ((rd_T89 t219 1).f1) = 0 then (if 2 < (t219.length : Int) then (if 0 < (((rd_T89 t219 2).f0).length : Int) then (if (rd ((rd_T89 t219 2).f0) 0) = 4 then (if 3 < (t219.length : Int) then (if 0 < (((rd_T89 t219 3).f0).length : Int) then (some ((rd ((rd_T89 t219 3).f0) 0) == 6)) else (none)) else (none)) else (some false)) else (none)) else (none)) else (some false)) else (none)) else (some false)) else (none)) else (some false)) else (some false)) = some r := H
 have A1 := Aside0.mk A10
 clear A10
 by_cases c2 : t222 = 0
 ·rw [if_pos c2] at H
  have c2b0 : (t222 == 0) = true := beq_iff_eq.mpr c2
  have c2b1 : (t222 != 0) = false := bne_eq_false_iff_eq.mpr c2
  clear c2
  by_cases c3 : (t219.length : Int) = 4
  ·rw [if_pos c3] at H
   have c3b0 : ((t219.length : Int) == 4) = true := beq_iff_eq.mpr c3
   have c3b1 : ((t219.length : Int) != 4) = false := bne_eq_false_iff_eq.mpr c3
   clear c3
   by_cases c4 : 0 < (t219.length : Int)
   ·rw [if_pos c4] at H
    have c4b0 : decide (0 < (t219.length : Int)) = true := decide_eq_true c4
    have c4b1 : decide (0 < t219.length) = true := decide_eq_true (by omega)
    clear c4
    by_cases c5 : ((rd_T89 t219 0).f1) = (-1)
    ·rw [if_pos c5] at H
     have c5b0 : (((rd_T89 t219 0).f1) == (-1)) = true := beq_iff_eq.mpr c5
     have c5b1 : (((rd_T89 t219 0).f1) != (-1)) = false := bne_eq_false_iff_eq.mpr c5
     clear c5
     by_cases c6 : 1 < (t219.length : Int)
     ·rw [if_pos c6] at H
      have c6b0 : decide (1 < (t219.length : Int)) = true := decide_eq_true c6
      have c6b1 : decide (1 < t219.length) = true := decide_eq_true (by omega)
      clear c6
      by_cases c7 : ((rd_T89 t219 1).f1) = 0
      ·rw [if_pos c7] at H
       have c7b0 : (((rd_T89 t219 1).f1) == 0) = true := beq_iff_eq.mpr c7
       have c7b1 : (((rd_T89 t219 1).f1) != 0) = false := bne_eq_false_iff_eq.mpr c7
       clear c7
       by_cases c8 : 2 < (t219.length : Int)
       ·rw [if_pos c8] at H
        have c8b0 : decide (2 < (t219.length : Int)) = true := decide_eq_true c8
        have c8b1 : decide (2 < t219.length) = true := decide_eq_true (by omega)
        clear c8
        by_cases c9 : 0 < (((rd_T89 t219 2).f0).length : Int)
        ·rw [if_pos c9] at H
         have c9b0 : decide (0 < (((rd_T89 t219 2).f0).length : Int)) = true := decide_eq_true c9
         have c9b1 : decide (0 < ((rd_T89 t219 2).f0).length) = true := decide_eq_true (by omega)
         clear c9
         by_cases c10 : (rd ((rd_T89 t219 2).f0) 0) = 4
         ·rw [if_pos c10] at H
          have c10b0 : ((rd ((rd_T89 t219 2).f0) 0) == 4) = true := beq_iff_eq.mpr c10
          have c10b1 : ((rd ((rd_T89 t219 2).f0) 0) != 4) = false := bne_eq_false_iff_eq.mpr c10
          clear c10
          by_cases c11 : 3 < (t219.length : Int)
          ·rw [if_pos c11] at H
           have c11b0 : decide (3 < (t219.length : Int)) = true := decide_eq_true c11
           have c11b1 : decide (3 < t219.length) = true := decide_eq_true (by omega)
           clear c11
           by_cases c12 : 0 < (((rd_T89 t219 3).f0).length : Int)
           ·rw [if_pos c12] at H
            have c12b0 : decide (0 < (((rd_T89 t219 3).f0).length : Int)) = true := decide_eq_true c12
            have c12b1 : decide (0 < ((rd_T89 t219 3).f0).length) = true := decide_eq_true (by omega)
            clear c12
            obtain rfl := Option.some.inj H
            go_enter Try.func66, Try.ntmps66
            go_wp2_with (first | ((with_reducible refine gate_dst (N := 4) rfl ?_); (try (refine gate_guard (by rfl) ?_; dsimp only)); refine Kd.R_lit (Kd.int .u64) _ 30 ?hg (N := 4) ?hd (xs := ([1] : List Int)) (inner := [.int .u64 1]) (ok := fun _ => True) (okp := fun _ => True) ?hr ?hp (fun _ hk => hk) trivial (Below.refl _ _) (Nat.le_refl _) (by simp) ?_; (case hd => rfl); (case hg => rfl); (case hr => first | (go_simp; done) | (go_simp; rfl)); (case hp => exact (Reps.one (show Kd.M (Kd.int .u64) _ _ _ 1 [.int .u64 1] from rfl) (Reps.none _ _))); intro v214 w13 ho14 hb hg_ hnew_; clear hg_ hnew_; (first | rw [← Ny213.out] at ho14 | (simp only [Int.reduceToNat] at ho14; rw [← Ny213.out] at ho14)); have n0_ := Aside0.mk (Kd.R_lower ho14 (below_size (by repeat (first | (with_reducible first | exact HB.out | apply below_alloc | apply pw_below_drewN | apply below_drew1) | exact HB.out)))); have n1_ := Aside0.mk (below_step (by repeat (first | (with_reducible first | exact HB.out | apply below_alloc | apply pw_below_drewN | apply below_drew1) | exact HB.out)) hb); clear HB; have HO215 := n0_; have HB := n1_; clear n0_ n1_; clear hb ho14) | ((with_reducible refine gate_dst (N := 5) rfl ?_); (try (refine gate_guard (by rfl) ?_; dsimp only)); refine Kd.R_lit (Kd.int .u64) _ 30 ?hg (N := 5) ?hd (xs := ([6] : List Int)) (inner := [.int .u64 6]) (ok := fun _ => True) (okp := fun _ => True) ?hr ?hp (fun _ hk => hk) trivial (Below.refl _ _) (Nat.le_refl _) (by simp) ?_; (case hd => rfl); (case hg => rfl); (case hr => first | (go_simp; done) | (go_simp; rfl)); (case hp => exact (Reps.one (show Kd.M (Kd.int .u64) _ _ _ 6 [.int .u64 6] from rfl) (Reps.none _ _))); intro v217 w15 ho16 hb hg_ hnew_; clear hg_ hnew_; (first | rw [← Ny216.out] at ho16 | (simp only [Int.reduceToNat] at ho16; rw [← Ny216.out] at ho16)); have n0_ := Aside0.mk (Kd.R_elder' (by (with_reducible repeat (first | apply Kd.R_alloc | apply Kd.R_drewN | apply Kd.R_drew)); exact HO215.out) (Kd.R_base ho16) hb); have n1_ := Aside0.mk (Kd.R_lower (Kd.R_new' ho16 (Kd.R_lt (by (with_reducible repeat (first | apply Kd.R_alloc | apply Kd.R_drewN | apply Kd.R_drew)); exact HO215.out))) (below_size (by repeat (first | (with_reducible first | exact HB.out | apply below_alloc | apply pw_below_drewN | apply below_drew1) | exact HB.out)))); have n2_ := Aside0.mk (below_step (by repeat (first | (with_reducible first | exact HB.out | apply below_alloc | apply pw_below_drewN | apply below_drew1) | exact HB.out)) hb); clear HO215; clear HB; have HO215 := n0_; have HO218 := n1_; have HB := n2_; clear n0_ n1_ n2_; clear hb ho16; obtain ⟨Ao17, co17, eo17⟩ := Kd.R_slice HO218.out; subst eo17; obtain ⟨Ao18, co18, eo18⟩ := Kd.R_slice HO215.out; subst eo18) | ((with_reducible refine gate_callee (f := 67) rfl ?_); refine goesL_ (some 7) rfl rfl Try.func67 (by kernel_rfl) rfl #[.agg #[.slice Ao18 y213.length co18, .slice Ao17 y216.length co17], .int .i64 9] rfl (by (try simp only [List.map_toArray, List.map_cons, List.map_nil]); first | done | rfl | (simp only [List.length_drop, List.length_take]; rfl)) ?_; (with_reducible refine (cover_Cells.calls k _ _ y213 _ _ y216 9 t219 t222 _ ?side1 ?side2 ?side3 ?side4 A1.out).mono ?_); (case side1 => repeat (first | exact (Kd.R_reads' HO215.out).2.2 | (with_reducible refine Kd.C_alloc ?_ _) | (with_reducible refine Kd.C_drewN ?_ _) | (with_reducible refine Kd.C_drew ?_))); (case side2 => exact (Kd.R_reads' HO215.out).2.1); (case side3 => repeat (first | exact (Kd.R_reads' HO218.out).2.2 | (with_reducible refine Kd.C_alloc ?_ _) | (with_reducible refine Kd.C_drewN ?_ _) | (with_reducible refine Kd.C_drew ?_))); (case side4 => exact (Kd.R_reads' HO218.out).2.1); rintro e w19 ⟨v220, rfl, ho0, hb⟩; refine ⟨_, rfl, ?_⟩; have n0_ := Aside0.mk (Kd.R_below (by (with_reducible repeat (first | apply Kd.R_alloc | apply Kd.R_drewN | apply Kd.R_drew)); exact HO215.out) hb); have n1_ := Aside0.mk (Kd.R_below (by (with_reducible repeat (first | apply Kd.R_alloc | apply Kd.R_drewN | apply Kd.R_drew)); exact HO218.out) hb); have n2_ := Aside0.mk (Kd.N_lower (Kd.N_mono (ok' := fun k_ => some k_ ≠ (.slice Ao18 y213.length co18 : Value).ownBlock ∧ some k_ ≠ (.slice Ao17 y216.length co17 : Value).ownBlock) ho0 (fun k_ hk_ => ⟨(Kd.fresh' (Kd.R_lt (by (with_reducible repeat (first | apply Kd.R_alloc | apply Kd.R_drewN | apply Kd.R_drew)); exact HO215.out)) k_ hk_), (Kd.fresh' (Kd.R_lt (by (with_reducible repeat (first | apply Kd.R_alloc | apply Kd.R_drewN | apply Kd.R_drew)); exact HO218.out)) k_ hk_)⟩)) (below_size (by repeat (first | (with_reducible first | exact HB.out | apply below_alloc | apply pw_below_drewN | apply below_drew1) | exact HB.out)))); have n3_ := Aside0.mk (below_step (by repeat (first | (with_reducible first | exact HB.out | apply below_alloc | apply pw_below_drewN | apply below_drew1) | exact HB.out)) hb); clear HO215; clear HO218; clear HB; have HO215 := n0_; have HO218 := n1_; have HO221 := n2_; have HB := n3_; clear n0_ n1_ n2_ n3_; (try clear hb); (try clear hb2); (try clear hk); (try clear hi); (try clear ho0); obtain ⟨Ao20, co20, eo20⟩ := Kd.N_slice HO221.out; subst eo20; have p223 : 0 ≤ (0 : Int) := (by omega); have q223 : 0 < (t219.length : Int) := of_decide_eq_true (by first | (with_reducible assumption) | assumption); obtain ⟨ad223, A223_0, c223_0, e223, hx223_0, hx223_1, hl223_0, hi223_0⟩ := at_T89 (Kd.N_reads' HO221.out).2.2 0 p223 q223; cases e223; obtain ⟨ce223, hce223, hMe223, hcc223⟩ := Kd.N_get HO221.out z89 0 p223 (by first | exact q223 | exact of_decide_eq_true (by first | (with_reducible assumption) | assumption) | (have e_ := (Kd.N_reads' HO221.out).1; omega)); obtain ⟨ua223_0, uc223_0, rfl, ul223_0, ge223_0⟩ := k89_openF hMe223; have hv223_0 := hcc223 0 _ rfl; rw [Nat.add_zero] at hv223_0; replace hv223_0 := Option.some.inj (hv223_0.symm.trans hx223_0); injection hv223_0 with hva_ hvn_ hvc_; rw [hva_] at ge223_0; rw [hvc_] at ul223_0; have HL223_0 := Aside0.mk (show Kd.V (Kd.int .u64) 30 _ w.heap.size _ _ ((rd_T89 t219 0).f0) from Kd.V_mk ul223_0 ge223_0); clear hva_ hvn_ hvc_ ge223_0 ul223_0; clear hcc223 hce223; have qi223 : (0 < t219.length) = True := eq_true (by omega); (try rw [show ((0 : Int)).toNat = 0 from rfl] at hx223_0); (try rw [show 0 * 2 = 0 from rfl] at hx223_0); (try rw [Addr.add_zero'] at hx223_0); (try rw [show ((0 : Int)).toNat = 0 from rfl] at hx223_1); (try rw [show 0 * 2 = 0 from rfl] at hx223_1); (try rw [Addr.add_zero'] at hx223_1); have HR223_0 := Aside0.mk hi223_0; have HC223_0 := Aside0.mk hl223_0; clear hi223_0 hl223_0; replace p223 := eq_true p223; replace q223 := eq_true q223; have p224 : 0 ≤ (1 : Int) := (by omega); have q224 : 1 < (t219.length : Int) := of_decide_eq_true (by first | (with_reducible assumption) | assumption); obtain ⟨ad224, A224_0, c224_0, e224, hx224_0, hx224_1, hl224_0, hi224_0⟩ := at_T89 (Kd.N_reads' HO221.out).2.2 1 p224 q224; obtain rfl : ad223 = ad224 := (by injection e224); obtain ⟨ce224, hce224, hMe224, hcc224⟩ := Kd.N_get HO221.out z89 1 p224 (by first | exact q224 | exact of_decide_eq_true (by first | (with_reducible assumption) | assumption) | (have e_ := (Kd.N_reads' HO221.out).1; omega)); obtain ⟨ua224_0, uc224_0, rfl, ul224_0, ge224_0⟩ := k89_openF hMe224; have hv224_0 := hcc224 0 _ rfl; rw [Nat.add_zero] at hv224_0; replace hv224_0 := Option.some.inj (hv224_0.symm.trans hx224_0); injection hv224_0 with hva_ hvn_ hvc_; rw [hva_] at ge224_0; rw [hvc_] at ul224_0; have HL224_0 := Aside0.mk (show Kd.V (Kd.int .u64) 30 _ w.heap.size _ _ ((rd_T89 t219 1).f0) from Kd.V_mk ul224_0 ge224_0); clear hva_ hvn_ hvc_ ge224_0 ul224_0; clear hcc224 hce224; (try simp only [show (1 : Int).toNat = 1 from rfl, Nat.reduceMul, Nat.reduceEqDiff, Go.Addr.add, ↓reduceIte] at hx224_0); (try simp only [show (1 : Int).toNat = 1 from rfl, Nat.reduceMul, Nat.reduceEqDiff, Go.Addr.add, ↓reduceIte] at hx224_1); have qi224 : (1 < t219.length) = True := eq_true (by omega); (try rw [show ((1 : Int)).toNat = 1 from rfl] at hx224_0); (try rw [show 1 * 2 = 2 from rfl] at hx224_0); (try rw [show ((1 : Int)).toNat = 1 from rfl] at hx224_1); (try rw [show 1 * 2 = 2 from rfl] at hx224_1); have HR224_0 := Aside0.mk hi224_0; have HC224_0 := Aside0.mk hl224_0; clear hi224_0 hl224_0; replace p224 := eq_true p224; replace q224 := eq_true q224; have p225 : 0 ≤ (2 : Int) := (by omega); have q225 : 2 < (t219.length : Int) := of_decide_eq_true (by first | (with_reducible assumption) | assumption); obtain ⟨ad225, A225_0, c225_0, e225, hx225_0, hx225_1, hl225_0, hi225_0⟩ := at_T89 (Kd.N_reads' HO221.out).2.2 2 p225 q225; obtain rfl : ad223 = ad225 := (by injection e225); obtain ⟨ce225, hce225, hMe225, hcc225⟩ := Kd.N_get HO221.out z89 2 p225 (by first | exact q225 | exact of_decide_eq_true (by first | (with_reducible assumption) | assumption) | (have e_ := (Kd.N_reads' HO221.out).1; omega)); obtain ⟨ua225_0, uc225_0, rfl, ul225_0, ge225_0⟩ := k89_openF hMe225; have hv225_0 := hcc225 0 _ rfl; rw [Nat.add_zero] at hv225_0; replace hv225_0 := Option.some.inj (hv225_0.symm.trans hx225_0); injection hv225_0 with hva_ hvn_ hvc_; rw [hva_] at ge225_0; rw [hvc_] at ul225_0; have HL225_0 := Aside0.mk (show Kd.V (Kd.int .u64) 30 _ w.heap.size _ _ ((rd_T89 t219 2).f0) from Kd.V_mk ul225_0 ge225_0); clear hva_ hvn_ hvc_ ge225_0 ul225_0; clear hcc225 hce225; (try simp only [show (2 : Int).toNat = 2 from rfl, Nat.reduceMul, Nat.reduceEqDiff, Go.Addr.add, ↓reduceIte] at hx225_0); (try simp only [show (2 : Int).toNat = 2 from rfl, Nat.reduceMul, Nat.reduceEqDiff, Go.Addr.add, ↓reduceIte] at hx225_1); have qi225 : (2 < t219.length) = True := eq_true (by omega); (try rw [show ((2 : Int)).toNat = 2 from rfl] at hx225_0); (try rw [show 2 * 2 = 4 from rfl] at hx225_0); (try rw [show ((2 : Int)).toNat = 2 from rfl] at hx225_1); (try rw [show 2 * 2 = 4 from rfl] at hx225_1); have HR225_0 := Aside0.mk hi225_0; have HC225_0 := Aside0.mk hl225_0; clear hi225_0 hl225_0; replace p225 := eq_true p225; replace q225 := eq_true q225; have p226 : 0 ≤ (0 : Int) := (by omega); have q226 : 0 < (((rd_T89 t219 2).f0).length : Int) := of_decide_eq_true (by first | (with_reducible assumption) | assumption); obtain ⟨ad226, e226, hx226_0⟩ := Kd.at_int (by repeat (first | (with_reducible exact HR225_0.out) | (with_reducible refine Kd.C_alloc ?_ _) | (with_reducible refine Kd.C_drewN ?_ _) | (with_reducible refine Kd.C_drew ?_) | exact HR225_0.out)) 0 p226 q226; cases e226; have qi226 : (0 < ((rd_T89 t219 2).f0).length) = True := eq_true (by omega); (try rw [show ((0 : Int)).toNat = 0 from rfl] at hx226_0); (try rw [Addr.add_zero'] at hx226_0); replace p226 := eq_true p226; replace q226 := eq_true q226; have p227 : 0 ≤ (3 : Int) := (by omega); have q227 : 3 < (t219.length : Int) := of_decide_eq_true (by first | (with_reducible assumption) | assumption); obtain ⟨ad227, A227_0, c227_0, e227, hx227_0, hx227_1, hl227_0, hi227_0⟩ := at_T89 (Kd.N_reads' HO221.out).2.2 3 p227 q227; obtain rfl : ad223 = ad227 := (by injection e227); obtain ⟨ce227, hce227, hMe227, hcc227⟩ := Kd.N_get HO221.out z89 3 p227 (by first | exact q227 | exact of_decide_eq_true (by first | (with_reducible assumption) | assumption) | (have e_ := (Kd.N_reads' HO221.out).1; omega)); obtain ⟨ua227_0, uc227_0, rfl, ul227_0, ge227_0⟩ := k89_openF hMe227; have hv227_0 := hcc227 0 _ rfl; rw [Nat.add_zero] at hv227_0; replace hv227_0 := Option.some.inj (hv227_0.symm.trans hx227_0); injection hv227_0 with hva_ hvn_ hvc_; rw [hva_] at ge227_0; rw [hvc_] at ul227_0; have HL227_0 := Aside0.mk (show Kd.V (Kd.int .u64) 30 _ w.heap.size _ _ ((rd_T89 t219 3).f0) from Kd.V_mk ul227_0 ge227_0); clear hva_ hvn_ hvc_ ge227_0 ul227_0; clear hcc227 hce227; (try simp only [show (3 : Int).toNat = 3 from rfl, Nat.reduceMul, Nat.reduceEqDiff, Go.Addr.add, ↓reduceIte] at hx227_0); (try simp only [show (3 : Int).toNat = 3 from rfl, Nat.reduceMul, Nat.reduceEqDiff, Go.Addr.add, ↓reduceIte] at hx227_1); have qi227 : (3 < t219.length) = True := eq_true (by omega); (try rw [show ((3 : Int)).toNat = 3 from rfl] at hx227_0); (try rw [show 3 * 2 = 6 from rfl] at hx227_0); (try rw [show ((3 : Int)).toNat = 3 from rfl] at hx227_1); (try rw [show 3 * 2 = 6 from rfl] at hx227_1); have HR227_0 := Aside0.mk hi227_0; have HC227_0 := Aside0.mk hl227_0; clear hi227_0 hl227_0; replace p227 := eq_true p227; replace q227 := eq_true q227; have p228 : 0 ≤ (0 : Int) := (by omega); have q228 : 0 < (((rd_T89 t219 3).f0).length : Int) := of_decide_eq_true (by first | (with_reducible assumption) | assumption); obtain ⟨ad228, e228, hx228_0⟩ := Kd.at_int (by repeat (first | (with_reducible exact HR227_0.out) | (with_reducible refine Kd.C_alloc ?_ _) | (with_reducible refine Kd.C_drewN ?_ _) | (with_reducible refine Kd.C_drew ?_) | exact HR227_0.out)) 0 p228 q228; cases e228; have qi228 : (0 < ((rd_T89 t219 3).f0).length) = True := eq_true (by omega); (try rw [show ((0 : Int)).toNat = 0 from rfl] at hx228_0); (try rw [Addr.add_zero'] at hx228_0); replace p228 := eq_true p228; replace q228 := eq_true q228))
            go_ret
            exact ⟨by first | rfl | (simp [errW_none, errW_some] <;> rfl) | (simp [*, errW_none, errW_some] <;> rfl), by repeat (first | (with_reducible first | exact HB.out | apply below_alloc | apply pw_below_drewN | apply below_drew1) | exact HB.out)⟩
           ·rw [if_neg c12] at H
            exact absurd H (by simp)
          ·rw [if_neg c11] at H
           exact absurd H (by simp)
         ·rw [if_neg c10] at H
          have c10b0 : ((rd ((rd_T89 t219 2).f0) 0) == 4) = false := beq_eq_false_iff_ne.mpr c10
          have c10b1 : ((rd ((rd_T89 t219 2).f0) 0) != 4) = true := bne_iff_ne.mpr c10
          obtain rfl := Option.some.inj H
          go_enter Try.func66, Try.ntmps66
          go_wp2_with (first | ((with_reducible refine gate_dst (N := 4) rfl ?_); (try (refine gate_guard (by rfl) ?_; dsimp only)); refine Kd.R_lit (Kd.int .u64) _ 30 ?hg (N := 4) ?hd (xs := ([1] : List Int)) (inner := [.int .u64 1]) (ok := fun _ => True) (okp := fun _ => True) ?hr ?hp (fun _ hk => hk) trivial (Below.refl _ _) (Nat.le_refl _) (by simp) ?_; (case hd => rfl); (case hg => rfl); (case hr => first | (go_simp; done) | (go_simp; rfl)); (case hp => exact (Reps.one (show Kd.M (Kd.int .u64) _ _ _ 1 [.int .u64 1] from rfl) (Reps.none _ _))); intro v214 w21 ho22 hb hg_ hnew_; clear hg_ hnew_; (first | rw [← Ny213.out] at ho22 | (simp only [Int.reduceToNat] at ho22; rw [← Ny213.out] at ho22)); have n0_ := Aside0.mk (Kd.R_lower ho22 (below_size (by repeat (first | (with_reducible first | exact HB.out | apply below_alloc | apply pw_below_drewN | apply below_drew1) | exact HB.out)))); have n1_ := Aside0.mk (below_step (by repeat (first | (with_reducible first | exact HB.out | apply below_alloc | apply pw_below_drewN | apply below_drew1) | exact HB.out)) hb); clear HB; have HO215 := n0_; have HB := n1_; clear n0_ n1_; clear hb ho22) | ((with_reducible refine gate_dst (N := 5) rfl ?_); (try (refine gate_guard (by rfl) ?_; dsimp only)); refine Kd.R_lit (Kd.int .u64) _ 30 ?hg (N := 5) ?hd (xs := ([6] : List Int)) (inner := [.int .u64 6]) (ok := fun _ => True) (okp := fun _ => True) ?hr ?hp (fun _ hk => hk) trivial (Below.refl _ _) (Nat.le_refl _) (by simp) ?_; (case hd => rfl); (case hg => rfl); (case hr => first | (go_simp; done) | (go_simp; rfl)); (case hp => exact (Reps.one (show Kd.M (Kd.int .u64) _ _ _ 6 [.int .u64 6] from rfl) (Reps.none _ _))); intro v217 w23 ho24 hb hg_ hnew_; clear hg_ hnew_; (first | rw [← Ny216.out] at ho24 | (simp only [Int.reduceToNat] at ho24; rw [← Ny216.out] at ho24)); have n0_ := Aside0.mk (Kd.R_elder' (by (with_reducible repeat (first | apply Kd.R_alloc | apply Kd.R_drewN | apply Kd.R_drew)); exact HO215.out) (Kd.R_base ho24) hb); have n1_ := Aside0.mk (Kd.R_lower (Kd.R_new' ho24 (Kd.R_lt (by (with_reducible repeat (first | apply Kd.R_alloc | apply Kd.R_drewN | apply Kd.R_drew)); exact HO215.out))) (below_size (by repeat (first | (with_reducible first | exact HB.out | apply below_alloc | apply pw_below_drewN | apply below_drew1) | exact HB.out)))); have n2_ := Aside0.mk (below_step (by repeat (first | (with_reducible first | exact HB.out | apply below_alloc | apply pw_below_drewN | apply below_drew1) | exact HB.out)) hb); clear HO215; clear HB; have HO215 := n0_; have HO218 := n1_; have HB := n2_; clear n0_ n1_ n2_; clear hb ho24; obtain ⟨Ao25, co25, eo25⟩ := Kd.R_slice HO218.out; subst eo25; obtain ⟨Ao26, co26, eo26⟩ := Kd.R_slice HO215.out; subst eo26) | ((with_reducible refine gate_callee (f := 67) rfl ?_); refine goesL_ (some 7) rfl rfl Try.func67 (by kernel_rfl) rfl #[.agg #[.slice Ao26 y213.length co26, .slice Ao25 y216.length co25], .int .i64 9] rfl (by (try simp only [List.map_toArray, List.map_cons, List.map_nil]); first | done | rfl | (simp only [List.length_drop, List.length_take]; rfl)) ?_; (with_reducible refine (cover_Cells.calls k _ _ y213 _ _ y216 9 t219 t222 _ ?side1 ?side2 ?side3 ?side4 A1.out).mono ?_); (case side1 => repeat (first | exact (Kd.R_reads' HO215.out).2.2 | (with_reducible refine Kd.C_alloc ?_ _) | (with_reducible refine Kd.C_drewN ?_ _) | (with_reducible refine Kd.C_drew ?_))); (case side2 => exact (Kd.R_reads' HO215.out).2.1); (case side3 => repeat (first | exact (Kd.R_reads' HO218.out).2.2 | (with_reducible refine Kd.C_alloc ?_ _) | (with_reducible refine Kd.C_drewN ?_ _) | (with_reducible refine Kd.C_drew ?_))); (case side4 => exact (Kd.R_reads' HO218.out).2.1); rintro e w27 ⟨v220, rfl, ho0, hb⟩; refine ⟨_, rfl, ?_⟩; have n0_ := Aside0.mk (Kd.R_below (by (with_reducible repeat (first | apply Kd.R_alloc | apply Kd.R_drewN | apply Kd.R_drew)); exact HO215.out) hb); have n1_ := Aside0.mk (Kd.R_below (by (with_reducible repeat (first | apply Kd.R_alloc | apply Kd.R_drewN | apply Kd.R_drew)); exact HO218.out) hb); have n2_ := Aside0.mk (Kd.N_lower (Kd.N_mono (ok' := fun k_ => some k_ ≠ (.slice Ao26 y213.length co26 : Value).ownBlock ∧ some k_ ≠ (.slice Ao25 y216.length co25 : Value).ownBlock) ho0 (fun k_ hk_ => ⟨(Kd.fresh' (Kd.R_lt (by (with_reducible repeat (first | apply Kd.R_alloc | apply Kd.R_drewN | apply Kd.R_drew)); exact HO215.out)) k_ hk_), (Kd.fresh' (Kd.R_lt (by (with_reducible repeat (first | apply Kd.R_alloc | apply Kd.R_drewN | apply Kd.R_drew)); exact HO218.out)) k_ hk_)⟩)) (below_size (by repeat (first | (with_reducible first | exact HB.out | apply below_alloc | apply pw_below_drewN | apply below_drew1) | exact HB.out)))); have n3_ := Aside0.mk (below_step (by repeat (first | (with_reducible first | exact HB.out | apply below_alloc | apply pw_below_drewN | apply below_drew1) | exact HB.out)) hb); clear HO215; clear HO218; clear HB; have HO215 := n0_; have HO218 := n1_; have HO221 := n2_; have HB := n3_; clear n0_ n1_ n2_ n3_; (try clear hb); (try clear hb2); (try clear hk); (try clear hi); (try clear ho0); obtain ⟨Ao28, co28, eo28⟩ := Kd.N_slice HO221.out; subst eo28; have p223 : 0 ≤ (0 : Int) := (by omega); have q223 : 0 < (t219.length : Int) := of_decide_eq_true (by first | (with_reducible assumption) | assumption); obtain ⟨ad223, A223_0, c223_0, e223, hx223_0, hx223_1, hl223_0, hi223_0⟩ := at_T89 (Kd.N_reads' HO221.out).2.2 0 p223 q223; cases e223; obtain ⟨ce223, hce223, hMe223, hcc223⟩ := Kd.N_get HO221.out z89 0 p223 (by first | exact q223 | exact of_decide_eq_true (by first | (with_reducible assumption) | assumption) | (have e_ := (Kd.N_reads' HO221.out).1; omega)); obtain ⟨ua223_0, uc223_0, rfl, ul223_0, ge223_0⟩ := k89_openF hMe223; have hv223_0 := hcc223 0 _ rfl; rw [Nat.add_zero] at hv223_0; replace hv223_0 := Option.some.inj (hv223_0.symm.trans hx223_0); injection hv223_0 with hva_ hvn_ hvc_; rw [hva_] at ge223_0; rw [hvc_] at ul223_0; have HL223_0 := Aside0.mk (show Kd.V (Kd.int .u64) 30 _ w.heap.size _ _ ((rd_T89 t219 0).f0) from Kd.V_mk ul223_0 ge223_0); clear hva_ hvn_ hvc_ ge223_0 ul223_0; clear hcc223 hce223; have qi223 : (0 < t219.length) = True := eq_true (by omega); (try rw [show ((0 : Int)).toNat = 0 from rfl] at hx223_0); (try rw [show 0 * 2 = 0 from rfl] at hx223_0); (try rw [Addr.add_zero'] at hx223_0); (try rw [show ((0 : Int)).toNat = 0 from rfl] at hx223_1); (try rw [show 0 * 2 = 0 from rfl] at hx223_1); (try rw [Addr.add_zero'] at hx223_1); have HR223_0 := Aside0.mk hi223_0; have HC223_0 := Aside0.mk hl223_0; clear hi223_0 hl223_0; replace p223 := eq_true p223; replace q223 := eq_true q223; have p224 : 0 ≤ (1 : Int) := (by omega); have q224 : 1 < (t219.length : Int) := of_decide_eq_true (by first | (with_reducible assumption) | assumption); obtain ⟨ad224, A224_0, c224_0, e224, hx224_0, hx224_1, hl224_0, hi224_0⟩ := at_T89 (Kd.N_reads' HO221.out).2.2 1 p224 q224; obtain rfl : ad223 = ad224 := (by injection e224); obtain ⟨ce224, hce224, hMe224, hcc224⟩ := Kd.N_get HO221.out z89 1 p224 (by first | exact q224 | exact of_decide_eq_true (by first | (with_reducible assumption) | assumption) | (have e_ := (Kd.N_reads' HO221.out).1; omega)); obtain ⟨ua224_0, uc224_0, rfl, ul224_0, ge224_0⟩ := k89_openF hMe224; have hv224_0 := hcc224 0 _ rfl; rw [Nat.add_zero] at hv224_0; replace hv224_0 := Option.some.inj (hv224_0.symm.trans hx224_0); injection hv224_0 with hva_ hvn_ hvc_; rw [hva_] at ge224_0; rw [hvc_] at ul224_0; have HL224_0 := Aside0.mk (show Kd.V (Kd.int .u64) 30 _ w.heap.size _ _ ((rd_T89 t219 1).f0) from Kd.V_mk ul224_0 ge224_0); clear hva_ hvn_ hvc_ ge224_0 ul224_0; clear hcc224 hce224; (try simp only [show (1 : Int).toNat = 1 from rfl, Nat.reduceMul, Nat.reduceEqDiff, Go.Addr.add, ↓reduceIte] at hx224_0); (try simp only [show (1 : Int).toNat = 1 from rfl, Nat.reduceMul, Nat.reduceEqDiff, Go.Addr.add, ↓reduceIte] at hx224_1); have qi224 : (1 < t219.length) = True := eq_true (by omega); (try rw [show ((1 : Int)).toNat = 1 from rfl] at hx224_0); (try rw [show 1 * 2 = 2 from rfl] at hx224_0); (try rw [show ((1 : Int)).toNat = 1 from rfl] at hx224_1); (try rw [show 1 * 2 = 2 from rfl] at hx224_1); have HR224_0 := Aside0.mk hi224_0; have HC224_0 := Aside0.mk hl224_0; clear hi224_0 hl224_0; replace p224 := eq_true p224; replace q224 := eq_true q224; have p225 : 0 ≤ (2 : Int) := (by omega); have q225 : 2 < (t219.length : Int) := of_decide_eq_true (by first | (with_reducible assumption) | assumption); obtain ⟨ad225, A225_0, c225_0, e225, hx225_0, hx225_1, hl225_0, hi225_0⟩ := at_T89 (Kd.N_reads' HO221.out).2.2 2 p225 q225; obtain rfl : ad223 = ad225 := (by injection e225); obtain ⟨ce225, hce225, hMe225, hcc225⟩ := Kd.N_get HO221.out z89 2 p225 (by first | exact q225 | exact of_decide_eq_true (by first | (with_reducible assumption) | assumption) | (have e_ := (Kd.N_reads' HO221.out).1; omega)); obtain ⟨ua225_0, uc225_0, rfl, ul225_0, ge225_0⟩ := k89_openF hMe225; have hv225_0 := hcc225 0 _ rfl; rw [Nat.add_zero] at hv225_0; replace hv225_0 := Option.some.inj (hv225_0.symm.trans hx225_0); injection hv225_0 with hva_ hvn_ hvc_; rw [hva_] at ge225_0; rw [hvc_] at ul225_0; have HL225_0 := Aside0.mk (show Kd.V (Kd.int .u64) 30 _ w.heap.size _ _ ((rd_T89 t219 2).f0) from Kd.V_mk ul225_0 ge225_0); clear hva_ hvn_ hvc_ ge225_0 ul225_0; clear hcc225 hce225; (try simp only [show (2 : Int).toNat = 2 from rfl, Nat.reduceMul, Nat.reduceEqDiff, Go.Addr.add, ↓reduceIte] at hx225_0); (try simp only [show (2 : Int).toNat = 2 from rfl, Nat.reduceMul, Nat.reduceEqDiff, Go.Addr.add, ↓reduceIte] at hx225_1); have qi225 : (2 < t219.length) = True := eq_true (by omega); (try rw [show ((2 : Int)).toNat = 2 from rfl] at hx225_0); (try rw [show 2 * 2 = 4 from rfl] at hx225_0); (try rw [show ((2 : Int)).toNat = 2 from rfl] at hx225_1); (try rw [show 2 * 2 = 4 from rfl] at hx225_1); have HR225_0 := Aside0.mk hi225_0; have HC225_0 := Aside0.mk hl225_0; clear hi225_0 hl225_0; replace p225 := eq_true p225; replace q225 := eq_true q225; have p226 : 0 ≤ (0 : Int) := (by omega); have q226 : 0 < (((rd_T89 t219 2).f0).length : Int) := of_decide_eq_true (by first | (with_reducible assumption) | assumption); obtain ⟨ad226, e226, hx226_0⟩ := Kd.at_int (by repeat (first | (with_reducible exact HR225_0.out) | (with_reducible refine Kd.C_alloc ?_ _) | (with_reducible refine Kd.C_drewN ?_ _) | (with_reducible refine Kd.C_drew ?_) | exact HR225_0.out)) 0 p226 q226; cases e226; have qi226 : (0 < ((rd_T89 t219 2).f0).length) = True := eq_true (by omega); (try rw [show ((0 : Int)).toNat = 0 from rfl] at hx226_0); (try rw [Addr.add_zero'] at hx226_0); replace p226 := eq_true p226; replace q226 := eq_true q226))
          go_ret
          exact ⟨by first | rfl | (simp [errW_none, errW_some] <;> rfl) | (simp [*, errW_none, errW_some] <;> rfl), by repeat (first | (with_reducible first | exact HB.out | apply below_alloc | apply pw_below_drewN | apply below_drew1) | exact HB.out)⟩
        ·rw [if_neg c9] at H
         exact absurd H (by simp)
       ·rw [if_neg c8] at H
        exact absurd H (by simp)
      ·rw [if_neg c7] at H
       have c7b0 : (((rd_T89 t219 1).f1) == 0) = false := beq_eq_false_iff_ne.mpr c7
       have c7b1 : (((rd_T89 t219 1).f1) != 0) = true := bne_iff_ne.mpr c7
       obtain rfl := Option.some.inj H
       go_enter Try.func66, Try.ntmps66
       go_wp2_with (first | ((with_reducible refine gate_dst (N := 4) rfl ?_); (try (refine gate_guard (by rfl) ?_; dsimp only)); refine Kd.R_lit (Kd.int .u64) _ 30 ?hg (N := 4) ?hd (xs := ([1] : List Int)) (inner := [.int .u64 1]) (ok := fun _ => True) (okp := fun _ => True) ?hr ?hp (fun _ hk => hk) trivial (Below.refl _ _) (Nat.le_refl _) (by simp) ?_; (case hd => rfl); (case hg => rfl); (case hr => first | (go_simp; done) | (go_simp; rfl)); (case hp => exact (Reps.one (show Kd.M (Kd.int .u64) _ _ _ 1 [.int .u64 1] from rfl) (Reps.none _ _))); intro v214 w29 ho30 hb hg_ hnew_; clear hg_ hnew_; (first | rw [← Ny213.out] at ho30 | (simp only [Int.reduceToNat] at ho30; rw [← Ny213.out] at ho30)); have n0_ := Aside0.mk (Kd.R_lower ho30 (below_size (by repeat (first | (with_reducible first | exact HB.out | apply below_alloc | apply pw_below_drewN | apply below_drew1) | exact HB.out)))); have n1_ := Aside0.mk (below_step (by repeat (first | (with_reducible first | exact HB.out | apply below_alloc | apply pw_below_drewN | apply below_drew1) | exact HB.out)) hb); clear HB; have HO215 := n0_; have HB := n1_; clear n0_ n1_; clear hb ho30) | ((with_reducible refine gate_dst (N := 5) rfl ?_); (try (refine gate_guard (by rfl) ?_; dsimp only)); refine Kd.R_lit (Kd.int .u64) _ 30 ?hg (N := 5) ?hd (xs := ([6] : List Int)) (inner := [.int .u64 6]) (ok := fun _ => True) (okp := fun _ => True) ?hr ?hp (fun _ hk => hk) trivial (Below.refl _ _) (Nat.le_refl _) (by simp) ?_; (case hd => rfl); (case hg => rfl); (case hr => first | (go_simp; done) | (go_simp; rfl)); (case hp => exact (Reps.one (show Kd.M (Kd.int .u64) _ _ _ 6 [.int .u64 6] from rfl) (Reps.none _ _))); intro v217 w31 ho32 hb hg_ hnew_; clear hg_ hnew_; (first | rw [← Ny216.out] at ho32 | (simp only [Int.reduceToNat] at ho32; rw [← Ny216.out] at ho32)); have n0_ := Aside0.mk (Kd.R_elder' (by (with_reducible repeat (first | apply Kd.R_alloc | apply Kd.R_drewN | apply Kd.R_drew)); exact HO215.out) (Kd.R_base ho32) hb); have n1_ := Aside0.mk (Kd.R_lower (Kd.R_new' ho32 (Kd.R_lt (by (with_reducible repeat (first | apply Kd.R_alloc | apply Kd.R_drewN | apply Kd.R_drew)); exact HO215.out))) (below_size (by repeat (first | (with_reducible first | exact HB.out | apply below_alloc | apply pw_below_drewN | apply below_drew1) | exact HB.out)))); have n2_ := Aside0.mk (below_step (by repeat (first | (with_reducible first | exact HB.out | apply below_alloc | apply pw_below_drewN | apply below_drew1) | exact HB.out)) hb); clear HO215; clear HB; have HO215 := n0_; have HO218 := n1_; have HB := n2_; clear n0_ n1_ n2_; clear hb ho32; obtain ⟨Ao33, co33, eo33⟩ := Kd.R_slice HO218.out; subst eo33; obtain ⟨Ao34, co34, eo34⟩ := Kd.R_slice HO215.out; subst eo34) | ((with_reducible refine gate_callee (f := 67) rfl ?_); refine goesL_ (some 7) rfl rfl Try.func67 (by kernel_rfl) rfl #[.agg #[.slice Ao34 y213.length co34, .slice Ao33 y216.length co33], .int .i64 9] rfl (by (try simp only [List.map_toArray, List.map_cons, List.map_nil]); first | done | rfl | (simp only [List.length_drop, List.length_take]; rfl)) ?_; (with_reducible refine (cover_Cells.calls k _ _ y213 _ _ y216 9 t219 t222 _ ?side1 ?side2 ?side3 ?side4 A1.out).mono ?_); (case side1 => repeat (first | exact (Kd.R_reads' HO215.out).2.2 | (with_reducible refine Kd.C_alloc ?_ _) | (with_reducible refine Kd.C_drewN ?_ _) | (with_reducible refine Kd.C_drew ?_))); (case side2 => exact (Kd.R_reads' HO215.out).2.1); (case side3 => repeat (first | exact (Kd.R_reads' HO218.out).2.2 | (with_reducible refine Kd.C_alloc ?_ _) | (with_reducible refine Kd.C_drewN ?_ _) | (with_reducible refine Kd.C_drew ?_))); (case side4 => exact (Kd.R_reads' HO218.out).2.1); rintro e w35 ⟨v220, rfl, ho0, hb⟩; refine ⟨_, rfl, ?_⟩; have n0_ := Aside0.mk (Kd.R_below (by (with_reducible repeat (first | apply Kd.R_alloc | apply Kd.R_drewN | apply Kd.R_drew)); exact HO215.out) hb); have n1_ := Aside0.mk (Kd.R_below (by (with_reducible repeat (first | apply Kd.R_alloc | apply Kd.R_drewN | apply Kd.R_drew)); exact HO218.out) hb); have n2_ := Aside0.mk (Kd.N_lower (Kd.N_mono (ok' := fun k_ => some k_ ≠ (.slice Ao34 y213.length co34 : Value).ownBlock ∧ some k_ ≠ (.slice Ao33 y216.length co33 : Value).ownBlock) ho0 (fun k_ hk_ => ⟨(Kd.fresh' (Kd.R_lt (by (with_reducible repeat (first | apply Kd.R_alloc | apply Kd.R_drewN | apply Kd.R_drew)); exact HO215.out)) k_ hk_), (Kd.fresh' (Kd.R_lt (by (with_reducible repeat (first | apply Kd.R_alloc | apply Kd.R_drewN | apply Kd.R_drew)); exact HO218.out)) k_ hk_)⟩)) (below_size (by repeat (first | (with_reducible first | exact HB.out | apply below_alloc | apply pw_below_drewN | apply below_drew1) | exact HB.out)))); have n3_ := Aside0.mk (below_step (by repeat (first | (with_reducible first | exact HB.out | apply below_alloc | apply pw_below_drewN | apply below_drew1) | exact HB.out)) hb); clear HO215; clear HO218; clear HB; have HO215 := n0_; have HO218 := n1_; have HO221 := n2_; have HB := n3_; clear n0_ n1_ n2_ n3_; (try clear hb); (try clear hb2); (try clear hk); (try clear hi); (try clear ho0); obtain ⟨Ao36, co36, eo36⟩ := Kd.N_slice HO221.out; subst eo36; have p223 : 0 ≤ (0 : Int) := (by omega); have q223 : 0 < (t219.length : Int) := of_decide_eq_true (by first | (with_reducible assumption) | assumption); obtain ⟨ad223, A223_0, c223_0, e223, hx223_0, hx223_1, hl223_0, hi223_0⟩ := at_T89 (Kd.N_reads' HO221.out).2.2 0 p223 q223; cases e223; obtain ⟨ce223, hce223, hMe223, hcc223⟩ := Kd.N_get HO221.out z89 0 p223 (by first | exact q223 | exact of_decide_eq_true (by first | (with_reducible assumption) | assumption) | (have e_ := (Kd.N_reads' HO221.out).1; omega)); obtain ⟨ua223_0, uc223_0, rfl, ul223_0, ge223_0⟩ := k89_openF hMe223; have hv223_0 := hcc223 0 _ rfl; rw [Nat.add_zero] at hv223_0; replace hv223_0 := Option.some.inj (hv223_0.symm.trans hx223_0); injection hv223_0 with hva_ hvn_ hvc_; rw [hva_] at ge223_0; rw [hvc_] at ul223_0; have HL223_0 := Aside0.mk (show Kd.V (Kd.int .u64) 30 _ w.heap.size _ _ ((rd_T89 t219 0).f0) from Kd.V_mk ul223_0 ge223_0); clear hva_ hvn_ hvc_ ge223_0 ul223_0; clear hcc223 hce223; have qi223 : (0 < t219.length) = True := eq_true (by omega); (try rw [show ((0 : Int)).toNat = 0 from rfl] at hx223_0); (try rw [show 0 * 2 = 0 from rfl] at hx223_0); (try rw [Addr.add_zero'] at hx223_0); (try rw [show ((0 : Int)).toNat = 0 from rfl] at hx223_1); (try rw [show 0 * 2 = 0 from rfl] at hx223_1); (try rw [Addr.add_zero'] at hx223_1); have HR223_0 := Aside0.mk hi223_0; have HC223_0 := Aside0.mk hl223_0; clear hi223_0 hl223_0; replace p223 := eq_true p223; replace q223 := eq_true q223; have p224 : 0 ≤ (1 : Int) := (by omega); have q224 : 1 < (t219.length : Int) := of_decide_eq_true (by first | (with_reducible assumption) | assumption); obtain ⟨ad224, A224_0, c224_0, e224, hx224_0, hx224_1, hl224_0, hi224_0⟩ := at_T89 (Kd.N_reads' HO221.out).2.2 1 p224 q224; obtain rfl : ad223 = ad224 := (by injection e224); obtain ⟨ce224, hce224, hMe224, hcc224⟩ := Kd.N_get HO221.out z89 1 p224 (by first | exact q224 | exact of_decide_eq_true (by first | (with_reducible assumption) | assumption) | (have e_ := (Kd.N_reads' HO221.out).1; omega)); obtain ⟨ua224_0, uc224_0, rfl, ul224_0, ge224_0⟩ := k89_openF hMe224; have hv224_0 := hcc224 0 _ rfl; rw [Nat.add_zero] at hv224_0; replace hv224_0 := Option.some.inj (hv224_0.symm.trans hx224_0); injection hv224_0 with hva_ hvn_ hvc_; rw [hva_] at ge224_0; rw [hvc_] at ul224_0; have HL224_0 := Aside0.mk (show Kd.V (Kd.int .u64) 30 _ w.heap.size _ _ ((rd_T89 t219 1).f0) from Kd.V_mk ul224_0 ge224_0); clear hva_ hvn_ hvc_ ge224_0 ul224_0; clear hcc224 hce224; (try simp only [show (1 : Int).toNat = 1 from rfl, Nat.reduceMul, Nat.reduceEqDiff, Go.Addr.add, ↓reduceIte] at hx224_0); (try simp only [show (1 : Int).toNat = 1 from rfl, Nat.reduceMul, Nat.reduceEqDiff, Go.Addr.add, ↓reduceIte] at hx224_1); have qi224 : (1 < t219.length) = True := eq_true (by omega); (try rw [show ((1 : Int)).toNat = 1 from rfl] at hx224_0); (try rw [show 1 * 2 = 2 from rfl] at hx224_0); (try rw [show ((1 : Int)).toNat = 1 from rfl] at hx224_1); (try rw [show 1 * 2 = 2 from rfl] at hx224_1); have HR224_0 := Aside0.mk hi224_0; have HC224_0 := Aside0.mk hl224_0; clear hi224_0 hl224_0; replace p224 := eq_true p224; replace q224 := eq_true q224))
       go_ret
       exact ⟨by first | rfl | (simp [errW_none, errW_some] <;> rfl) | (simp [*, errW_none, errW_some] <;> rfl), by repeat (first | (with_reducible first | exact HB.out | apply below_alloc | apply pw_below_drewN | apply below_drew1) | exact HB.out)⟩
     ·rw [if_neg c6] at H
      exact absurd H (by simp)
    ·rw [if_neg c5] at H
     have c5b0 : (((rd_T89 t219 0).f1) == (-1)) = false := beq_eq_false_iff_ne.mpr c5
     have c5b1 : (((rd_T89 t219 0).f1) != (-1)) = true := bne_iff_ne.mpr c5
     obtain rfl := Option.some.inj H
     go_enter Try.func66, Try.ntmps66
     go_wp2_with (first | ((with_reducible refine gate_dst (N := 4) rfl ?_); (try (refine gate_guard (by rfl) ?_; dsimp only)); refine Kd.R_lit (Kd.int .u64) _ 30 ?hg (N := 4) ?hd (xs := ([1] : List Int)) (inner := [.int .u64 1]) (ok := fun _ => True) (okp := fun _ => True) ?hr ?hp (fun _ hk => hk) trivial (Below.refl _ _) (Nat.le_refl _) (by simp) ?_; (case hd => rfl); (case hg => rfl); (case hr => first | (go_simp; done) | (go_simp; rfl)); (case hp => exact (Reps.one (show Kd.M (Kd.int .u64) _ _ _ 1 [.int .u64 1] from rfl) (Reps.none _ _))); intro v214 w37 ho38 hb hg_ hnew_; clear hg_ hnew_; (first | rw [← Ny213.out] at ho38 | (simp only [Int.reduceToNat] at ho38; rw [← Ny213.out] at ho38)); have n0_ := Aside0.mk (Kd.R_lower ho38 (below_size (by repeat (first | (with_reducible first | exact HB.out | apply below_alloc | apply pw_below_drewN | apply below_drew1) | exact HB.out)))); have n1_ := Aside0.mk (below_step (by repeat (first | (with_reducible first | exact HB.out | apply below_alloc | apply pw_below_drewN | apply below_drew1) | exact HB.out)) hb); clear HB; have HO215 := n0_; have HB := n1_; clear n0_ n1_; clear hb ho38) | ((with_reducible refine gate_dst (N := 5) rfl ?_); (try (refine gate_guard (by rfl) ?_; dsimp only)); refine Kd.R_lit (Kd.int .u64) _ 30 ?hg (N := 5) ?hd (xs := ([6] : List Int)) (inner := [.int .u64 6]) (ok := fun _ => True) (okp := fun _ => True) ?hr ?hp (fun _ hk => hk) trivial (Below.refl _ _) (Nat.le_refl _) (by simp) ?_; (case hd => rfl); (case hg => rfl); (case hr => first | (go_simp; done) | (go_simp; rfl)); (case hp => exact (Reps.one (show Kd.M (Kd.int .u64) _ _ _ 6 [.int .u64 6] from rfl) (Reps.none _ _))); intro v217 w39 ho40 hb hg_ hnew_; clear hg_ hnew_; (first | rw [← Ny216.out] at ho40 | (simp only [Int.reduceToNat] at ho40; rw [← Ny216.out] at ho40)); have n0_ := Aside0.mk (Kd.R_elder' (by (with_reducible repeat (first | apply Kd.R_alloc | apply Kd.R_drewN | apply Kd.R_drew)); exact HO215.out) (Kd.R_base ho40) hb); have n1_ := Aside0.mk (Kd.R_lower (Kd.R_new' ho40 (Kd.R_lt (by (with_reducible repeat (first | apply Kd.R_alloc | apply Kd.R_drewN | apply Kd.R_drew)); exact HO215.out))) (below_size (by repeat (first | (with_reducible first | exact HB.out | apply below_alloc | apply pw_below_drewN | apply below_drew1) | exact HB.out)))); have n2_ := Aside0.mk (below_step (by repeat (first | (with_reducible first | exact HB.out | apply below_alloc | apply pw_below_drewN | apply below_drew1) | exact HB.out)) hb); clear HO215; clear HB; have HO215 := n0_; have HO218 := n1_; have HB := n2_; clear n0_ n1_ n2_; clear hb ho40; obtain ⟨Ao41, co41, eo41⟩ := Kd.R_slice HO218.out; subst eo41; obtain ⟨Ao42, co42, eo42⟩ := Kd.R_slice HO215.out; subst eo42) | ((with_reducible refine gate_callee (f := 67) rfl ?_); refine goesL_ (some 7) rfl rfl Try.func67 (by kernel_rfl) rfl #[.agg #[.slice Ao42 y213.length co42, .slice Ao41 y216.length co41], .int .i64 9] rfl (by (try simp only [List.map_toArray, List.map_cons, List.map_nil]); first | done | rfl | (simp only [List.length_drop, List.length_take]; rfl)) ?_; (with_reducible refine (cover_Cells.calls k _ _ y213 _ _ y216 9 t219 t222 _ ?side1 ?side2 ?side3 ?side4 A1.out).mono ?_); (case side1 => repeat (first | exact (Kd.R_reads' HO215.out).2.2 | (with_reducible refine Kd.C_alloc ?_ _) | (with_reducible refine Kd.C_drewN ?_ _) | (with_reducible refine Kd.C_drew ?_))); (case side2 => exact (Kd.R_reads' HO215.out).2.1); (case side3 => repeat (first | exact (Kd.R_reads' HO218.out).2.2 | (with_reducible refine Kd.C_alloc ?_ _) | (with_reducible refine Kd.C_drewN ?_ _) | (with_reducible refine Kd.C_drew ?_))); (case side4 => exact (Kd.R_reads' HO218.out).2.1); rintro e w43 ⟨v220, rfl, ho0, hb⟩; refine ⟨_, rfl, ?_⟩; have n0_ := Aside0.mk (Kd.R_below (by (with_reducible repeat (first | apply Kd.R_alloc | apply Kd.R_drewN | apply Kd.R_drew)); exact HO215.out) hb); have n1_ := Aside0.mk (Kd.R_below (by (with_reducible repeat (first | apply Kd.R_alloc | apply Kd.R_drewN | apply Kd.R_drew)); exact HO218.out) hb); have n2_ := Aside0.mk (Kd.N_lower (Kd.N_mono (ok' := fun k_ => some k_ ≠ (.slice Ao42 y213.length co42 : Value).ownBlock ∧ some k_ ≠ (.slice Ao41 y216.length co41 : Value).ownBlock) ho0 (fun k_ hk_ => ⟨(Kd.fresh' (Kd.R_lt (by (with_reducible repeat (first | apply Kd.R_alloc | apply Kd.R_drewN | apply Kd.R_drew)); exact HO215.out)) k_ hk_), (Kd.fresh' (Kd.R_lt (by (with_reducible repeat (first | apply Kd.R_alloc | apply Kd.R_drewN | apply Kd.R_drew)); exact HO218.out)) k_ hk_)⟩)) (below_size (by repeat (first | (with_reducible first | exact HB.out | apply below_alloc | apply pw_below_drewN | apply below_drew1) | exact HB.out)))); have n3_ := Aside0.mk (below_step (by repeat (first | (with_reducible first | exact HB.out | apply below_alloc | apply pw_below_drewN | apply below_drew1) | exact HB.out)) hb); clear HO215; clear HO218; clear HB; have HO215 := n0_; have HO218 := n1_; have HO221 := n2_; have HB := n3_; clear n0_ n1_ n2_ n3_; (try clear hb); (try clear hb2); (try clear hk); (try clear hi); (try clear ho0); obtain ⟨Ao44, co44, eo44⟩ := Kd.N_slice HO221.out; subst eo44; have p223 : 0 ≤ (0 : Int) := (by omega); have q223 : 0 < (t219.length : Int) := of_decide_eq_true (by first | (with_reducible assumption) | assumption); obtain ⟨ad223, A223_0, c223_0, e223, hx223_0, hx223_1, hl223_0, hi223_0⟩ := at_T89 (Kd.N_reads' HO221.out).2.2 0 p223 q223; cases e223; obtain ⟨ce223, hce223, hMe223, hcc223⟩ := Kd.N_get HO221.out z89 0 p223 (by first | exact q223 | exact of_decide_eq_true (by first | (with_reducible assumption) | assumption) | (have e_ := (Kd.N_reads' HO221.out).1; omega)); obtain ⟨ua223_0, uc223_0, rfl, ul223_0, ge223_0⟩ := k89_openF hMe223; have hv223_0 := hcc223 0 _ rfl; rw [Nat.add_zero] at hv223_0; replace hv223_0 := Option.some.inj (hv223_0.symm.trans hx223_0); injection hv223_0 with hva_ hvn_ hvc_; rw [hva_] at ge223_0; rw [hvc_] at ul223_0; have HL223_0 := Aside0.mk (show Kd.V (Kd.int .u64) 30 _ w.heap.size _ _ ((rd_T89 t219 0).f0) from Kd.V_mk ul223_0 ge223_0); clear hva_ hvn_ hvc_ ge223_0 ul223_0; clear hcc223 hce223; have qi223 : (0 < t219.length) = True := eq_true (by omega); (try rw [show ((0 : Int)).toNat = 0 from rfl] at hx223_0); (try rw [show 0 * 2 = 0 from rfl] at hx223_0); (try rw [Addr.add_zero'] at hx223_0); (try rw [show ((0 : Int)).toNat = 0 from rfl] at hx223_1); (try rw [show 0 * 2 = 0 from rfl] at hx223_1); (try rw [Addr.add_zero'] at hx223_1); have HR223_0 := Aside0.mk hi223_0; have HC223_0 := Aside0.mk hl223_0; clear hi223_0 hl223_0; replace p223 := eq_true p223; replace q223 := eq_true q223))
     go_ret
     exact ⟨by first | rfl | (simp [errW_none, errW_some] <;> rfl) | (simp [*, errW_none, errW_some] <;> rfl), by repeat (first | (with_reducible first | exact HB.out | apply below_alloc | apply pw_below_drewN | apply below_drew1) | exact HB.out)⟩
   ·rw [if_neg c4] at H
    exact absurd H (by simp)
  ·rw [if_neg c3] at H
   have c3b0 : ((t219.length : Int) == 4) = false := beq_eq_false_iff_ne.mpr c3
   have c3b1 : ((t219.length : Int) != 4) = true := bne_iff_ne.mpr c3
   obtain rfl := Option.some.inj H
   go_enter Try.func66, Try.ntmps66
   go_wp2_with (first | ((with_reducible refine gate_dst (N := 4) rfl ?_); (try (refine gate_guard (by rfl) ?_; dsimp only)); refine Kd.R_lit (Kd.int .u64) _ 30 ?hg (N := 4) ?hd (xs := ([1] : List Int)) (inner := [.int .u64 1]) (ok := fun _ => True) (okp := fun _ => True) ?hr ?hp (fun _ hk => hk) trivial (Below.refl _ _) (Nat.le_refl _) (by simp) ?_; (case hd => rfl); (case hg => rfl); (case hr => first | (go_simp; done) | (go_simp; rfl)); (case hp => exact (Reps.one (show Kd.M (Kd.int .u64) _ _ _ 1 [.int .u64 1] from rfl) (Reps.none _ _))); intro v214 w45 ho46 hb hg_ hnew_; clear hg_ hnew_; (first | rw [← Ny213.out] at ho46 | (simp only [Int.reduceToNat] at ho46; rw [← Ny213.out] at ho46)); have n0_ := Aside0.mk (Kd.R_lower ho46 (below_size (by repeat (first | (with_reducible first | exact HB.out | apply below_alloc | apply pw_below_drewN | apply below_drew1) | exact HB.out)))); have n1_ := Aside0.mk (below_step (by repeat (first | (with_reducible first | exact HB.out | apply below_alloc | apply pw_below_drewN | apply below_drew1) | exact HB.out)) hb); clear HB; have HO215 := n0_; have HB := n1_; clear n0_ n1_; clear hb ho46) | ((with_reducible refine gate_dst (N := 5) rfl ?_); (try (refine gate_guard (by rfl) ?_; dsimp only)); refine Kd.R_lit (Kd.int .u64) _ 30 ?hg (N := 5) ?hd (xs := ([6] : List Int)) (inner := [.int .u64 6]) (ok := fun _ => True) (okp := fun _ => True) ?hr ?hp (fun _ hk => hk) trivial (Below.refl _ _) (Nat.le_refl _) (by simp) ?_; (case hd => rfl); (case hg => rfl); (case hr => first | (go_simp; done) | (go_simp; rfl)); (case hp => exact (Reps.one (show Kd.M (Kd.int .u64) _ _ _ 6 [.int .u64 6] from rfl) (Reps.none _ _))); intro v217 w47 ho48 hb hg_ hnew_; clear hg_ hnew_; (first | rw [← Ny216.out] at ho48 | (simp only [Int.reduceToNat] at ho48; rw [← Ny216.out] at ho48)); have n0_ := Aside0.mk (Kd.R_elder' (by (with_reducible repeat (first | apply Kd.R_alloc | apply Kd.R_drewN | apply Kd.R_drew)); exact HO215.out) (Kd.R_base ho48) hb); have n1_ := Aside0.mk (Kd.R_lower (Kd.R_new' ho48 (Kd.R_lt (by (with_reducible repeat (first | apply Kd.R_alloc | apply Kd.R_drewN | apply Kd.R_drew)); exact HO215.out))) (below_size (by repeat (first | (with_reducible first | exact HB.out | apply below_alloc | apply pw_below_drewN | apply below_drew1) | exact HB.out)))); have n2_ := Aside0.mk (below_step (by repeat (first | (with_reducible first | exact HB.out | apply below_alloc | apply pw_below_drewN | apply below_drew1) | exact HB.out)) hb); clear HO215; clear HB; have HO215 := n0_; have HO218 := n1_; have HB := n2_; clear n0_ n1_ n2_; clear hb ho48; obtain ⟨Ao49, co49, eo49⟩ := Kd.R_slice HO218.out; subst eo49; obtain ⟨Ao50, co50, eo50⟩ := Kd.R_slice HO215.out; subst eo50) | ((with_reducible refine gate_callee (f := 67) rfl ?_); refine goesL_ (some 7) rfl rfl Try.func67 (by kernel_rfl) rfl #[.agg #[.slice Ao50 y213.length co50, .slice Ao49 y216.length co49], .int .i64 9] rfl (by (try simp only [List.map_toArray, List.map_cons, List.map_nil]); first | done | rfl | (simp only [List.length_drop, List.length_take]; rfl)) ?_; (with_reducible refine (cover_Cells.calls k _ _ y213 _ _ y216 9 t219 t222 _ ?side1 ?side2 ?side3 ?side4 A1.out).mono ?_); (case side1 => repeat (first | exact (Kd.R_reads' HO215.out).2.2 | (with_reducible refine Kd.C_alloc ?_ _) | (with_reducible refine Kd.C_drewN ?_ _) | (with_reducible refine Kd.C_drew ?_))); (case side2 => exact (Kd.R_reads' HO215.out).2.1); (case side3 => repeat (first | exact (Kd.R_reads' HO218.out).2.2 | (with_reducible refine Kd.C_alloc ?_ _) | (with_reducible refine Kd.C_drewN ?_ _) | (with_reducible refine Kd.C_drew ?_))); (case side4 => exact (Kd.R_reads' HO218.out).2.1); rintro e w51 ⟨v220, rfl, ho0, hb⟩; refine ⟨_, rfl, ?_⟩; have n0_ := Aside0.mk (Kd.R_below (by (with_reducible repeat (first | apply Kd.R_alloc | apply Kd.R_drewN | apply Kd.R_drew)); exact HO215.out) hb); have n1_ := Aside0.mk (Kd.R_below (by (with_reducible repeat (first | apply Kd.R_alloc | apply Kd.R_drewN | apply Kd.R_drew)); exact HO218.out) hb); have n2_ := Aside0.mk (Kd.N_lower (Kd.N_mono (ok' := fun k_ => some k_ ≠ (.slice Ao50 y213.length co50 : Value).ownBlock ∧ some k_ ≠ (.slice Ao49 y216.length co49 : Value).ownBlock) ho0 (fun k_ hk_ => ⟨(Kd.fresh' (Kd.R_lt (by (with_reducible repeat (first | apply Kd.R_alloc | apply Kd.R_drewN | apply Kd.R_drew)); exact HO215.out)) k_ hk_), (Kd.fresh' (Kd.R_lt (by (with_reducible repeat (first | apply Kd.R_alloc | apply Kd.R_drewN | apply Kd.R_drew)); exact HO218.out)) k_ hk_)⟩)) (below_size (by repeat (first | (with_reducible first | exact HB.out | apply below_alloc | apply pw_below_drewN | apply below_drew1) | exact HB.out)))); have n3_ := Aside0.mk (below_step (by repeat (first | (with_reducible first | exact HB.out | apply below_alloc | apply pw_below_drewN | apply below_drew1) | exact HB.out)) hb); clear HO215; clear HO218; clear HB; have HO215 := n0_; have HO218 := n1_; have HO221 := n2_; have HB := n3_; clear n0_ n1_ n2_ n3_; (try clear hb); (try clear hb2); (try clear hk); (try clear hi); (try clear ho0); obtain ⟨Ao52, co52, eo52⟩ := Kd.N_slice HO221.out; subst eo52))
   go_ret
   exact ⟨by first | rfl | (simp [errW_none, errW_some] <;> rfl) | (simp [*, errW_none, errW_some] <;> rfl), by repeat (first | (with_reducible first | exact HB.out | apply below_alloc | apply pw_below_drewN | apply below_drew1) | exact HB.out)⟩
 ·rw [if_neg c2] at H
  have c2b0 : (t222 == 0) = false := beq_eq_false_iff_ne.mpr c2
  have c2b1 : (t222 != 0) = true := bne_iff_ne.mpr c2
  obtain rfl := Option.some.inj H
  go_enter Try.func66, Try.ntmps66
  go_wp2_with (first | ((with_reducible refine gate_dst (N := 4) rfl ?_); (try (refine gate_guard (by rfl) ?_; dsimp only)); refine Kd.R_lit (Kd.int .u64) _ 30 ?hg (N := 4) ?hd (xs := ([1] : List Int)) (inner := [.int .u64 1]) (ok := fun _ => True) (okp := fun _ => True) ?hr ?hp (fun _ hk => hk) trivial (Below.refl _ _) (Nat.le_refl _) (by simp) ?_; (case hd => rfl); (case hg => rfl); (case hr => first | (go_simp; done) | (go_simp; rfl)); (case hp => exact (Reps.one (show Kd.M (Kd.int .u64) _ _ _ 1 [.int .u64 1] from rfl) (Reps.none _ _))); intro v214 w53 ho54 hb hg_ hnew_; clear hg_ hnew_; (first | rw [← Ny213.out] at ho54 | (simp only [Int.reduceToNat] at ho54; rw [← Ny213.out] at ho54)); have n0_ := Aside0.mk (Kd.R_lower ho54 (below_size (by repeat (first | (with_reducible first | exact HB.out | apply below_alloc | apply pw_below_drewN | apply below_drew1) | exact HB.out)))); have n1_ := Aside0.mk (below_step (by repeat (first | (with_reducible first | exact HB.out | apply below_alloc | apply pw_below_drewN | apply below_drew1) | exact HB.out)) hb); clear HB; have HO215 := n0_; have HB := n1_; clear n0_ n1_; clear hb ho54) | ((with_reducible refine gate_dst (N := 5) rfl ?_); (try (refine gate_guard (by rfl) ?_; dsimp only)); refine Kd.R_lit (Kd.int .u64) _ 30 ?hg (N := 5) ?hd (xs := ([6] : List Int)) (inner := [.int .u64 6]) (ok := fun _ => True) (okp := fun _ => True) ?hr ?hp (fun _ hk => hk) trivial (Below.refl _ _) (Nat.le_refl _) (by simp) ?_; (case hd => rfl); (case hg => rfl); (case hr => first | (go_simp; done) | (go_simp; rfl)); (case hp => exact (Reps.one (show Kd.M (Kd.int .u64) _ _ _ 6 [.int .u64 6] from rfl) (Reps.none _ _))); intro v217 w55 ho56 hb hg_ hnew_; clear hg_ hnew_; (first | rw [← Ny216.out] at ho56 | (simp only [Int.reduceToNat] at ho56; rw [← Ny216.out] at ho56)); have n0_ := Aside0.mk (Kd.R_elder' (by (with_reducible repeat (first | apply Kd.R_alloc | apply Kd.R_drewN | apply Kd.R_drew)); exact HO215.out) (Kd.R_base ho56) hb); have n1_ := Aside0.mk (Kd.R_lower (Kd.R_new' ho56 (Kd.R_lt (by (with_reducible repeat (first | apply Kd.R_alloc | apply Kd.R_drewN | apply Kd.R_drew)); exact HO215.out))) (below_size (by repeat (first | (with_reducible first | exact HB.out | apply below_alloc | apply pw_below_drewN | apply below_drew1) | exact HB.out)))); have n2_ := Aside0.mk (below_step (by repeat (first | (with_reducible first | exact HB.out | apply below_alloc | apply pw_below_drewN | apply below_drew1) | exact HB.out)) hb); clear HO215; clear HB; have HO215 := n0_; have HO218 := n1_; have HB := n2_; clear n0_ n1_ n2_; clear hb ho56; obtain ⟨Ao57, co57, eo57⟩ := Kd.R_slice HO218.out; subst eo57; obtain ⟨Ao58, co58, eo58⟩ := Kd.R_slice HO215.out; subst eo58) | ((with_reducible refine gate_callee (f := 67) rfl ?_); refine goesL_ (some 7) rfl rfl Try.func67 (by kernel_rfl) rfl #[.agg #[.slice Ao58 y213.length co58, .slice Ao57 y216.length co57], .int .i64 9] rfl (by (try simp only [List.map_toArray, List.map_cons, List.map_nil]); first | done | rfl | (simp only [List.length_drop, List.length_take]; rfl)) ?_; (with_reducible refine (cover_Cells.calls k _ _ y213 _ _ y216 9 t219 t222 _ ?side1 ?side2 ?side3 ?side4 A1.out).mono ?_); (case side1 => repeat (first | exact (Kd.R_reads' HO215.out).2.2 | (with_reducible refine Kd.C_alloc ?_ _) | (with_reducible refine Kd.C_drewN ?_ _) | (with_reducible refine Kd.C_drew ?_))); (case side2 => exact (Kd.R_reads' HO215.out).2.1); (case side3 => repeat (first | exact (Kd.R_reads' HO218.out).2.2 | (with_reducible refine Kd.C_alloc ?_ _) | (with_reducible refine Kd.C_drewN ?_ _) | (with_reducible refine Kd.C_drew ?_))); (case side4 => exact (Kd.R_reads' HO218.out).2.1); rintro e w59 ⟨v220, rfl, ho0, hb⟩; refine ⟨_, rfl, ?_⟩; have n0_ := Aside0.mk (Kd.R_below (by (with_reducible repeat (first | apply Kd.R_alloc | apply Kd.R_drewN | apply Kd.R_drew)); exact HO215.out) hb); have n1_ := Aside0.mk (Kd.R_below (by (with_reducible repeat (first | apply Kd.R_alloc | apply Kd.R_drewN | apply Kd.R_drew)); exact HO218.out) hb); have n2_ := Aside0.mk (Kd.N_lower (Kd.N_mono (ok' := fun k_ => some k_ ≠ (.slice Ao58 y213.length co58 : Value).ownBlock ∧ some k_ ≠ (.slice Ao57 y216.length co57 : Value).ownBlock) ho0 (fun k_ hk_ => ⟨(Kd.fresh' (Kd.R_lt (by (with_reducible repeat (first | apply Kd.R_alloc | apply Kd.R_drewN | apply Kd.R_drew)); exact HO215.out)) k_ hk_), (Kd.fresh' (Kd.R_lt (by (with_reducible repeat (first | apply Kd.R_alloc | apply Kd.R_drewN | apply Kd.R_drew)); exact HO218.out)) k_ hk_)⟩)) (below_size (by repeat (first | (with_reducible first | exact HB.out | apply below_alloc | apply pw_below_drewN | apply below_drew1) | exact HB.out)))); have n3_ := Aside0.mk (below_step (by repeat (first | (with_reducible first | exact HB.out | apply below_alloc | apply pw_below_drewN | apply below_drew1) | exact HB.out)) hb); clear HO215; clear HO218; clear HB; have HO215 := n0_; have HO218 := n1_; have HO221 := n2_; have HB := n3_; clear n0_ n1_ n2_ n3_; (try clear hb); (try clear hb2); (try clear hk); (try clear hi); (try clear ho0)))
  go_ret
  exact ⟨by first | rfl | (simp [errW_none, errW_some] <;> rfl) | (simp [*, errW_none, errW_some] <;> rfl), by repeat (first | (with_reducible first | exact HB.out | apply below_alloc | apply pw_below_drewN | apply below_drew1) | exact HB.out)⟩

/-! ### pantileref01_Power: function 37 -/
def pantileref01_Power.l0 : Nat → Int → Int → Int → Option (Int)
  | 0, _, _, _ => none
  | k + 1, x0, x3, x4 => if x4 < x0 then (pantileref01_Power.l0 k x0 (IntKind.u64.wrap (2 * x3)) (wrap64 (x4 + 1))) else (some x3)
def pantileref01_Power.f (k : Nat) (a0 : Int) : Option (Int) := pantileref01_Power.l0 k a0 1 0
theorem pantileref01_Power.mono_l : ∀ k, (∀ y0 y1 y2, LeO (pantileref01_Power.l0 k y0 y1 y2) (pantileref01_Power.l0 (k + 1) y0 y1 y2))
  | 0 => fun _ _ _ r h => by simp [pantileref01_Power.l0] at h
  | k + 1 => by
    have ih0 := pantileref01_Power.mono_l k
    · intro y0 y1 y2
      unfold pantileref01_Power.l0
      repeat' first
      | (with_reducible exact ih0 _ _ _)
      | (with_reducible exact LeO.refl _)
      | (with_reducible exact LeO.none _)
      | (with_reducible refine LeO.ite ?_ ?_)
      | (with_reducible refine LeO.bind ?_ (fun _ => ?_))
      | exact ih0 _ _ _
      | exact LeO.none _
      | refine LeO.ite ?_ ?_
      | refine LeO.bind ?_ (fun _ => ?_)
theorem pantileref01_Power.mono : ∀ a0 k, LeO (pantileref01_Power.f k a0) (pantileref01_Power.f (k + 1) a0) := by
  intro a0 k
  have ih0 := pantileref01_Power.mono_l k
  unfold pantileref01_Power.f
  repeat' first
      | (with_reducible exact ih0 _ _ _)
      | (with_reducible exact LeO.refl _)
      | (with_reducible exact LeO.none _)
      | (with_reducible refine LeO.ite ?_ ?_)
      | (with_reducible refine LeO.bind ?_ (fun _ => ?_))
      | exact ih0 _ _ _
      | exact LeO.none _
      | refine LeO.ite ?_ ?_
      | refine LeO.bind ?_ (fun _ => ?_)
set_option maxHeartbeats 8000000 in
set_option maxRecDepth 100000 in
theorem pantileref01_Power.calls (k : Nat) (a0 : Int) (r : Int) (w : World) (h : pantileref01_Power.f k a0 = some r) :
  Calls Try.prog 37 #[.int .i64 a0] w fun e w' => e = .returned (.int .u64 r) ∧ Drawn0 w w' := by
 have H : (pantileref01_Power.l0 k a0 1 0) = some r := h
 clear h
 have H' := Aside0.mk H
 clear H
 go_enter Try.func37, Try.ntmps37
 go_wp2
 go_loopg [3, 4] k (fun kq v3 v4 w' => ∃ (x3_1 : Int) (x4_1 : Int), v3 = .int .u64 x3_1 ∧ v4 = .int .i64 x4_1 ∧ Aside0 (pantileref01_Power.l0 kq a0 x3_1 x4_1 = some r) ∧ Aside0 (kq ≤ k) ∧ Drawn0 w w')
 case atStart => exact ⟨(1), (0), (by first | rfl | (simp; done) | (simp [*]; done)), (by first | rfl | (simp; done) | (simp [*]; done)), H', ⟨Nat.le_refl _⟩, by repeat (first | exact Drawn0.refl _ | apply Drawn0.step)⟩
 case round =>
  clear H'
  obtain ⟨x3_1, x4_1, rfl, rfl, HA, HK1, ⟨m1, rfl⟩⟩ := hrel
  cases gk with
  | zero => exact absurd HA.out (by simp [pantileref01_Power.l0])
  | succ k1 =>
   have H := HA.out
   clear HA
   simp only [pantileref01_Power.l0] at H
   by_cases c2 : x4_1 < a0
   ·rw [if_pos c2] at H
    have c2b0 : decide (x4_1 < a0) = true := decide_eq_true c2
    clear c2
    have H' := Aside0.mk H
    clear H
    go_wp2
    go_roundg k1
    case measure => have := HK1.out; omega
    case rel => exact ⟨(IntKind.u64.wrap (2 * x3_1)), (wrap64 (x4_1 + 1)), (by first | rfl | (simp; done) | (simp [*]; done)), (by first | rfl | (simp; done) | (simp [*]; done)), H', ⟨by have := HK1.out; omega⟩, by repeat (first | exact Drawn0.refl _ | apply Drawn0.step)⟩
   ·rw [if_neg c2] at H
    have c2b0 : decide (x4_1 < a0) = false := decide_eq_false c2
    clear c2
    obtain rfl := Option.some.inj H
    go_wp2
    go_ret
    exact ⟨by first | rfl | (simp; done) | (simp [*]; done), by repeat (first | exact Drawn0.refl _ | apply Drawn0.step)⟩

/-! ### pantileref01_Place: function 39 -/
def pantileref01_Place.l0 : Nat → Int → Int → List Int → Int → Option (List Int)
  | 0, _, _, _, _ => none
  | k + 1, x1, x2, x7, x8 => if x8 ≥ 0 then (if 0 ≤ x8 then (if x8 < (x7.length : Int) then (if 0 ≤ x1 then (pantileref01_Place.l0 k x1 (wrap64 (Int.tdiv x2 2)) (x7.set (x8 : Int).toNat (IntKind.u64.wrap ((rd x7 x8) + (shl .u64 (IntKind.u64.wrap (Int.tmod x2 2)) x1)))) (wrap64 (x8 - 1))) else (none)) else (none)) else (none)) else (some x7)
def pantileref01_Place.f (k : Nat) (l0 : List Int) (a1 : Int) (a2 : Int) : Option (List Int) := (pantileref01_Cut.f k l0 a1).bind fun t229 => (pantileref01_Place.l0 k a1 a2 t229 (wrap64 ((t229.length : Int) - 1)))
theorem pantileref01_Place.mono_l : ∀ k, (∀ y0 y1 y2 y3, LeO (pantileref01_Place.l0 k y0 y1 y2 y3) (pantileref01_Place.l0 (k + 1) y0 y1 y2 y3))
  | 0 => fun _ _ _ _ r h => by simp [pantileref01_Place.l0] at h
  | k + 1 => by
    have ih0 := pantileref01_Place.mono_l k
    · intro y0 y1 y2 y3
      unfold pantileref01_Place.l0
      repeat' first
      | (with_reducible exact ih0 _ _ _ _)
      | (with_reducible exact pantileref01_Cut.mono _ _ _)
      | (with_reducible exact LeO.refl _)
      | (with_reducible exact LeO.none _)
      | (with_reducible refine LeO.ite ?_ ?_)
      | (with_reducible refine LeO.bind ?_ (fun _ => ?_))
      | exact ih0 _ _ _ _
      | exact pantileref01_Cut.mono _ _ _
      | exact LeO.none _
      | refine LeO.ite ?_ ?_
      | refine LeO.bind ?_ (fun _ => ?_)
theorem pantileref01_Place.mono : ∀ a0 a1 a2 k, LeO (pantileref01_Place.f k a0 a1 a2) (pantileref01_Place.f (k + 1) a0 a1 a2) := by
  intro a0 a1 a2 k
  have ih0 := pantileref01_Place.mono_l k
  unfold pantileref01_Place.f
  repeat' first
      | (with_reducible exact ih0 _ _ _ _)
      | (with_reducible exact pantileref01_Cut.mono _ _ _)
      | (with_reducible exact LeO.refl _)
      | (with_reducible exact LeO.none _)
      | (with_reducible refine LeO.ite ?_ ?_)
      | (with_reducible refine LeO.bind ?_ (fun _ => ?_))
      | exact ih0 _ _ _ _
      | exact pantileref01_Cut.mono _ _ _
      | exact LeO.none _
      | refine LeO.ite ?_ ?_
      | refine LeO.bind ?_ (fun _ => ?_)
def pantileref01_Place.T5 : Bool × List (List Nat × List Nat) := (true, [([], []), ([], []), ([], []), ([], []), ([2, 3], [2, 3]), ([4], [4]), ([], []), ([6], [6]), ([7], [7]), ([], []), ([8, 9], [8, 9]), ([5, 10], [5, 10]), ([0, 1, 0, 1, 2, 3, 4, 5, 6, 7, 8, 9, 10, 11], [0, 1]), ([12, 11, 0, 1, 2, 3, 4, 5, 6, 7, 8, 9, 10, 11], [11, 12])])
def pantileref01_Place.B5 : List Nat := [0, 0, 0, 0, 12, 28, 0, 64, 192, 0, 960, 2044, 4095, 8191]
theorem pantileref01_Place.tab5 : rtab .any (opsOf Try.f39 5) = pantileref01_Place.T5 := by kernel_rfl
theorem pantileref01_Place.bits5 : waitsOk pantileref01_Place.T5.2 pantileref01_Place.B5 = true := by kernel_rfl
set_option maxHeartbeats 8000000 in
set_option maxRecDepth 100000 in
theorem pantileref01_Place.calls (k : Nat) (A0 : Option Addr) (c0 : Nat) (l0 : List Int) (a1 : Int) (a2 : Int) (r : List Int) (w : World) (hr0 : Kd.C (Kd.int .u64) w A0 l0.length l0) (hc0 : l0.length ≤ c0) (h : pantileref01_Place.f k l0 a1 a2 = some r) :
  Calls Try.prog 39 #[.slice A0 l0.length c0, .int .i64 a1, .int .i64 a2] w fun e w' => ∃ v0_ : Value, e = .returned (v0_) ∧ Kd.R (Kd.int .u64) 30 w' w.heap.size (fun _ => True) v0_ r ∧ Below w.heap.size w w' := by
 have HR0 := Aside0.mk hr0
 have HC0 := Aside0.mk hc0
 clear hr0 hc0
 have HB := Aside0.mk (Below.refl w.heap.size w)
 have H : ((pantileref01_Cut.f k l0 a1).bind fun t229 => (pantileref01_Place.l0 k a1 a2 t229 (wrap64 ((t229.length : Int) - 1)))) = some r := h
 clear h
 replace H := Option.bind_eq_some_iff.mp H
 obtain ⟨t229, A40, H⟩ := H
 replace H : (pantileref01_Place.l0 k a1 a2 t229 (wrap64 ((t229.length : Int) - 1))) = some r := H
 have A4 := Aside0.mk A40
 clear A40
 have H' := Aside0.mk H
 clear H
 go_enter Try.func39, Try.ntmps39
 go_wp2_with (first | ((with_reducible refine gate_callee (f := 46) rfl ?_); refine goesL_ (some 11) rfl rfl Try.func46 (by kernel_rfl) rfl #[.slice A0 l0.length c0, .int .i64 a1] rfl (by (try simp only [List.map_toArray, List.map_cons, List.map_nil]); first | done | rfl | (simp only [List.length_drop, List.length_take]; rfl)) ?_; (with_reducible refine (pantileref01_Cut.calls k _ _ l0 a1 t229 _ ?side1 ?side2 A4.out).mono ?_); (case side1 => repeat (first | exact HR0.out | (with_reducible refine Kd.C_alloc ?_ _) | (with_reducible refine Kd.C_drewN ?_ _) | (with_reducible refine Kd.C_drew ?_))); (case side2 => exact HC0.out); rintro e w5 ⟨v230, rfl, ho0, hb⟩; refine ⟨_, rfl, ?_⟩; have n0_ := Aside0.mk (Kd.R_lower ho0 (below_size (by repeat (first | (with_reducible first | exact HB.out | apply below_alloc | apply pw_below_drewN | apply below_drew1) | exact HB.out)))); have n1_ := Aside0.mk (below_step (by repeat (first | (with_reducible first | exact HB.out | apply below_alloc | apply pw_below_drewN | apply below_drew1) | exact HB.out)) hb); clear HB; have HO231 := n0_; have HB := n1_; clear n0_ n1_; (try clear hb); (try clear hb2); (try clear hk); (try clear hi); (try clear ho0); obtain ⟨Ao6, co6, eo6⟩ := Kd.R_slice HO231.out; subst eo6))
 go_loopg [2, 8] k (fun kq v2 v8 w' => ∃ (x2_1 : Int) (x7_1 : List Int) (x8_1 : Int), v2 = .int .i64 x2_1 ∧ v8 = .int .i64 x8_1 ∧ Aside0 (pantileref01_Place.l0 kq a1 x2_1 x7_1 x8_1 = some r) ∧ Aside0 (kq ≤ k) ∧ Aside0 (Kd.R (Kd.int .u64) 30 w' w.heap.size (fun _ => True) (.slice Ao6 t229.length co6) x7_1) ∧ Aside0 (Below w.heap.size w w'))
 case atStart => exact ⟨(a2), (t229), (wrap64 ((t229.length : Int) - 1)), (by first | rfl | (simp; done) | (simp [*]; done)), (by first | rfl | (simp; done) | (simp [*]; done)), H', ⟨Nat.le_refl _⟩, ⟨by (with_reducible repeat (first | apply Kd.R_alloc | apply Kd.R_drewN | apply Kd.R_drew)); exact HO231.out⟩, ⟨by repeat (first | (with_reducible first | exact HB.out | apply below_alloc | apply pw_below_drewN | apply below_drew1) | exact HB.out)⟩⟩
 case round =>
  clear H'
  try clear p2; try clear c3; try clear c4; try clear p6
  obtain ⟨x2_1, x7_1, x8_1, rfl, rfl, HA, HK1, HO_7, HB⟩ := hrel
  have hl7_1 := (Kd.R_reads' HO_7.out).1
  rw [hl7_1] at HO_7
  (try simp only [hl7_1])
  cases gk with
  | zero => exact absurd HA.out (by simp [pantileref01_Place.l0])
  | succ k1 =>
   have H := HA.out
   clear HA
   simp only [pantileref01_Place.l0] at H
   by_cases c7 : x8_1 ≥ 0
   ·rw [if_pos c7] at H
    have c7b0 : decide (0 ≤ x8_1) = true := decide_eq_true c7
    clear c7
    by_cases c8 : 0 ≤ x8_1
    ·rw [if_pos c8] at H
     have c8b0 : decide (0 ≤ x8_1) = true := decide_eq_true c8
     clear c8
     by_cases c9 : x8_1 < (x7_1.length : Int)
     ·rw [if_pos c9] at H
      have c9b0 : decide (x8_1 < (x7_1.length : Int)) = true := decide_eq_true c9
      clear c9
      by_cases c10 : 0 ≤ a1
      ·rw [if_pos c10] at H
       have c10b0 := eq_true c10
       have c10b1 : decide (0 ≤ a1) = true := decide_eq_true c10
       clear c10
       obtain ⟨ji11, hji11⟩ : ∃ j_ : Int, (shl .u64 (IntKind.u64.wrap (Int.tmod x2_1 2)) a1) = j_ := ⟨_, rfl⟩
       replace H : (pantileref01_Place.l0 k1 a1 (wrap64 (Int.tdiv x2_1 2)) (x7_1.set (x8_1 : Int).toNat (IntKind.u64.wrap ((rd x7_1 x8_1) + (ji11)))) (wrap64 (x8_1 - 1))) = some r := by first | (rw [hji11] at H; exact H) | (simp only [hji11] at H ⊢; exact H)
       have hji11_ : (IntKind.u64.wrap ((IntKind.u64.wrap (Int.tmod x2_1 2)) * 2 ^ min a1.toNat 64)) = ji11 := hji11
       have hji11z : a1 ≤ 64 → (IntKind.u64.wrap ((IntKind.u64.wrap (Int.tmod x2_1 2)) * 2 ^ a1.toNat)) = ji11 := shl_small hji11
       obtain ⟨y233, hy233⟩ : ∃ y_ : List Int, y_ = (x7_1.set (x8_1 : Int).toNat (IntKind.u64.wrap ((rd x7_1 x8_1) + (ji11)))) := ⟨_, rfl⟩
       replace H : (pantileref01_Place.l0 k1 a1 (wrap64 (Int.tdiv x2_1 2)) y233 (wrap64 (x8_1 - 1))) = some r := by first | (rw [hy233]; with_reducible exact H) | (have H2_ := (Option.bind_some _ _).symm.trans H; rw [hy233]; with_reducible exact H2_) | (have H2_ := (Option.bind_some _ _).symm.trans H; with_reducible exact H2_) | with_reducible exact H | (rw [hy233]; exact H) | exact H
       have Ny233 := Aside0.mk hy233
       clear hy233
       have H' := Aside0.mk H
       clear H
       try go_wp2
       have n0_ := Aside0.mk (Kd.R_drew HO_7.out)
       have n1_ := Aside0.mk (below_drew1 HB.out)
       clear HO_7
       clear HB
       have HO_7 := n0_
       have HB := n1_
       clear n0_ n1_
       have p232 : 0 ≤ (x8_1 : Int) := of_decide_eq_true (by first | (with_reducible assumption) | assumption)
       have q232 : x8_1 < (x7_1.length : Int) := of_decide_eq_true (by first | (with_reducible assumption) | assumption)
       obtain ⟨ad232, e232, hx232_0⟩ := Kd.at_int (Kd.R_reads' HO_7.out).2.2 x8_1 p232 q232
       cases e232
       replace p232 := eq_true p232
       replace q232 := eq_true q232
       have p12 : 0 ≤ (x8_1 : Int) := of_decide_eq_true (by first | (with_reducible assumption) | assumption)
       have q12 : (x8_1 : Int) < ((x7_1.length : Int) : Int) := of_decide_eq_true (by first | (with_reducible assumption) | assumption)
       obtain ⟨go12, co12, eo12, gb12, gl12, cl12, HG12⟩ := Kd.R_form HO_7.out (by omega)
       (first | cases eo12 | (injection eo12 with ea_ en_ ec_; (first | subst ea_ | (injection ea_ with ea_; subst ea_)); subst ec_; clear en_))
       have GB12 := Aside0.mk gb12
       have GG12 := Aside0.mk HG12
       clear gb12 gl12 HG12
       (first | simp only [add_plain] at hx232_0 | skip)
       obtain ⟨hx12_0, hf12_0⟩ := Kd.R_celln 0 HO_7.out (x8_1 : Int) p12 q12
       replace p12 := eq_true p12
       replace q12 := eq_true q12
       have HP14 := Kd.R_putn HO_7.out (x8_1 : Int) (IntKind.u64.wrap ((rd x7_1 x8_1) + (ji11)))
       rw [← Ny233.out] at HP14
       have HQ14 := Aside0.mk HP14
       clear HP14
       refine start_ (n := 14) (S := fun w' => w'.cell? ⟨go12, (x8_1).toNat, none⟩ = some (.int .u64 (rd x7_1 x8_1))) (ds := [13]) #[O,O,O,O,O,O,O,O,O,O,O,O,O,O] (by kernel_rfl) rfl rfl (hx232_0) (fun hHeld => ?_); refine with_tabW pantileref01_Place.tab5 pantileref01_Place.bits5 (fun HT_ HW_ => ?_)
       generalize wr.drew = w13 at HO_7 HB GG12 HQ14 hf12_0 hx12_0 hx232_0 hHeld ⊢
       refine pure_ (i := 0) (N := some 19) (v := ?_) (a' := ?_) #[Y,O,O,O,O,O,O,O,O,O,O,O,O,O] rfl rfl (any_of HT_.out (by kernel_rfl)) (fun _ _ _ h => h) (Or.inl ⟨by rfl, ?_⟩) ?_ ?_
       rotate_left
       ·intro w'
        go_simp
        with_reducible rfl
       rotate_left
       ·simp only [Act.put, lsA, ls0, ls1, i64_w, i32_w]
        rfl
       refine pure_ (i := 1) (N := some 20) (v := ?_) (a' := ?_) #[Y,Y,O,O,O,O,O,O,O,O,O,O,O,O] rfl rfl (any_of HT_.out (by kernel_rfl)) (fun _ _ _ h => h) (Or.inl ⟨by rfl, ?_⟩) ?_ ?_
       rotate_left
       ·intro w'
        go_simp
        with_reducible rfl
       rotate_left
       ·simp only [Act.put, lsA, ls0, ls1, i64_w, i32_w]
        rfl
       refine pure_ (i := 2) (N := some 21) (v := ?_) (a' := ?_) #[Y,Y,Y,O,O,O,O,O,O,O,O,O,O,O] rfl rfl (any_of HT_.out (by kernel_rfl)) (fun _ _ _ h => h) (Or.inl ⟨by rfl, ?_⟩) ?_ ?_
       rotate_left
       ·intro w'
        go_simp
        with_reducible rfl
       rotate_left
       ·simp only [Act.put, lsA, ls0, ls1, i64_w, i32_w]
        rfl
       refine pure_ (i := 3) (N := some 22) (v := ?_) (a' := ?_) #[Y,Y,Y,Y,O,O,O,O,O,O,O,O,O,O] rfl rfl (any_of HT_.out (by kernel_rfl)) (fun _ _ _ h => h) (Or.inl ⟨by rfl, ?_⟩) ?_ ?_
       rotate_left
       ·intro w'
        go_simp
        with_reducible rfl
       rotate_left
       ·simp only [Act.put, lsA, ls0, ls1, i64_w, i32_w]
        rfl
       refine pure_ (i := 4) (N := some 23) (v := ?_) (a' := ?_) #[Y,Y,Y,Y,Y,O,O,O,O,O,O,O,O,O] rfl rfl (any_of HT_.out (by kernel_rfl)) (fun _ _ _ h => h) (Or.inl ⟨by rfl, ?_⟩) ?_ ?_
       rotate_left
       ·intro w'
        go_simp
        with_reducible rfl
       rotate_left
       ·simp only [Act.put, lsA, ls0, ls1, i64_w, i32_w]
        rfl
       refine pure_ (i := 6) (N := some 25) (v := ?_) (a' := ?_) #[Y,Y,Y,Y,Y,O,Y,O,O,O,O,O,O,O] rfl rfl (any_of HT_.out (by kernel_rfl)) (fun _ _ _ h => h) (Or.inl ⟨by rfl, ?_⟩) ?_ ?_
       rotate_left
       ·intro w'
        go_simp
        with_reducible rfl
       rotate_left
       ·simp only [Act.put, lsA, ls0, ls1, i64_w, i32_w]
        rfl
       refine pure_ (i := 7) (N := some 26) (v := ?_) (a' := ?_) #[Y,Y,Y,Y,Y,O,Y,Y,O,O,O,O,O,O] rfl rfl (any_of HT_.out (by kernel_rfl)) (fun _ _ _ h => h) (Or.inl ⟨by rfl, ?_⟩) ?_ ?_
       rotate_left
       ·intro w'
        go_simp
        with_reducible rfl
       rotate_left
       ·simp only [Act.put, lsA, ls0, ls1, i64_w, i32_w]
        rfl
       refine pure_ (i := 8) (N := some 27) (v := ?_) (a' := ?_) #[Y,Y,Y,Y,Y,O,Y,Y,Y,O,O,O,O,O] rfl rfl (any_of HT_.out (by kernel_rfl)) (fun _ _ _ h => h) (Or.inl ⟨by rfl, ?_⟩) ?_ ?_
       rotate_left
       ·intro w'
        go_simp
        with_reducible rfl
       rotate_left
       ·simp only [Act.put, lsA, ls0, ls1, i64_w, i32_w]
        rfl
       refine pure_ (i := 9) (N := some 28) (v := ?_) (a' := ?_) #[Y,Y,Y,Y,Y,O,Y,Y,Y,Y,O,O,O,O] rfl rfl (any_of HT_.out (by kernel_rfl)) (fun _ _ _ h => h) (Or.inl ⟨by rfl, ?_⟩) ?_ ?_
       rotate_left
       ·intro w'
        go_simp
        with_reducible rfl
       rotate_left
       ·simp only [Act.put, lsA, ls0, ls1, i64_w, i32_w]
        rfl
       refine pure_ (i := 10) (N := some 29) (v := ?_) (a' := ?_) #[Y,Y,Y,Y,Y,O,Y,Y,Y,Y,Y,O,O,O] rfl rfl (any_of HT_.out (by kernel_rfl)) (fun _ _ _ h => h) (Or.inl ⟨by rfl, ?_⟩) ?_ ?_
       rotate_left
       ·intro w'
        go_simp
        with_reducible rfl
       rotate_left
       ·simp only [Act.put, lsA, ls0, ls1, i64_w, i32_w]
        rfl
       refine take_ (i := 5) (N := some 24) (v := ?_) (a' := ?_) #[Y,Y,Y,Y,Y,Y,Y,Y,Y,Y,Y,O,O,O] rfl rfl (take_ofW HT_.out HW_.out (by kernel_rfl)) (fun _ _ _ h => h) (Or.inl ⟨by rfl, ?_⟩) hHeld ?_ ?_
       rotate_left
       ·intro w' s0
        go_simp
        with_reducible rfl
       rotate_left
       ·simp only [Act.put, lsA, ls0, ls1, i64_w, i32_w]
        rfl
       refine pure_ (i := 11) (N := some 30) (v := ?_) (a' := ?_) #[Y,Y,Y,Y,Y,Y,Y,Y,Y,Y,Y,Y,O,O] rfl rfl (any_of HT_.out (by kernel_rfl)) (fun _ _ _ h => h) (Or.inl ⟨by rfl, ?_⟩) ?_ ?_
       rotate_left
       ·intro w'
        go_simp
        with_reducible rfl
       rotate_left
       ·simp only [Act.put, lsA, ls0, ls1, i64_w, i32_w]
        rfl
       refine pure_ (i := 12) (N := some 31) (v := ?_) (a' := ?_) #[Y,Y,Y,Y,Y,Y,Y,Y,Y,Y,Y,Y,Y,O] rfl rfl (any_of HT_.out (by kernel_rfl)) (fun _ _ _ h => h) (Or.inl ⟨by rfl, ?_⟩) ?_ ?_
       rotate_left
       ·intro w'
        go_simp
        with_reducible rfl
       rotate_left
       ·simp only [Act.put, lsA, ls0, ls1, i64_w, i32_w]
        rfl
       refine last_ (i := 13) (N := none) #[Y,Y,Y,Y,Y,Y,Y,Y,Y,Y,Y,Y,Y,Y] rfl rfl (one_of HT_.out (by kernel_rfl)) (by decide) (fun K hK => ?_)
       refine skip_ (w1 := ?_) (by rfl) rfl ?_ ?_
       rotate_left
       ·go_simp
        rfl
       refine hK.out _ _ ?_
       clear hK K
       refine done_ (done_of HT_.out (by kernel_rfl)) ?_
       try go_wp2
       (try simp only [← hl7_1])
       go_roundg k1
       case measure => have := HK1.out; omega
       case rel => exact ⟨(wrap64 (Int.tdiv x2_1 2)), (y233), (wrap64 (x8_1 - 1)), (by first | rfl | (simp; done) | (simp [*]; done)), (by first | rfl | (simp; done) | (simp [*]; done)), H', ⟨by have := HK1.out; omega⟩, ⟨by (try simp only [hl7_1]); (with_reducible repeat (first | apply Kd.R_alloc | apply Kd.R_drewN | apply Kd.R_drew)); exact HQ14.out⟩, ⟨by repeat (first | (with_reducible first | exact HB.out | apply below_alloc | apply pw_below_drewN | apply below_drew1 | refine below_set ?_ GB12.out) | exact HB.out)⟩⟩
      ·rw [if_neg c10] at H
       exact absurd H (by simp)
     ·rw [if_neg c9] at H
      exact absurd H (by simp)
    ·rw [if_neg c8] at H
     exact absurd H (by simp)
   ·rw [if_neg c7] at H
    have c7b0 : decide (0 ≤ x8_1) = false := decide_eq_false c7
    clear c7
    obtain rfl := Option.some.inj H
    go_wp2
    go_ret
    exact ⟨_, by first | rfl | (simp [errW_none, errW_some] <;> rfl) | (simp [*, errW_none, errW_some] <;> rfl), by (with_reducible repeat (first | apply Kd.R_alloc | apply Kd.R_drewN | apply Kd.R_drew)); exact HO_7.out, by repeat (first | (with_reducible first | exact HB.out | apply below_alloc | apply pw_below_drewN | apply below_drew1) | exact HB.out)⟩

/-! ### pantileref03_Cell: function 31 -/
mutual
def pantileref03_Cell.l0 : Nat → List Int → Int → Int → List Int → List Int → Option (List Int × List Int)
  | 0, _, _, _, _, _ => none
  | k + 1, x0, x1, x6, x239000, x239001 => if x6 < (x0.length : Int) then (if 0 ≤ x6 then (if x6 < (x239000.length : Int) then (pantileref03_Cell.l1 k x0 x1 x6 (rd x239000 x6) 0 x239000 x239001) else (none)) else (none)) else (some (x239000, x239001))
def pantileref03_Cell.l1 : Nat → List Int → Int → Int → Int → Int → List Int → List Int → Option (List Int × List Int)
  | 0, _, _, _, _, _, _, _ => none
  | k + 1, x0, x1, x6, x7, x8, x239000, x239001 => if x8 ≤ x1 then (if 0 ≤ x8 then (pantileref03_Cell.l1 k x0 x1 x6 (IntKind.u64.wrap (x7 + (shl .u64 1 x8))) (wrap64 (x8 + 1)) x239000 x239001) else (none)) else (if x239001.length < 17592186044416 then (pantileref03_Cell.l0 k x0 x1 (wrap64 (x6 + 1)) x239000 (x239001 ++ [x7])) else (none))
end
def pantileref03_Cell.f (k : Nat) (l0 : List Int) (a1 : Int) : Option (List Int × List Int) := (pantileref01_Cut.f k l0 a1).bind fun t235 => (pantileref03_Cell.l0 k l0 a1 0 t235 ([] : List Int))
theorem pantileref03_Cell.mono_l : ∀ k, (∀ y0 y1 y2 y3 y4, LeO (pantileref03_Cell.l0 k y0 y1 y2 y3 y4) (pantileref03_Cell.l0 (k + 1) y0 y1 y2 y3 y4)) ∧ (∀ y0 y1 y2 y3 y4 y5 y6, LeO (pantileref03_Cell.l1 k y0 y1 y2 y3 y4 y5 y6) (pantileref03_Cell.l1 (k + 1) y0 y1 y2 y3 y4 y5 y6))
  | 0 => ⟨fun _ _ _ _ _ r h => by simp [pantileref03_Cell.l0] at h, fun _ _ _ _ _ _ _ r h => by simp [pantileref03_Cell.l1] at h⟩
  | k + 1 => by
    obtain ⟨ih0, ih1⟩ := pantileref03_Cell.mono_l k
    refine ⟨?_, ?_⟩
    · intro y0 y1 y2 y3 y4
      unfold pantileref03_Cell.l0
      repeat' first
      | (with_reducible exact ih0 _ _ _ _ _)
      | (with_reducible exact ih1 _ _ _ _ _ _ _)
      | (with_reducible exact pantileref01_Cut.mono _ _ _)
      | (with_reducible exact LeO.refl _)
      | (with_reducible exact LeO.none _)
      | (with_reducible refine LeO.ite ?_ ?_)
      | (with_reducible refine LeO.bind ?_ (fun _ => ?_))
      | exact ih0 _ _ _ _ _
      | exact ih1 _ _ _ _ _ _ _
      | exact pantileref01_Cut.mono _ _ _
      | exact LeO.none _
      | refine LeO.ite ?_ ?_
      | refine LeO.bind ?_ (fun _ => ?_)
    · intro y0 y1 y2 y3 y4 y5 y6
      unfold pantileref03_Cell.l1
      repeat' first
      | (with_reducible exact ih0 _ _ _ _ _)
      | (with_reducible exact ih1 _ _ _ _ _ _ _)
      | (with_reducible exact pantileref01_Cut.mono _ _ _)
      | (with_reducible exact LeO.refl _)
      | (with_reducible exact LeO.none _)
      | (with_reducible refine LeO.ite ?_ ?_)
      | (with_reducible refine LeO.bind ?_ (fun _ => ?_))
      | exact ih0 _ _ _ _ _
      | exact ih1 _ _ _ _ _ _ _
      | exact pantileref01_Cut.mono _ _ _
      | exact LeO.none _
      | refine LeO.ite ?_ ?_
      | refine LeO.bind ?_ (fun _ => ?_)
theorem pantileref03_Cell.mono : ∀ a0 a1 k, LeO (pantileref03_Cell.f k a0 a1) (pantileref03_Cell.f (k + 1) a0 a1) := by
  intro a0 a1 k
  obtain ⟨ih0, ih1⟩ := pantileref03_Cell.mono_l k
  unfold pantileref03_Cell.f
  repeat' first
      | (with_reducible exact ih0 _ _ _ _ _)
      | (with_reducible exact ih1 _ _ _ _ _ _ _)
      | (with_reducible exact pantileref01_Cut.mono _ _ _)
      | (with_reducible exact LeO.refl _)
      | (with_reducible exact LeO.none _)
      | (with_reducible refine LeO.ite ?_ ?_)
      | (with_reducible refine LeO.bind ?_ (fun _ => ?_))
      | exact ih0 _ _ _ _ _
      | exact ih1 _ _ _ _ _ _ _
      | exact pantileref01_Cut.mono _ _ _
      | exact LeO.none _
      | refine LeO.ite ?_ ?_
      | refine LeO.bind ?_ (fun _ => ?_)
set_option maxHeartbeats 8000000 in
set_option maxRecDepth 100000 in
theorem pantileref03_Cell.calls (k : Nat) (A0 : Option Addr) (c0 : Nat) (l0 : List Int) (a1 : Int) (r1 : List Int) (r2 : List Int) (w : World) (hr0 : Kd.C (Kd.int .u64) w A0 l0.length l0) (hc0 : l0.length ≤ c0) (h : pantileref03_Cell.f k l0 a1 = some (r1, r2)) :
  Calls Try.prog 31 #[.slice A0 l0.length c0, .int .i64 a1] w fun e w' => ∃ v0_ v1_ : Value, e = .returned (.agg #[v0_, v1_]) ∧ Kd.R (Kd.int .u64) 30 w' w.heap.size (fun k_ => some k_ ≠ (v1_ : Value).ownBlock) v0_ r1 ∧ Kd.R (Kd.int .u64) 30 w' w.heap.size (fun k_ => some k_ ≠ (v0_ : Value).ownBlock) v1_ r2 ∧ Below w.heap.size w w' := by
 have hu32 := Try.underlying32
 have HR0 := Aside0.mk hr0
 have HC0 := Aside0.mk hc0
 clear hr0 hc0
 have HB := Aside0.mk (Below.refl w.heap.size w)
 have H : ((pantileref01_Cut.f k l0 a1).bind fun t235 => (pantileref03_Cell.l0 k l0 a1 0 t235 ([] : List Int))) = some (r1, r2) := h
 clear h
 replace H := Option.bind_eq_some_iff.mp H
 obtain ⟨t235, A30, H⟩ := H
 replace H : (pantileref03_Cell.l0 k l0 a1 0 t235 ([] : List Int)) = some (r1, r2) := H
 have A3 := Aside0.mk A30
 clear A30
 have H' := Aside0.mk H
 clear H
 go_enter Try.func31, Try.ntmps31
 go_wp2_with (first | ((with_reducible refine gate_dst (N := 4) rfl ?_); refine box_event ?hg (N := 4) ?hd (cs := #[.slice none 0 0, .slice none 0 0]) (t := 32) ?hr ?_; (case hd => rfl); (case hg => rfl); (case hr => first | (go_simp; done) | (go_simp; rfl)); intro gb234 hg w4 hbox hb; have n0_ := Aside0.mk (below_step (by repeat (first | (with_reducible first | exact HB.out | apply below_alloc | apply pw_below_drewN | apply below_drew1) | exact HB.out)) hb); have n1_ := Aside0.mk (hbox); have n2_ := Aside0.mk ((by rw [hg]; exact (below_size (by repeat (first | (with_reducible first | exact HB.out | apply below_alloc | apply pw_below_drewN | apply below_drew1) | exact HB.out))) : w.heap.size ≤ gb234)); have n3_ := Aside0.mk ((by rw [hg]; exact (below_size (by repeat (first | (with_reducible first | exact HB.out | apply below_alloc | apply pw_below_drewN | apply below_drew1) | exact HB.out))) : w.heap.size ≤ gb234)); clear HB; have HB := n0_; have BK234 := n1_; have GW234 := n2_; have GE234 := n3_; clear n0_ n1_ n2_ n3_; clear hb hbox hg) | ((with_reducible refine gate_callee (f := 46) rfl ?_); refine goesL_ (some 11) rfl rfl Try.func46 (by kernel_rfl) rfl #[.slice A0 l0.length c0, .int .i64 a1] rfl (by (try simp only [List.map_toArray, List.map_cons, List.map_nil]); first | done | rfl | (simp only [List.length_drop, List.length_take]; rfl)) ?_; (with_reducible refine (pantileref01_Cut.calls k _ _ l0 a1 t235 _ ?side1 ?side2 A3.out).mono ?_); (case side1 => repeat (first | exact (Kd.C_below HR0.out HB.out) | (with_reducible refine Kd.C_alloc ?_ _) | (with_reducible refine Kd.C_drewN ?_ _) | (with_reducible refine Kd.C_drew ?_))); (case side2 => exact HC0.out); rintro e w5 ⟨v236, rfl, ho0, hb⟩; refine ⟨_, rfl, ?_⟩; have n0_ := Aside0.mk (Kd.R_lower ho0 (below_size (by repeat (first | (with_reducible first | exact HB.out | apply below_alloc | apply pw_below_drewN | apply below_drew1 | refine below_set ?_ GE234.out) | exact HB.out)))); have n1_ := Aside0.mk (blk_below (g := gb234) (o := .cells #[.slice none 0 0, .slice none 0 0] 32 (0, 0)) (by (with_reducible repeat (first | refine blk_drewN ?_ _ | refine blk_drew ?_ | refine blk_alloc ?_ _)); exact BK234.out) hb); have n2_ := Aside0.mk (below_step (by repeat (first | (with_reducible first | exact HB.out | apply below_alloc | apply pw_below_drewN | apply below_drew1 | refine below_set ?_ GE234.out) | exact HB.out)) hb); clear BK234; clear HB; have HO237 := n0_; have BK234 := n1_; have HB := n2_; clear n0_ n1_ n2_; (try clear hb); (try clear hb2); (try clear hk); (try clear hi); (try clear ho0); obtain ⟨Ao6, co6, eo6⟩ := Kd.R_slice HO237.out; subst eo6) | ((with_reducible refine gate_dst (N := 5) rfl ?_); refine box_event ?hg (N := 5) ?hd (cs := #[.slice none 0 0, .slice none 0 0]) (t := 32) ?hr ?_; (case hd => rfl); (case hg => rfl); (case hr => first | (go_simp; done) | (go_simp; rfl)); intro gb238 hg w7 hbox hb; have n0_ := Aside0.mk (Kd.R_below (by (with_reducible repeat (first | apply Kd.R_alloc | apply Kd.R_drewN | apply Kd.R_drew)); exact HO237.out) hb); have n1_ := Aside0.mk (blk_below (g := gb234) (o := .cells #[.slice none 0 0, .slice none 0 0] 32 (0, 0)) (by (with_reducible repeat (first | refine blk_drewN ?_ _ | refine blk_drew ?_ | refine blk_alloc ?_ _)); exact BK234.out) hb); have n2_ := Aside0.mk (below_step (by repeat (first | (with_reducible first | exact HB.out | apply below_alloc | apply pw_below_drewN | apply below_drew1 | refine below_set ?_ GE234.out) | exact HB.out)) hb); have n3_ := Aside0.mk (hbox); have n4_ := Aside0.mk ((by rw [hg]; exact (below_size (by repeat (first | (with_reducible first | exact HB.out | apply below_alloc | apply pw_below_drewN | apply below_drew1 | refine below_set ?_ GE234.out) | exact HB.out))) : w.heap.size ≤ gb238)); have n5_ := Aside0.mk ((by rw [hg]; exact (below_size (by repeat (first | (with_reducible first | exact HB.out | apply below_alloc | apply pw_below_drewN | apply below_drew1 | refine below_set ?_ GE234.out) | exact HB.out))) : w.heap.size ≤ gb238)); have n6_ := Aside0.mk ((by rw [hg]; exact Nat.ne_of_lt (blk_lt (g := gb234) (o := .cells #[.slice none 0 0, .slice none 0 0] 32 (0, 0)) (by (with_reducible repeat (first | refine blk_drewN ?_ _ | refine blk_drew ?_ | refine blk_alloc ?_ _)); exact BK234.out)) : gb234 ≠ gb238)); have n7_ := Aside0.mk ((by rw [hg]; exact Nat.ne_of_gt (blk_lt (g := gb234) (o := .cells #[.slice none 0 0, .slice none 0 0] 32 (0, 0)) (by (with_reducible repeat (first | refine blk_drewN ?_ _ | refine blk_drew ?_ | refine blk_alloc ?_ _)); exact BK234.out)) : gb238 ≠ gb234)); clear HO237; clear BK234; clear HB; have HO237 := n0_; have BK234 := n1_; have HB := n2_; have BK238 := n3_; have GW238 := n4_; have GE238 := n5_; have NB234_238 := n6_; have NB238_234 := n7_; clear n0_ n1_ n2_ n3_ n4_ n5_ n6_ n7_; clear hb hbox hg; have hnb8 := NB238_234.out; have hnc8 := NB234_238.out; have hcz9_0 : w7.cell? ⟨gb238, 0, none⟩ = some (.slice none 0 0) := (blk_cell BK238.out 0).trans rfl; have hcz9_1 : w7.cell? ⟨gb238, 1, none⟩ = some (.slice none 0 0) := (blk_cell BK238.out 1).trans rfl; have hfz9_0 := blk_frozen BK238.out 0; have hfz9_1 := blk_frozen BK238.out 1))
 go_loopg [6] k (fun kq v6 w' => ∃ (x6_1 : Int) (x239001_1 : List Int) (u239001 : Value), v6 = .int .i64 x6_1 ∧ Aside0 (pantileref03_Cell.l0 kq l0 a1 x6_1 t235 x239001_1 = some (r1, r2)) ∧ Aside0 (kq ≤ k) ∧ Aside0 (Kd.R (Kd.int .u64) 30 w' w.heap.size (fun k_ => some k_ ≠ (u239001 : Value).ownBlock) (.slice Ao6 t235.length co6) t235) ∧ Aside0 (Kd.R (Kd.int .u64) 30 w' w.heap.size (fun k_ => some k_ ≠ ((.slice Ao6 t235.length co6) : Value).ownBlock) u239001 x239001_1) ∧ Aside0 (w'.heap[gb234]? = some (.cells #[(.slice none 0 0), (.slice none 0 0)] 32 (0, 0))) ∧ Aside0 (w'.heap[gb238]? = some (.cells #[(.slice Ao6 t235.length co6), u239001] 32 (0, 0))) ∧ Aside0 (Below w.heap.size w w'))
 case atStart => exact ⟨(0), (([] : List Int)), (.slice none 0 0), (by first | rfl | (simp; done) | (simp [*]; done)), H', ⟨Nat.le_refl _⟩, ⟨by (with_reducible repeat (first | apply Kd.R_alloc | apply Kd.R_drewN | apply Kd.R_drew)); exact Kd.R_mono (Kd.R_far (p := ⟨gb238, 1, none⟩) (Kd.R_far (p := ⟨gb238, 0, none⟩) (Kd.R_types HO237.out BK238.out (by decide)) (fun _ hk => hk.2) (.slice Ao6 t235.length co6)) (fun _ hk => hk.2) (.slice none 0 0)) (fun _ hk => (by simp [Value.ownBlock]))⟩, ⟨by first | exact Kd.R_nil _ _ _ _ _ | exact Kd.N_nil _ _ _ _ _ | exact Kd.V_nil _ _ _ _ _ | exact Kd.Q_nil _ _ _ _ _ | exact Kd.S_nil _ _ _ _ _⟩, ⟨by (with_reducible repeat (first | refine blk_drewN ?_ _ | refine blk_drew ?_ | refine blk_alloc ?_ _)); refine blk_far ?_ NB234_238.out _; (with_reducible repeat (first | refine blk_drewN ?_ _ | refine blk_drew ?_ | refine blk_alloc ?_ _)); refine blk_far ?_ NB234_238.out _; (with_reducible repeat (first | refine blk_drewN ?_ _ | refine blk_drew ?_ | refine blk_alloc ?_ _)); exact BK234.out⟩, ⟨by (with_reducible repeat (first | refine blk_drewN ?_ _ | refine blk_drew ?_ | refine blk_alloc ?_ _)); refine blk_put (cs := #[.slice Ao6 t235.length co6, .slice none 0 0]) ?_ 1 _ rfl; (with_reducible repeat (first | refine blk_drewN ?_ _ | refine blk_drew ?_ | refine blk_alloc ?_ _)); refine blk_put (cs := #[.slice none 0 0, .slice none 0 0]) ?_ 0 _ rfl; (with_reducible repeat (first | refine blk_drewN ?_ _ | refine blk_drew ?_ | refine blk_alloc ?_ _)); exact BK238.out⟩, ⟨by repeat (first | (with_reducible first | exact HB.out | apply below_alloc | apply pw_below_drewN | apply below_drew1 | refine below_set ?_ GE234.out | refine below_set ?_ GE238.out) | exact HB.out)⟩⟩
 case round =>
  clear H'
  try clear p2; try clear c3; try clear c4; try clear c8; try clear hcz9_0; try clear hcz9_1; try clear hfz9_0; try clear hfz9_1
  obtain ⟨x6_1, x239001_1, u239001, rfl, HA, HK1, HO_239000, HO_239001, BK234, BK238, HB⟩ := hrel
  cases gk with
  | zero => exact absurd HA.out (by simp [pantileref03_Cell.l0])
  | succ k1 =>
   have H := HA.out
   clear HA
   simp only [pantileref03_Cell.l0] at H
   by_cases c10 : x6_1 < (l0.length : Int)
   ·rw [if_pos c10] at H
    have c10b0 : decide (x6_1 < (l0.length : Int)) = true := decide_eq_true c10
    clear c10
    by_cases c11 : 0 ≤ x6_1
    ·rw [if_pos c11] at H
     have c11b0 : decide (0 ≤ x6_1) = true := decide_eq_true c11
     clear c11
     by_cases c12 : x6_1 < (t235.length : Int)
     ·rw [if_pos c12] at H
      have c12b0 : decide (x6_1 < (t235.length : Int)) = true := decide_eq_true c12
      clear c12
      have H' := Aside0.mk H
      clear H
      have hnb13 := NB238_234.out
      have hnc13 := NB234_238.out
      have hcz14_0 : wr.cell? ⟨gb238, 0, none⟩ = some (.slice Ao6 t235.length co6) := (blk_cell BK238.out 0).trans rfl
      have hcz14_1 : wr.cell? ⟨gb238, 1, none⟩ = some (u239001) := (blk_cell BK238.out 1).trans rfl
      have hfz14_0 := blk_frozen BK238.out 0
      have hfz14_1 := blk_frozen BK238.out 1
      have p239 : 0 ≤ (x6_1 : Int) := of_decide_eq_true (by first | (with_reducible assumption) | assumption)
      have q239 : x6_1 < (t235.length : Int) := of_decide_eq_true (by first | (with_reducible assumption) | assumption)
      obtain ⟨ad239, e239, hx239_0⟩ := Kd.at_int (Kd.R_reads' HO_239000.out).2.2 x6_1 p239 q239
      cases e239
      replace p239 := eq_true p239
      replace q239 := eq_true q239
      go_wp2
      go_loopg [7, 8] k1 (fun kq v7 v8 w' => ∃ (x7_2 : Int) (x8_2 : Int), v7 = .int .u64 x7_2 ∧ v8 = .int .i64 x8_2 ∧ Aside0 (pantileref03_Cell.l1 kq l0 a1 x6_1 x7_2 x8_2 t235 x239001_1 = some (r1, r2)) ∧ Aside0 (kq ≤ k1) ∧ Aside0 (Kd.R (Kd.int .u64) 30 w' w.heap.size (fun k_ => some k_ ≠ (u239001 : Value).ownBlock) (.slice (some ad239) t235.length co6) t235) ∧ Aside0 (Kd.R (Kd.int .u64) 30 w' w.heap.size (fun k_ => some k_ ≠ ((.slice (some ad239) t235.length co6) : Value).ownBlock) u239001 x239001_1) ∧ Aside0 (w'.heap[gb234]? = some (.cells #[(.slice none 0 0), (.slice none 0 0)] 32 (0, 0))) ∧ Aside0 (w'.heap[gb238]? = some (.cells #[(.slice (some ad239) t235.length co6), u239001] 32 (0, 0))) ∧ Aside0 (Below w.heap.size w w'))
      case atStart => exact ⟨(rd t235 x6_1), (0), (by first | rfl | (simp; done) | (simp [*]; done)), (by first | rfl | (simp; done) | (simp [*]; done)), H', ⟨Nat.le_refl _⟩, ⟨by (with_reducible repeat (first | apply Kd.R_alloc | apply Kd.R_drewN | apply Kd.R_drew)); exact HO_239000.out⟩, ⟨by (with_reducible repeat (first | apply Kd.R_alloc | apply Kd.R_drewN | apply Kd.R_drew)); exact HO_239001.out⟩, ⟨by (with_reducible repeat (first | refine blk_drewN ?_ _ | refine blk_drew ?_ | refine blk_alloc ?_ _)); exact BK234.out⟩, ⟨by (with_reducible repeat (first | refine blk_drewN ?_ _ | refine blk_drew ?_ | refine blk_alloc ?_ _)); exact BK238.out⟩, ⟨by repeat (first | (with_reducible first | exact HB.out | apply below_alloc | apply pw_below_drewN | apply below_drew1 | refine below_set ?_ GE234.out | refine below_set ?_ GE238.out) | exact HB.out)⟩⟩
      case round =>
       clear H'
       try clear c1; try clear p2; try clear q2; try clear hx2; try clear c3; try clear c4; try clear c8; try clear c10; try clear c10b0; try clear c11; try clear c11b0; try clear c12; try clear c12b0; try clear c13; try clear hcz14_0; try clear hcz14_1; try clear hcz9_0; try clear hcz9_1; try clear hfz14_0; try clear hfz14_1; try clear hfz9_0; try clear hfz9_1; try clear hx239_0; try clear p2; try clear p239; try clear q239
       obtain ⟨x7_2, x8_2, rfl, rfl, HA, HK2, HO_239000, HO_239001, BK234, BK238, HB⟩ := hrel
       cases gk with
       | zero => exact absurd HA.out (by simp [pantileref03_Cell.l1])
       | succ k2 =>
        have H := HA.out
        clear HA
        simp only [pantileref03_Cell.l1] at H
        by_cases c15 : x8_2 ≤ a1
        ·rw [if_pos c15] at H
         have c15b0 : decide (x8_2 ≤ a1) = true := decide_eq_true c15
         clear c15
         by_cases c16 : 0 ≤ x8_2
         ·rw [if_pos c16] at H
          have c16b0 := eq_true c16
          have c16b1 : decide (0 ≤ x8_2) = true := decide_eq_true c16
          clear c16
          obtain ⟨ji17, hji17⟩ : ∃ j_ : Int, (shl .u64 1 x8_2) = j_ := ⟨_, rfl⟩
          replace H : (pantileref03_Cell.l1 k2 l0 a1 x6_1 (IntKind.u64.wrap (x7_2 + (ji17))) (wrap64 (x8_2 + 1)) t235 x239001_1) = some (r1, r2) := by first | (rw [hji17] at H; exact H) | (simp only [hji17] at H ⊢; exact H)
          have hji17_ : (IntKind.u64.wrap (1 * 2 ^ min x8_2.toNat 64)) = ji17 := hji17
          have hji17z : x8_2 ≤ 64 → (IntKind.u64.wrap (1 * 2 ^ x8_2.toNat)) = ji17 := shl_small hji17
          have hji17u : (IntKind.u64.wrap (2 ^ min x8_2.toNat 64)) = ji17 := by have h_ := hji17_; rw [Int.one_mul] at h_; exact h_
          have hji17v : x8_2 ≤ 64 → (IntKind.u64.wrap (2 ^ x8_2.toNat)) = ji17 := fun hle_ => by have h_ := hji17z hle_; rw [Int.one_mul] at h_; exact h_
          have H' := Aside0.mk H
          clear H
          go_wp2
          go_roundg k2
          case measure => have := HK1.out; have := HK2.out; omega
          case rel => exact ⟨(IntKind.u64.wrap (x7_2 + (ji17))), (wrap64 (x8_2 + 1)), (by first | rfl | (simp; done) | (simp only [← hji17] <;> (first | rfl | simp)) | (simp [*]; done)), (by first | rfl | (simp; done) | (simp [*]; done)), H', ⟨by have := HK1.out; have := HK2.out; omega⟩, ⟨by (with_reducible repeat (first | apply Kd.R_alloc | apply Kd.R_drewN | apply Kd.R_drew)); exact HO_239000.out⟩, ⟨by (with_reducible repeat (first | apply Kd.R_alloc | apply Kd.R_drewN | apply Kd.R_drew)); exact HO_239001.out⟩, ⟨by (with_reducible repeat (first | refine blk_drewN ?_ _ | refine blk_drew ?_ | refine blk_alloc ?_ _)); exact BK234.out⟩, ⟨by (with_reducible repeat (first | refine blk_drewN ?_ _ | refine blk_drew ?_ | refine blk_alloc ?_ _)); exact BK238.out⟩, ⟨by repeat (first | (with_reducible first | exact HB.out | apply below_alloc | apply pw_below_drewN | apply below_drew1 | refine below_set ?_ GE234.out | refine below_set ?_ GE238.out) | exact HB.out)⟩⟩
         ·rw [if_neg c16] at H
          exact absurd H (by simp)
        ·rw [if_neg c15] at H
         have c15b0 : decide (x8_2 ≤ a1) = false := decide_eq_false c15
         clear c15
         by_cases c18 : x239001_1.length < 17592186044416
         ·rw [if_pos c18] at H
          have LMc18 := Aside0.mk c18
          clear c18
          obtain ⟨y240, hy240⟩ : ∃ y_ : List Int, y_ = (x239001_1 ++ [x7_2]) := ⟨_, rfl⟩
          replace H : (pantileref03_Cell.l0 k2 l0 a1 (wrap64 (x6_1 + 1)) t235 y240) = some (r1, r2) := by first | (rw [hy240]; with_reducible exact H) | (have H2_ := (Option.bind_some _ _).symm.trans H; rw [hy240]; with_reducible exact H2_) | (have H2_ := (Option.bind_some _ _).symm.trans H; with_reducible exact H2_) | with_reducible exact H | (rw [hy240]; exact H) | exact H
          have Ny240 := Aside0.mk hy240
          clear hy240
          have H' := Aside0.mk H
          clear H
          have hnb19 := NB238_234.out
          have hnc19 := NB234_238.out
          have hcz20_0 : wr.cell? ⟨gb238, 0, none⟩ = some (.slice (some ad239) t235.length co6) := (blk_cell BK238.out 0).trans rfl
          have hcz20_1 : wr.cell? ⟨gb238, 1, none⟩ = some (u239001) := (blk_cell BK238.out 1).trans rfl
          have hfz20_0 := blk_frozen BK238.out 0
          have hfz20_1 := blk_frozen BK238.out 1
          go_wp2_with (first | ((with_reducible refine gate_builtin (b := .append) (xs := #[.tmp 34, .tmp 36]) rfl ?_); at_builtin; refine Kd.R_append (Kd.int .u64) (w0 := w) w.heap.size rfl (.tmp 34) (.tmp 36) 22 30 (.int .u64 0) 8 rfl Try.underlying22 info30 rfl (by decide) (by omega) u239001 x239001_1 x7_2 [.int .u64 x7_2] (fun k_ => some k_ ≠ (.slice (some ad239) t235.length co6 : Value).ownBlock) (fun _ => False) rfl rfl ?aP (fun _ hk => hk.elim) ?aF ?aO ?aB ?aS ?aL ?_; (case aP => exact rfl); (case aB => exact (by repeat (first | (with_reducible first | exact HB.out | apply below_alloc | apply pw_below_drewN | apply below_drew1 | refine below_set ?_ GE234.out | refine below_set ?_ GE238.out) | exact HB.out))); (case aF => exact (fun k_ hk => Kd.fresh' (Kd.R_lt (by (with_reducible repeat (first | apply Kd.R_alloc | apply Kd.R_drewN | apply Kd.R_drew)); exact HO_239000.out)) k_ hk)); (case aO => exact (by (with_reducible repeat (first | apply Kd.R_alloc | apply Kd.R_drewN | apply Kd.R_drew)); exact HO_239001.out)); (case aS => exact (below_size (by repeat (first | (with_reducible first | exact HB.out | apply below_alloc | apply pw_below_drewN | apply below_drew1 | refine below_set ?_ GE234.out | refine below_set ?_ GE238.out) | exact HB.out)))); (case aL => have := LMc18.out; omega); intro v241 w21 ho hb hg hat; rw [← Ny240.out] at ho; have n0_ := Aside0.mk (Kd.R_after (ok := (fun _ => True)) (by (with_reducible repeat (first | apply Kd.R_alloc | apply Kd.R_drewN | apply Kd.R_drew)); exact Kd.R_mono HO_239000.out (fun _ hk => ⟨trivial, hk⟩)) hg hat); have n1_ := Aside0.mk (blk_grown (g := gb234) (o := .cells #[.slice none 0 0, .slice none 0 0] 32 (0, 0)) (by (with_reducible repeat (first | refine blk_drewN ?_ _ | refine blk_drew ?_ | refine blk_alloc ?_ _)); exact BK234.out) hg (Kd.R_ne HO_239001.out BK234.out (by decide))); have n2_ := Aside0.mk (blk_grown (g := gb238) (o := .cells #[.slice (some ad239) t235.length co6, u239001] 32 (0, 0)) (by (with_reducible repeat (first | refine blk_drewN ?_ _ | refine blk_drew ?_ | refine blk_alloc ?_ _)); exact BK238.out) hg (Kd.R_ne HO_239001.out BK238.out (by decide))); have n3_ := Aside0.mk (hb); have n4_ := Aside0.mk (ho); clear HO_239000; clear BK234; clear BK238; clear HB; clear HO_239001; have HO_239000 := n0_; have BK234 := n1_; have BK238 := n2_; have HB := n3_; have HO242 := n4_; clear n0_ n1_ n2_ n3_ n4_; clear ho hb hg hat; obtain ⟨Ao22, co22, eo22⟩ := Kd.R_slice HO242.out; subst eo22; have hcz23_0 : w21.cell? ⟨gb238, 0, none⟩ = some (.slice (some ad239) t235.length co6) := (blk_cell BK238.out 0).trans rfl; have hcz23_1 : w21.cell? ⟨gb238, 1, none⟩ = some (u239001) := (blk_cell BK238.out 1).trans rfl; have hfz23_0 := blk_frozen BK238.out 0; have hfz23_1 := blk_frozen BK238.out 1))
          go_roundg k2
          case measure => have := HK1.out; have := HK2.out; omega
          case rel => exact ⟨(wrap64 (x6_1 + 1)), (y240), (.slice Ao22 y240.length co22), (by first | rfl | (simp; done) | (simp [*]; done)), H', ⟨by have := HK1.out; have := HK2.out; omega⟩, ⟨by (with_reducible repeat (first | apply Kd.R_alloc | apply Kd.R_drewN | apply Kd.R_drew)); exact Kd.R_mono (Kd.R_far (p := ⟨gb238, 1, none⟩) (Kd.R_types HO_239000.out BK238.out (by decide)) (fun _ hk => hk.2) (.slice Ao22 y240.length co22)) (fun _ hk => hk.1.2)⟩, ⟨by (with_reducible repeat (first | apply Kd.R_alloc | apply Kd.R_drewN | apply Kd.R_drew)); exact Kd.R_mono (Kd.R_far (p := ⟨gb238, 1, none⟩) (Kd.R_types HO242.out BK238.out (by decide)) (fun _ hk => hk.2) (.slice Ao22 y240.length co22)) (fun _ hk => hk.1)⟩, ⟨by (with_reducible repeat (first | refine blk_drewN ?_ _ | refine blk_drew ?_ | refine blk_alloc ?_ _)); refine blk_far ?_ NB234_238.out _; (with_reducible repeat (first | refine blk_drewN ?_ _ | refine blk_drew ?_ | refine blk_alloc ?_ _)); exact BK234.out⟩, ⟨by (with_reducible repeat (first | refine blk_drewN ?_ _ | refine blk_drew ?_ | refine blk_alloc ?_ _)); refine blk_put (cs := #[.slice (some ad239) t235.length co6, u239001]) ?_ 1 _ rfl; (with_reducible repeat (first | refine blk_drewN ?_ _ | refine blk_drew ?_ | refine blk_alloc ?_ _)); exact BK238.out⟩, ⟨by repeat (first | (with_reducible first | exact HB.out | apply below_alloc | apply pw_below_drewN | apply below_drew1 | refine below_set ?_ GE234.out | refine below_set ?_ GE238.out) | exact HB.out)⟩⟩
         ·rw [if_neg c18] at H
          exact absurd H (by simp)
     ·rw [if_neg c12] at H
      exact absurd H (by simp)
    ·rw [if_neg c11] at H
     exact absurd H (by simp)
   ·rw [if_neg c10] at H
    have c10b0 : decide (x6_1 < (l0.length : Int)) = false := decide_eq_false c10
    clear c10
    simp only [Option.some.injEq, Prod.mk.injEq] at H
    obtain ⟨rfl, rfl⟩ := H
    have hnb24 := NB238_234.out
    have hnc24 := NB234_238.out
    have hcz25_0 : wr.cell? ⟨gb238, 0, none⟩ = some (.slice Ao6 t235.length co6) := (blk_cell BK238.out 0).trans rfl
    have hcz25_1 : wr.cell? ⟨gb238, 1, none⟩ = some (u239001) := (blk_cell BK238.out 1).trans rfl
    have hfz25_0 := blk_frozen BK238.out 0
    have hfz25_1 := blk_frozen BK238.out 1
    have hcz26_0 : wr.cell? ⟨gb234, 0, none⟩ = some (.slice none 0 0) := (blk_cell BK234.out 0).trans rfl
    have hcz26_1 : wr.cell? ⟨gb234, 1, none⟩ = some (.slice none 0 0) := (blk_cell BK234.out 1).trans rfl
    have hfz26_0 := blk_frozen BK234.out 0
    have hfz26_1 := blk_frozen BK234.out 1
    obtain ⟨Ao27, co27, eo27⟩ := Kd.R_slice HO_239001.out
    subst eo27
    go_wp2
    refine bodyPost_ret (results_cell_row rfl _ _ gb234 32 #[.slice Ao6 t235.length co6, .slice Ao27 x239001_1.length co27] (0, 0) _ rfl (by (with_reducible repeat (first | refine blk_drewN ?_ _ | refine blk_drew ?_ | refine blk_alloc ?_ _)); refine blk_put (cs := #[.slice Ao6 t235.length co6, .slice none 0 0]) ?_ 1 _ rfl; (with_reducible repeat (first | refine blk_drewN ?_ _ | refine blk_drew ?_ | refine blk_alloc ?_ _)); refine blk_put (cs := #[.slice none 0 0, .slice none 0 0]) ?_ 0 _ rfl; (with_reducible repeat (first | refine blk_drewN ?_ _ | refine blk_drew ?_ | refine blk_alloc ?_ _)); exact BK234.out) Try.underlying32 rfl (by kernel_rfl)) rfl ?_
    exact ⟨_, _, by first | rfl | (simp [errW_none, errW_some] <;> rfl) | (simp [*, errW_none, errW_some] <;> rfl), by (with_reducible repeat (first | apply Kd.R_alloc | apply Kd.R_drewN | apply Kd.R_drew)); exact Kd.R_mono (Kd.R_far (p := ⟨gb234, 1, none⟩) (Kd.R_far (p := ⟨gb234, 0, none⟩) (Kd.R_types HO_239000.out BK234.out (by decide)) (fun _ hk => hk.2) (.slice Ao6 t235.length co6)) (fun _ hk => hk.2) (.slice Ao27 x239001_1.length co27)) (fun _ hk => hk.1), by (with_reducible repeat (first | apply Kd.R_alloc | apply Kd.R_drewN | apply Kd.R_drew)); exact Kd.R_mono (Kd.R_far (p := ⟨gb234, 1, none⟩) (Kd.R_far (p := ⟨gb234, 0, none⟩) (Kd.R_types HO_239001.out BK234.out (by decide)) (fun _ hk => hk.2) (.slice Ao6 t235.length co6)) (fun _ hk => hk.2) (.slice Ao27 x239001_1.length co27)) (fun _ hk => hk.1), by repeat (first | (with_reducible first | exact HB.out | apply below_alloc | apply pw_below_drewN | apply below_drew1 | refine below_set ?_ GE234.out | refine below_set ?_ GE238.out) | exact HB.out)⟩

end Go.Proofs.Ythdphjbecibeaaa.PCoverCells
