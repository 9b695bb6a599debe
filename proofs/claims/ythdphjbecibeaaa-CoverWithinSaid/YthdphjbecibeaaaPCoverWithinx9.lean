-- Written by wip/tools/print2.py, a program of this session, over the kit's print of the program. Lean checks it.
import Derived.Test.YthdphjbecibeaaaPCoverWithinx0
import Derived.Test.YthdphjbecibeaaaPCoverWithinx2
import Derived.Test.YthdphjbecibeaaaPCoverWithinx3
import Derived.Test.YthdphjbecibeaaaPCoverWithinx8
namespace Go.Proofs.Ythdphjbecibeaaa.PCoverWithin
open Go.RowKit Go.Proofs.YthdphjbecibeaaaW.PrintWords Go.Proofs.YthdphjbecibeaaaW.PrintLast Go.Proofs.YthdphjbecibeaaaW.PrintMore
attribute [local go_sem] max2_int min2_int max_two min_two max_three min_three max_four min_four   -- for this text's walks alone
set_option linter.unusedVariables false
set_option linter.unusedSimpArgs false

/-! ### cover_Cells: function 67: by hand -/
def cover_Cells.f (k : Nat) (l0_0 : List Int) (l0_1 : List Int) (a1 : Int) : Option (List (S89) × Int) := (box_Empty.f k l0_0 l0_1).bind fun e => if e.2 = 0 then (if e.1 = true then (if a1 < 0 then some ([], 11) else some ([], 0)) else (cover_Least.f k l0_0 l0_1).bind fun c => (cover_splitter_split.f k l0_0 l0_1 a1 [] c.1 c.2.1).bind fun s => if s.1 = true then some (s.2, 0) else some ([], 11)) else some ([], e.2)
theorem cover_Cells.mono : ∀ a0 a1 a2 k, LeO (cover_Cells.f k a0 a1 a2) (cover_Cells.f (k + 1) a0 a1 a2) := by
  intro a0 a1 a2 k
  unfold cover_Cells.f
  refine LeO.bind (box_Empty.mono _ _ _) (fun e => ?_)
  split
  · split
    · exact LeO.refl _
    · exact LeO.bind (cover_Least.mono _ _ _) (fun c => LeO.bind (cover_splitter_split.mono _ _ _ _ _ _ _) (fun s => LeO.refl _))
  · exact LeO.refl _
--#WALK
set_option maxHeartbeats 8000000 in
set_option maxRecDepth 100000 in
theorem cover_Cells.calls (k : Nat) (A0_0 : Option Addr) (c0_0 : Nat) (l0_0 : List Int) (A0_1 : Option Addr) (c0_1 : Nat) (l0_1 : List Int) (a1 : Int) (r1 : List (S89)) (r2 : Int) (w : World) (hr0_0 : Kd.C (Kd.int .u64) w A0_0 l0_0.length l0_0) (hc0_0 : l0_0.length ≤ c0_0) (hr0_1 : Kd.C (Kd.int .u64) w A0_1 l0_1.length l0_1) (hc0_1 : l0_1.length ≤ c0_1) (h : cover_Cells.f k l0_0 l0_1 a1 = some (r1, r2)) :
    Calls Try.prog 67 #[.agg #[.slice A0_0 l0_0.length c0_0, .slice A0_1 l0_1.length c0_1], .int .i64 a1] w fun e w' => ∃ v0_ : Value, e = .returned (.tuple #[v0_, .int .i64 r2]) ∧ Kd.N k89 89 w' w.heap.size (fun k_ => (w.heap.size ≤ k_)) v0_ r1 ∧ Below w.heap.size w w' := by
  have hu89 := Try.underlying89
  have hu32 := Try.underlying32
  have hu121 := Try.underlying121
  have HR0 := Aside0.mk hr0_0
  have HR1 := Aside0.mk hr0_1
  have HC0 := Aside0.mk hc0_0
  have HC1 := Aside0.mk hc0_1
  obtain ⟨⟨em, ec⟩, he, H⟩ := Option.bind_eq_some_iff.mp h
  have HE := Aside0.mk he
  clear hr0_0 hr0_1 hc0_0 hc0_1 h he
  simp only at H
  by_cases hec : ec = 0
  · subst hec
    rw [if_pos rfl] at H
    cases em with
    | true =>
      rw [if_pos rfl] at H
      by_cases hneg : a1 < 0
      · rw [if_pos hneg] at H
        simp only [Option.some.injEq, Prod.mk.injEq] at H
        obtain ⟨rfl, rfl⟩ := H
        have hd := decide_eq_true hneg
        clear hneg
        go_enter Try.func67, Try.ntmps67
        go_wp2_with (first | ((with_reducible refine gate_dst (N := 2) rfl ?_); refine box_event ?hg (N := 2) ?hd (cs := #[.slice A0_0 l0_0.length c0_0, .slice A0_1 l0_1.length c0_1]) (t := 32) ?hr ?_; (case hd => rfl); (case hg => rfl); (case hr => first | (go_simp; done) | (go_simp; rfl)); intro gb hg w1 hbox hb; have HB := Aside0.mk hb; have BKB := Aside0.mk hbox; have HGB := Aside0.mk (show w.heap.size ≤ gb by omega); have hb10 := (blk_cell hbox 0).trans rfl; have hb11 := (blk_cell hbox 1).trans rfl; clear hb hbox hg) | (go_at_call 62; refine (box_Empty.calls k A0_0 c0_0 l0_0 A0_1 c0_1 l0_1 _ _ _ (Kd.C_below HR0.out HB.out) HC0.out (Kd.C_below HR1.out HB.out) HC1.out HE.out).mono ?_; rintro e w2 ⟨rfl, hb⟩; have HB2 := Aside0.mk (below_step HB.out hb); have BKB2 := Aside0.mk (blk_below BKB.out hb); have hb20 := (blk_cell BKB2.out 0).trans rfl; have hb21 := (blk_cell BKB2.out 1).trans rfl; clear hb))
        go_ret2
        exact ⟨_, rfl, Kd.N_nil _ _ _ _ _, HB2.out⟩
      · rw [if_neg hneg] at H
        simp only [Option.some.injEq, Prod.mk.injEq] at H
        obtain ⟨rfl, rfl⟩ := H
        have hd := decide_eq_false hneg
        clear hneg
        go_enter Try.func67, Try.ntmps67
        go_wp2_with (first | ((with_reducible refine gate_dst (N := 2) rfl ?_); refine box_event ?hg (N := 2) ?hd (cs := #[.slice A0_0 l0_0.length c0_0, .slice A0_1 l0_1.length c0_1]) (t := 32) ?hr ?_; (case hd => rfl); (case hg => rfl); (case hr => first | (go_simp; done) | (go_simp; rfl)); intro gb hg w1 hbox hb; have HB := Aside0.mk hb; have BKB := Aside0.mk hbox; have HGB := Aside0.mk (show w.heap.size ≤ gb by omega); have hb10 := (blk_cell hbox 0).trans rfl; have hb11 := (blk_cell hbox 1).trans rfl; clear hb hbox hg) | (go_at_call 62; refine (box_Empty.calls k A0_0 c0_0 l0_0 A0_1 c0_1 l0_1 _ _ _ (Kd.C_below HR0.out HB.out) HC0.out (Kd.C_below HR1.out HB.out) HC1.out HE.out).mono ?_; rintro e w2 ⟨rfl, hb⟩; have HB2 := Aside0.mk (below_step HB.out hb); have BKB2 := Aside0.mk (blk_below BKB.out hb); have hb20 := (blk_cell BKB2.out 0).trans rfl; have hb21 := (blk_cell BKB2.out 1).trans rfl; clear hb))
        go_ret2
        exact ⟨_, rfl, Kd.N_nil _ _ _ _ _, HB2.out⟩
    | false =>
      rw [if_neg (by simp)] at H
      obtain ⟨⟨c, cl, cc⟩, hl, H⟩ := Option.bind_eq_some_iff.mp H
      obtain ⟨⟨sb, so⟩, hs, H⟩ := Option.bind_eq_some_iff.mp H
      have HL := Aside0.mk hl
      have HSP := Aside0.mk hs
      clear hl hs
      simp only at H
      cases sb with
      | false =>
        rw [if_neg (by simp)] at H
        simp only [Option.some.injEq, Prod.mk.injEq] at H
        obtain ⟨rfl, rfl⟩ := H
        go_enter Try.func67, Try.ntmps67
        go_wp2_with (first | ((with_reducible refine gate_dst (N := 2) rfl ?_); refine box_event ?hg (N := 2) ?hd (cs := #[.slice A0_0 l0_0.length c0_0, .slice A0_1 l0_1.length c0_1]) (t := 32) ?hr ?_; (case hd => rfl); (case hg => rfl); (case hr => first | (go_simp; done) | (go_simp; rfl)); intro gb hg w1 hbox hb; have HB := Aside0.mk hb; have BKB := Aside0.mk hbox; have HGB := Aside0.mk (show w.heap.size ≤ gb by omega); have hb10 := (blk_cell hbox 0).trans rfl; have hb11 := (blk_cell hbox 1).trans rfl; clear hb hbox hg) | (go_at_call 62; refine (box_Empty.calls k A0_0 c0_0 l0_0 A0_1 c0_1 l0_1 _ _ _ (Kd.C_below HR0.out HB.out) HC0.out (Kd.C_below HR1.out HB.out) HC1.out HE.out).mono ?_; rintro e w2 ⟨rfl, hb⟩; have HB2 := Aside0.mk (below_step HB.out hb); have BKB2 := Aside0.mk (blk_below BKB.out hb); have hb20 := (blk_cell BKB2.out 0).trans rfl; have hb21 := (blk_cell BKB2.out 1).trans rfl; clear hb) | (go_at_call 68; refine (cover_Least.calls k A0_0 c0_0 l0_0 A0_1 c0_1 l0_1 _ _ _ _ (Kd.C_below HR0.out HB2.out) HC0.out (Kd.C_below HR1.out HB2.out) HC1.out HL.out).mono ?_; rintro e w3 ⟨v0, rfl, hR, hb⟩; obtain ⟨Ao, co, eo⟩ := Kd.R_slice hR; subst eo; have HB3 := Aside0.mk (below_step HB2.out hb); have BKB3 := Aside0.mk (blk_below BKB2.out hb); have HP3 := Aside0.mk (show Kd.V (Kd.int .u64) 30 w3 w.heap.size (fun k_ => w.heap.size ≤ k_ ∧ k_ < w3.heap.size) (.slice Ao c.length co) c from Kd.R_V (Kd.R_mono (Kd.R_bound hR) (fun k_ hk => ⟨Nat.le_trans HB2.out.size hk.2.1, hk.2.2.1⟩))); clear hR hb) | ((with_reducible refine gate_dst (N := 8) rfl ?_); refine box_event ?hg (N := 8) ?hd (cs := #[.slice none 0 0, .int .i64 0]) (t := 89) ?hr ?_; (case hd => rfl); (case hg => rfl); (case hr => first | (go_simp; done) | (go_simp; rfl)); intro gc hg w4 hbox hb; have HB4 := Aside0.mk (below_step HB3.out hb); have BKB4 := Aside0.mk (blk_below BKB3.out hb); have HGC := Aside0.mk (show w3.heap.size ≤ gc by omega); have HNE := Aside0.mk (show gb ≠ gc by have := blk_lt BKB3.out; omega); have HP4 := Aside0.mk (Kd.V_below HP3.out hb); have BKC4 := Aside0.mk hbox; have hc40 := (blk_cell hbox 0).trans rfl; have hc41 := (blk_cell hbox 1).trans rfl; have hf40 := blk_frozen hbox 0; have hf41 := blk_frozen hbox 1; have HSZ := Aside0.mk hb.size; have hb40 : ∀ u0 u1, ((w4.setCell ⟨gc, 0, none⟩ u0).setCell ⟨gc, 1, none⟩ u1).cell? ⟨gb, 0, none⟩ = some (.slice A0_0 l0_0.length c0_0) := (fun u0 u1 => (blk_cell (blk_far (p := ⟨gc, 1, none⟩) (blk_far (p := ⟨gc, 0, none⟩) BKB4.out HNE.out u0) HNE.out u1) 0).trans rfl); have hb41 : ∀ u0 u1, ((w4.setCell ⟨gc, 0, none⟩ u0).setCell ⟨gc, 1, none⟩ u1).cell? ⟨gb, 1, none⟩ = some (.slice A0_1 l0_1.length c0_1) := (fun u0 u1 => (blk_cell (blk_far (p := ⟨gc, 1, none⟩) (blk_far (p := ⟨gc, 0, none⟩) BKB4.out HNE.out u0) HNE.out u1) 1).trans rfl); clear hb hbox hg) | ((with_reducible refine gate_dst (N := 36) rfl ?_); refine box_event ?hg (N := 36) ?hd (cs := #[.slice A0_0 l0_0.length c0_0, .slice A0_1 l0_1.length c0_1, .int .i64 a1, .slice none 0 0]) (t := 121) ?hr ?_; (case hd => rfl); (case hg => rfl); (case hr => first | (go_simp; done) | (go_simp; rfl)); intro gs hg w5 hbox hb; have HGS := Aside0.mk (show gs = w4.heap.size by rw [hg]; simp [World.setCell]); have hle3 := (show w.heap.size ≤ w3.heap.size from HB3.out.size); have HGCW := Aside0.mk (show w.heap.size ≤ gc by have := HGC.out; omega); have BKC5 := Aside0.mk (blk_below (blk_put (blk_put BKC4.out 0 (.slice Ao c.length co) rfl) 1 (.int .i64 cl) rfl) hb); have HB5 := Aside0.mk (below_step ((HB4.out.setCell (p := ⟨gc, 0, none⟩) HGCW.out (.slice Ao c.length co)).setCell (p := ⟨gc, 1, none⟩) HGCW.out (.int .i64 cl)) hb); have HP5 := Aside0.mk (Kd.V_below (Kd.V_far (p := ⟨gc, 1, none⟩) (Kd.V_far (p := ⟨gc, 0, none⟩) HP4.out (fun k_ hk => by show k_ ≠ gc; have := hk.2; have := HGC.out; omega) (.slice Ao c.length co)) (fun k_ hk => by show k_ ≠ gc; have := hk.2; have := HGC.out; omega) (.int .i64 cl)) hb); have BKS5 := Aside0.mk hbox; have hc50 := (blk_cell BKC5.out 0).trans rfl; have hc51 := (blk_cell BKC5.out 1).trans rfl; clear hb hbox hg hle3 hc40 hc41 hf40 hf41 hb40 hb41) | (go_at_call 95; refine (cover_splitter_split.calls k w gs A0_0 c0_0 l0_0 A0_1 c0_1 l0_1 a1 (.slice none 0 0) [] Ao co c cl (fun k_ => w.heap.size ≤ k_) _ _ _ HR0.out HC0.out HR1.out HC1.out (by have := HGS.out; have := HB4.out.size; omega) HB5.out BKS5.out (Kd.N_nil _ _ _ _ _) (fun k_ hk => Nat.le_trans HB5.out.size hk) (Kd.V_mono HP5.out (fun k_ hk => ⟨hk.1, by have := hk.2; have := HGS.out; have := HSZ.out; omega, by simp [Value.ownBlock]⟩)) HSP.out).mono ?_; rintro e w6 ⟨v, rfl, hblk, hrows, hbelow, hkept, hat⟩; have HRW := Aside0.mk hrows; have HB6 := Aside0.mk hbelow; have hv6 := (blk_cell hblk 3).trans rfl; clear hblk hrows hbelow hkept hat))
        go_ret2
        exact ⟨_, rfl, Kd.N_nil _ _ _ _ _, HB6.out⟩
      | true =>
        rw [if_pos rfl] at H
        simp only [Option.some.injEq, Prod.mk.injEq] at H
        obtain ⟨rfl, rfl⟩ := H
        go_enter Try.func67, Try.ntmps67
        go_wp2_with (first | ((with_reducible refine gate_dst (N := 2) rfl ?_); refine box_event ?hg (N := 2) ?hd (cs := #[.slice A0_0 l0_0.length c0_0, .slice A0_1 l0_1.length c0_1]) (t := 32) ?hr ?_; (case hd => rfl); (case hg => rfl); (case hr => first | (go_simp; done) | (go_simp; rfl)); intro gb hg w1 hbox hb; have HB := Aside0.mk hb; have BKB := Aside0.mk hbox; have HGB := Aside0.mk (show w.heap.size ≤ gb by omega); have hb10 := (blk_cell hbox 0).trans rfl; have hb11 := (blk_cell hbox 1).trans rfl; clear hb hbox hg) | (go_at_call 62; refine (box_Empty.calls k A0_0 c0_0 l0_0 A0_1 c0_1 l0_1 _ _ _ (Kd.C_below HR0.out HB.out) HC0.out (Kd.C_below HR1.out HB.out) HC1.out HE.out).mono ?_; rintro e w2 ⟨rfl, hb⟩; have HB2 := Aside0.mk (below_step HB.out hb); have BKB2 := Aside0.mk (blk_below BKB.out hb); have hb20 := (blk_cell BKB2.out 0).trans rfl; have hb21 := (blk_cell BKB2.out 1).trans rfl; clear hb) | (go_at_call 68; refine (cover_Least.calls k A0_0 c0_0 l0_0 A0_1 c0_1 l0_1 _ _ _ _ (Kd.C_below HR0.out HB2.out) HC0.out (Kd.C_below HR1.out HB2.out) HC1.out HL.out).mono ?_; rintro e w3 ⟨v0, rfl, hR, hb⟩; obtain ⟨Ao, co, eo⟩ := Kd.R_slice hR; subst eo; have HB3 := Aside0.mk (below_step HB2.out hb); have BKB3 := Aside0.mk (blk_below BKB2.out hb); have HP3 := Aside0.mk (show Kd.V (Kd.int .u64) 30 w3 w.heap.size (fun k_ => w.heap.size ≤ k_ ∧ k_ < w3.heap.size) (.slice Ao c.length co) c from Kd.R_V (Kd.R_mono (Kd.R_bound hR) (fun k_ hk => ⟨Nat.le_trans HB2.out.size hk.2.1, hk.2.2.1⟩))); clear hR hb) | ((with_reducible refine gate_dst (N := 8) rfl ?_); refine box_event ?hg (N := 8) ?hd (cs := #[.slice none 0 0, .int .i64 0]) (t := 89) ?hr ?_; (case hd => rfl); (case hg => rfl); (case hr => first | (go_simp; done) | (go_simp; rfl)); intro gc hg w4 hbox hb; have HB4 := Aside0.mk (below_step HB3.out hb); have BKB4 := Aside0.mk (blk_below BKB3.out hb); have HGC := Aside0.mk (show w3.heap.size ≤ gc by omega); have HNE := Aside0.mk (show gb ≠ gc by have := blk_lt BKB3.out; omega); have HP4 := Aside0.mk (Kd.V_below HP3.out hb); have BKC4 := Aside0.mk hbox; have hc40 := (blk_cell hbox 0).trans rfl; have hc41 := (blk_cell hbox 1).trans rfl; have hf40 := blk_frozen hbox 0; have hf41 := blk_frozen hbox 1; have HSZ := Aside0.mk hb.size; have hb40 : ∀ u0 u1, ((w4.setCell ⟨gc, 0, none⟩ u0).setCell ⟨gc, 1, none⟩ u1).cell? ⟨gb, 0, none⟩ = some (.slice A0_0 l0_0.length c0_0) := (fun u0 u1 => (blk_cell (blk_far (p := ⟨gc, 1, none⟩) (blk_far (p := ⟨gc, 0, none⟩) BKB4.out HNE.out u0) HNE.out u1) 0).trans rfl); have hb41 : ∀ u0 u1, ((w4.setCell ⟨gc, 0, none⟩ u0).setCell ⟨gc, 1, none⟩ u1).cell? ⟨gb, 1, none⟩ = some (.slice A0_1 l0_1.length c0_1) := (fun u0 u1 => (blk_cell (blk_far (p := ⟨gc, 1, none⟩) (blk_far (p := ⟨gc, 0, none⟩) BKB4.out HNE.out u0) HNE.out u1) 1).trans rfl); clear hb hbox hg) | ((with_reducible refine gate_dst (N := 36) rfl ?_); refine box_event ?hg (N := 36) ?hd (cs := #[.slice A0_0 l0_0.length c0_0, .slice A0_1 l0_1.length c0_1, .int .i64 a1, .slice none 0 0]) (t := 121) ?hr ?_; (case hd => rfl); (case hg => rfl); (case hr => first | (go_simp; done) | (go_simp; rfl)); intro gs hg w5 hbox hb; have HGS := Aside0.mk (show gs = w4.heap.size by rw [hg]; simp [World.setCell]); have hle3 := (show w.heap.size ≤ w3.heap.size from HB3.out.size); have HGCW := Aside0.mk (show w.heap.size ≤ gc by have := HGC.out; omega); have BKC5 := Aside0.mk (blk_below (blk_put (blk_put BKC4.out 0 (.slice Ao c.length co) rfl) 1 (.int .i64 cl) rfl) hb); have HB5 := Aside0.mk (below_step ((HB4.out.setCell (p := ⟨gc, 0, none⟩) HGCW.out (.slice Ao c.length co)).setCell (p := ⟨gc, 1, none⟩) HGCW.out (.int .i64 cl)) hb); have HP5 := Aside0.mk (Kd.V_below (Kd.V_far (p := ⟨gc, 1, none⟩) (Kd.V_far (p := ⟨gc, 0, none⟩) HP4.out (fun k_ hk => by show k_ ≠ gc; have := hk.2; have := HGC.out; omega) (.slice Ao c.length co)) (fun k_ hk => by show k_ ≠ gc; have := hk.2; have := HGC.out; omega) (.int .i64 cl)) hb); have BKS5 := Aside0.mk hbox; have hc50 := (blk_cell BKC5.out 0).trans rfl; have hc51 := (blk_cell BKC5.out 1).trans rfl; clear hb hbox hg hle3 hc40 hc41 hf40 hf41 hb40 hb41) | (go_at_call 95; refine (cover_splitter_split.calls k w gs A0_0 c0_0 l0_0 A0_1 c0_1 l0_1 a1 (.slice none 0 0) [] Ao co c cl (fun k_ => w.heap.size ≤ k_) _ _ _ HR0.out HC0.out HR1.out HC1.out (by have := HGS.out; have := HB4.out.size; omega) HB5.out BKS5.out (Kd.N_nil _ _ _ _ _) (fun k_ hk => Nat.le_trans HB5.out.size hk) (Kd.V_mono HP5.out (fun k_ hk => ⟨hk.1, by have := hk.2; have := HGS.out; have := HSZ.out; omega, by simp [Value.ownBlock]⟩)) HSP.out).mono ?_; rintro e w6 ⟨v, rfl, hblk, hrows, hbelow, hkept, hat⟩; have HRW := Aside0.mk hrows; have HB6 := Aside0.mk hbelow; have hv6 := (blk_cell hblk 3).trans rfl; clear hblk hrows hbelow hkept hat))
        go_ret2
        exact ⟨v, rfl, Kd.N_mono HRW.out (fun _ hk => hk.1), HB6.out⟩
  · rw [if_neg hec] at H
    simp only [Option.some.injEq, Prod.mk.injEq] at H
    obtain ⟨rfl, rfl⟩ := H
    have hd0 : (ec != 0) = true := bne_iff_ne.mpr hec
    clear hec
    go_enter Try.func67, Try.ntmps67
    go_wp2_with (first | ((with_reducible refine gate_dst (N := 2) rfl ?_); refine box_event ?hg (N := 2) ?hd (cs := #[.slice A0_0 l0_0.length c0_0, .slice A0_1 l0_1.length c0_1]) (t := 32) ?hr ?_; (case hd => rfl); (case hg => rfl); (case hr => first | (go_simp; done) | (go_simp; rfl)); intro gb hg w1 hbox hb; have HB := Aside0.mk hb; have BKB := Aside0.mk hbox; have HGB := Aside0.mk (show w.heap.size ≤ gb by omega); have hb10 := (blk_cell hbox 0).trans rfl; have hb11 := (blk_cell hbox 1).trans rfl; clear hb hbox hg) | (go_at_call 62; refine (box_Empty.calls k A0_0 c0_0 l0_0 A0_1 c0_1 l0_1 _ _ _ (Kd.C_below HR0.out HB.out) HC0.out (Kd.C_below HR1.out HB.out) HC1.out HE.out).mono ?_; rintro e w2 ⟨rfl, hb⟩; have HB2 := Aside0.mk (below_step HB.out hb); have BKB2 := Aside0.mk (blk_below BKB.out hb); have hb20 := (blk_cell BKB2.out 0).trans rfl; have hb21 := (blk_cell BKB2.out 1).trans rfl; clear hb))
    go_ret2
    exact ⟨_, rfl, Kd.N_nil _ _ _ _ _, HB2.out⟩

/-! ### pantilelaw33_awake: function 66 -/
def pantilelaw33_awake.f (k : Nat)  : Option (Bool) := (cover_Cells.f k (([1] : List Int)) (([6] : List Int)) 9).bind fun bt223 => (if bt223.2 = 0 then (if (bt223.1.length : Int) = 4 then (if 0 < (bt223.1.length : Int) then (if ((rd_T89 bt223.1 0).f1) = (-1) then (if 1 < (bt223.1.length : Int) then (if ((rd_T89 bt223.1 1).f1) = 0 then (if 2 < (bt223.1.length : Int) then (if 0 < (((rd_T89 bt223.1 2).f0).length : Int) then (if (rd ((rd_T89 bt223.1 2).f0) 0) = 4 then (if 3 < (bt223.1.length : Int) then (if 0 < (((rd_T89 bt223.1 3).f0).length : Int) then (some ((rd ((rd_T89 bt223.1 3).f0) 0) == 6)) else (none)) else (none)) else (some false)) else (none)) else (none)) else (some false)) else (none)) else (some false)) else (none)) else (some false)) else (some false))
theorem pantilelaw33_awake.mono : ∀ k, LeO (pantilelaw33_awake.f k ) (pantilelaw33_awake.f (k + 1) ) := by
  intro  k
  unfold pantilelaw33_awake.f
  repeat' first
      | (with_reducible exact cover_Cells.mono _ _ _ _)
      | (with_reducible exact LeO.refl _)
      | (with_reducible exact LeO.none _)
      | (with_reducible refine LeO.ite ?_ ?_)
      | (with_reducible refine LeO.bind ?_ (fun _ => ?_))
      | exact cover_Cells.mono _ _ _ _
      | exact LeO.none _
      | refine LeO.ite ?_ ?_
      | refine LeO.bind ?_ (fun _ => ?_)
set_option maxHeartbeats 8000000 in
set_option maxRecDepth 100000 in
theorem pantilelaw33_awake.calls (k : Nat)  (r : Bool) (w : World) (h : pantilelaw33_awake.f k  = some r) :
    Calls Try.prog 66 #[] w fun e w' => e = .returned (.bool r) ∧ Below w.heap.size w w' := by
  have hu32 := Try.underlying32
  have HB := Aside0.mk (Below.refl w.heap.size w)
  have H : ((cover_Cells.f k (([1] : List Int)) (([6] : List Int)) 9).bind fun bt223 => (if bt223.2 = 0 then (if (bt223.1.length : Int) = 4 then (if 0 < (bt223.1.length : Int) then (if ((rd_T89 bt223.1 0).f1) = (-1) then (if 1 < (bt223.1.length : Int) then (if ((rd_T89 bt223.1 1).f1) = 0 then (if 2 < (bt223.1.length : Int) then (if 0 < (((rd_T89 bt223.1 2).f0).length : Int) then (if (rd ((rd_T89 bt223.1 2).f0) 0) = 4 then (if 3 < (bt223.1.length : Int) then (if 0 < (((rd_T89 bt223.1 3).f0).length : Int) then (some ((rd ((rd_T89 bt223.1 3).f0) 0) == 6)) else (none)) else (none)) else (some false)) else (none)) else (none)) else (some false)) else (none)) else (some false)) else (none)) else (some false)) else (some false))) = some r := h
  clear h
  obtain ⟨y217, hy217⟩ : ∃ y_ : List Int, y_ = (([1] : List Int)) := ⟨_, rfl⟩
  replace H : ((cover_Cells.f k y217 (([6] : List Int)) 9).bind fun bt223 => (if bt223.2 = 0 then (if (bt223.1.length : Int) = 4 then (if 0 < (bt223.1.length : Int) then (if ((rd_T89 bt223.1 0).f1) = (-1) then (if 1 < (bt223.1.length : Int) then (if ((rd_T89 bt223.1 1).f1) = 0 then (if 2 < (bt223.1.length : Int) then (if 0 < (((rd_T89 bt223.1 2).f0).length : Int) then (if (rd ((rd_T89 bt223.1 2).f0) 0) = 4 then (if 3 < (bt223.1.length : Int) then (if 0 < (((rd_T89 bt223.1 3).f0).length : Int) then (some ((rd ((rd_T89 bt223.1 3).f0) 0) == 6)) else (none)) else (none)) else (some false)) else (none)) else (none)) else (some false)) else (none)) else (some false)) else (none)) else (some false)) else (some false))) = some r := by first | (rw [hy217]; with_reducible exact H) | (have H2_ := (Option.bind_some _ _).symm.trans H; rw [hy217]; with_reducible exact H2_) | (have H2_ := (Option.bind_some _ _).symm.trans H; with_reducible exact H2_) | with_reducible exact H | (rw [hy217]; exact H) | exact H
  have Ny217 := Aside0.mk hy217
  clear hy217
  obtain ⟨y220, hy220⟩ : ∃ y_ : List Int, y_ = (([6] : List Int)) := ⟨_, rfl⟩
  replace H : ((cover_Cells.f k y217 y220 9).bind fun bt223 => (if bt223.2 = 0 then (if (bt223.1.length : Int) = 4 then (if 0 < (bt223.1.length : Int) then (if ((rd_T89 bt223.1 0).f1) = (-1) then (if 1 < (bt223.1.length : Int) then (if ((rd_T89 bt223.1 1).f1) = 0 then (if 2 < (bt223.1.length : Int) then (if 0 < (((rd_T89 bt223.1 2).f0).length : Int) then (if (rd ((rd_T89 bt223.1 2).f0) 0) = 4 then (if 3 < (bt223.1.length : Int) then (if 0 < (((rd_T89 bt223.1 3).f0).length : Int) then (some ((rd ((rd_T89 bt223.1 3).f0) 0) == 6)) else (none)) else (none)) else (some false)) else (none)) else (none)) else (some false)) else (none)) else (some false)) else (none)) else (some false)) else (some false))) = some r := by first | (rw [hy220]; with_reducible exact H) | (have H2_ := (Option.bind_some _ _).symm.trans H; rw [hy220]; with_reducible exact H2_) | (have H2_ := (Option.bind_some _ _).symm.trans H; with_reducible exact H2_) | with_reducible exact H | (rw [hy220]; exact H) | exact H
  have Ny220 := Aside0.mk hy220
  clear hy220
  replace H := Option.bind_eq_some_iff.mp H
  obtain ⟨⟨t223, t226⟩, A10, H⟩ := H
  replace H : (if t226 = 0 then (if (t223.length : Int) = 4 then (if 0 < (t223.length : Int) then (if ((rd_T89 t223 0).f1) = (-1) then (if 1 < (t223.length : Int) then (if ((rd_T89 t223 1).f1) = 0 then (if 2 < (t223.length : Int) then (if 0 < (((rd_T89 t223 2).f0).length : Int) then (if (rd ((rd_T89 t223 2).f0) 0) = 4 then (if 3 < (t223.length : Int) then (if 0 < (((rd_T89 t223 3).f0).length : Int) then (some ((rd ((rd_T89 t223 3).f0) 0) == 6)) else (none)) else (none)) else (some false)) else (none)) else (none)) else (some false)) else (none)) else (some false)) else (none)) else (some false)) else (some false)) = some r := H
  have A1 := Aside0.mk A10
  clear A10
  by_cases c2 : t226 = 0
  · rw [if_pos c2] at H
    have c2b0 : (t226 == 0) = true := beq_iff_eq.mpr c2
    have c2b1 : (t226 != 0) = false := bne_eq_false_iff_eq.mpr c2
    clear c2
    by_cases c3 : (t223.length : Int) = 4
    · rw [if_pos c3] at H
      have c3b0 : ((t223.length : Int) == 4) = true := beq_iff_eq.mpr c3
      have c3b1 : ((t223.length : Int) != 4) = false := bne_eq_false_iff_eq.mpr c3
      clear c3
      by_cases c4 : 0 < (t223.length : Int)
      · rw [if_pos c4] at H
        have c4b0 : decide (0 < (t223.length : Int)) = true := decide_eq_true c4
        have c4b1 : decide (0 < t223.length) = true := decide_eq_true (by omega)
        clear c4
        by_cases c5 : ((rd_T89 t223 0).f1) = (-1)
        · rw [if_pos c5] at H
          have c5b0 : (((rd_T89 t223 0).f1) == (-1)) = true := beq_iff_eq.mpr c5
          have c5b1 : (((rd_T89 t223 0).f1) != (-1)) = false := bne_eq_false_iff_eq.mpr c5
          clear c5
          by_cases c6 : 1 < (t223.length : Int)
          · rw [if_pos c6] at H
            have c6b0 : decide (1 < (t223.length : Int)) = true := decide_eq_true c6
            have c6b1 : decide (1 < t223.length) = true := decide_eq_true (by omega)
            clear c6
            by_cases c7 : ((rd_T89 t223 1).f1) = 0
            · rw [if_pos c7] at H
              have c7b0 : (((rd_T89 t223 1).f1) == 0) = true := beq_iff_eq.mpr c7
              have c7b1 : (((rd_T89 t223 1).f1) != 0) = false := bne_eq_false_iff_eq.mpr c7
              clear c7
              by_cases c8 : 2 < (t223.length : Int)
              · rw [if_pos c8] at H
                have c8b0 : decide (2 < (t223.length : Int)) = true := decide_eq_true c8
                have c8b1 : decide (2 < t223.length) = true := decide_eq_true (by omega)
                clear c8
                by_cases c9 : 0 < (((rd_T89 t223 2).f0).length : Int)
                · rw [if_pos c9] at H
                  have c9b0 : decide (0 < (((rd_T89 t223 2).f0).length : Int)) = true := decide_eq_true c9
                  have c9b1 : decide (0 < ((rd_T89 t223 2).f0).length) = true := decide_eq_true (by omega)
                  clear c9
                  by_cases c10 : (rd ((rd_T89 t223 2).f0) 0) = 4
                  · rw [if_pos c10] at H
                    have c10b0 : ((rd ((rd_T89 t223 2).f0) 0) == 4) = true := beq_iff_eq.mpr c10
                    have c10b1 : ((rd ((rd_T89 t223 2).f0) 0) != 4) = false := bne_eq_false_iff_eq.mpr c10
                    clear c10
                    by_cases c11 : 3 < (t223.length : Int)
                    · rw [if_pos c11] at H
                      have c11b0 : decide (3 < (t223.length : Int)) = true := decide_eq_true c11
                      have c11b1 : decide (3 < t223.length) = true := decide_eq_true (by omega)
                      clear c11
                      by_cases c12 : 0 < (((rd_T89 t223 3).f0).length : Int)
                      · rw [if_pos c12] at H
                        have c12b0 : decide (0 < (((rd_T89 t223 3).f0).length : Int)) = true := decide_eq_true c12
                        have c12b1 : decide (0 < ((rd_T89 t223 3).f0).length) = true := decide_eq_true (by omega)
                        clear c12
                        obtain rfl := Option.some.inj H
                        go_enter Try.func66, Try.ntmps66
                        go_wp2_with (first | ((with_reducible refine gate_dst (N := 4) rfl ?_); (try (refine gate_guard (by rfl) ?_; dsimp only)); refine Kd.R_lit (Kd.int .u64) _ 30 ?hg (N := 4) ?hd (xs := ([1] : List Int)) (inner := [.int .u64 1]) (ok := fun _ => True) (okp := fun _ => True) ?hr ?hp (fun _ hk => hk) trivial (Below.refl _ _) (Nat.le_refl _) (by simp) ?_; (case hd => rfl); (case hg => rfl); (case hr => first | (go_simp; done) | (go_simp; rfl)); (case hp => exact (Reps.one (show Kd.M (Kd.int .u64) _ _ _ 1 [.int .u64 1] from rfl) (Reps.none _ _))); intro v218 w13 ho14 hb hg_ hnew_; clear hg_ hnew_; (first | rw [← Ny217.out] at ho14 | (simp only [Int.reduceToNat] at ho14; rw [← Ny217.out] at ho14)); have n0_ := Aside0.mk (Kd.R_lower ho14 (below_size (by repeat (first | (with_reducible first | exact HB.out | apply below_alloc | apply pw_below_drewN | apply below_drew1) | exact HB.out)))); have n1_ := Aside0.mk (below_step (by repeat (first | (with_reducible first | exact HB.out | apply below_alloc | apply pw_below_drewN | apply below_drew1) | exact HB.out)) hb); clear HB; have HO219 := n0_; have HB := n1_; clear n0_ n1_; clear hb ho14) | ((with_reducible refine gate_dst (N := 5) rfl ?_); (try (refine gate_guard (by rfl) ?_; dsimp only)); refine Kd.R_lit (Kd.int .u64) _ 30 ?hg (N := 5) ?hd (xs := ([6] : List Int)) (inner := [.int .u64 6]) (ok := fun _ => True) (okp := fun _ => True) ?hr ?hp (fun _ hk => hk) trivial (Below.refl _ _) (Nat.le_refl _) (by simp) ?_; (case hd => rfl); (case hg => rfl); (case hr => first | (go_simp; done) | (go_simp; rfl)); (case hp => exact (Reps.one (show Kd.M (Kd.int .u64) _ _ _ 6 [.int .u64 6] from rfl) (Reps.none _ _))); intro v221 w15 ho16 hb hg_ hnew_; clear hg_ hnew_; (first | rw [← Ny220.out] at ho16 | (simp only [Int.reduceToNat] at ho16; rw [← Ny220.out] at ho16)); have n0_ := Aside0.mk (Kd.R_elder' (by (with_reducible repeat (first | apply Kd.R_alloc | apply Kd.R_drewN | apply Kd.R_drew)); exact HO219.out) (Kd.R_base ho16) hb); have n1_ := Aside0.mk (Kd.R_lower (Kd.R_new' ho16 (Kd.R_lt (by (with_reducible repeat (first | apply Kd.R_alloc | apply Kd.R_drewN | apply Kd.R_drew)); exact HO219.out))) (below_size (by repeat (first | (with_reducible first | exact HB.out | apply below_alloc | apply pw_below_drewN | apply below_drew1) | exact HB.out)))); have n2_ := Aside0.mk (below_step (by repeat (first | (with_reducible first | exact HB.out | apply below_alloc | apply pw_below_drewN | apply below_drew1) | exact HB.out)) hb); clear HO219; clear HB; have HO219 := n0_; have HO222 := n1_; have HB := n2_; clear n0_ n1_ n2_; clear hb ho16; obtain ⟨Ao17, co17, eo17⟩ := Kd.R_slice HO222.out; subst eo17; obtain ⟨Ao18, co18, eo18⟩ := Kd.R_slice HO219.out; subst eo18) | ((with_reducible refine gate_callee (f := 67) rfl ?_); refine goesL_ (some 7) rfl rfl Try.func67 (by kernel_rfl) rfl #[.agg #[.slice Ao18 y217.length co18, .slice Ao17 y220.length co17], .int .i64 9] rfl (by (try simp only [List.map_toArray, List.map_cons, List.map_nil]); first | done | rfl | (simp only [List.length_drop, List.length_take]; rfl)) ?_; (with_reducible refine (cover_Cells.calls k _ _ y217 _ _ y220 9 t223 t226 _ ?side1 ?side2 ?side3 ?side4 A1.out).mono ?_); (case side1 => repeat (first | exact (Kd.R_reads' HO219.out).2.2 | (with_reducible refine Kd.C_alloc ?_ _) | (with_reducible refine Kd.C_drewN ?_ _) | (with_reducible refine Kd.C_drew ?_))); (case side2 => exact (Kd.R_reads' HO219.out).2.1); (case side3 => repeat (first | exact (Kd.R_reads' HO222.out).2.2 | (with_reducible refine Kd.C_alloc ?_ _) | (with_reducible refine Kd.C_drewN ?_ _) | (with_reducible refine Kd.C_drew ?_))); (case side4 => exact (Kd.R_reads' HO222.out).2.1); rintro e w19 ⟨v224, rfl, ho0, hb⟩; refine ⟨_, rfl, ?_⟩; have n0_ := Aside0.mk (Kd.R_below (by (with_reducible repeat (first | apply Kd.R_alloc | apply Kd.R_drewN | apply Kd.R_drew)); exact HO219.out) hb); have n1_ := Aside0.mk (Kd.R_below (by (with_reducible repeat (first | apply Kd.R_alloc | apply Kd.R_drewN | apply Kd.R_drew)); exact HO222.out) hb); have n2_ := Aside0.mk (Kd.N_lower (Kd.N_mono (ok' := fun k_ => some k_ ≠ (.slice Ao18 y217.length co18 : Value).ownBlock ∧ some k_ ≠ (.slice Ao17 y220.length co17 : Value).ownBlock) ho0 (fun k_ hk_ => ⟨(Kd.fresh' (Kd.R_lt (by (with_reducible repeat (first | apply Kd.R_alloc | apply Kd.R_drewN | apply Kd.R_drew)); exact HO219.out)) k_ hk_), (Kd.fresh' (Kd.R_lt (by (with_reducible repeat (first | apply Kd.R_alloc | apply Kd.R_drewN | apply Kd.R_drew)); exact HO222.out)) k_ hk_)⟩)) (below_size (by repeat (first | (with_reducible first | exact HB.out | apply below_alloc | apply pw_below_drewN | apply below_drew1) | exact HB.out)))); have n3_ := Aside0.mk (below_step (by repeat (first | (with_reducible first | exact HB.out | apply below_alloc | apply pw_below_drewN | apply below_drew1) | exact HB.out)) hb); clear HO219; clear HO222; clear HB; have HO219 := n0_; have HO222 := n1_; have HO225 := n2_; have HB := n3_; clear n0_ n1_ n2_ n3_; (try clear hb); (try clear hb2); (try clear hk); (try clear hi); (try clear ho0); obtain ⟨Ao20, co20, eo20⟩ := Kd.N_slice HO225.out; subst eo20; have p227 : 0 ≤ (0 : Int) := (by omega); have q227 : 0 < (t223.length : Int) := of_decide_eq_true (by first | (with_reducible assumption) | assumption); obtain ⟨ad227, A227_0, c227_0, e227, hx227_0, hx227_1, hl227_0, hi227_0⟩ := at_T89 (Kd.N_reads' HO225.out).2.2 0 p227 q227; cases e227; obtain ⟨ce227, hce227, hMe227, hcc227⟩ := Kd.N_get HO225.out z89 0 p227 (by first | exact q227 | exact of_decide_eq_true (by first | (with_reducible assumption) | assumption) | (have e_ := (Kd.N_reads' HO225.out).1; omega)); obtain ⟨ua227_0, uc227_0, rfl, ul227_0, ge227_0⟩ := k89_openF hMe227; have hv227_0 := hcc227 0 _ rfl; rw [Nat.add_zero] at hv227_0; replace hv227_0 := Option.some.inj (hv227_0.symm.trans hx227_0); injection hv227_0 with hva_ hvn_ hvc_; rw [hva_] at ge227_0; rw [hvc_] at ul227_0; have HL227_0 := Aside0.mk (show Kd.V (Kd.int .u64) 30 _ w.heap.size _ _ ((rd_T89 t223 0).f0) from Kd.V_mk ul227_0 ge227_0); clear hva_ hvn_ hvc_ ge227_0 ul227_0; clear hcc227 hce227; have qi227 : (0 < t223.length) = True := eq_true (by omega); (try rw [show ((0 : Int)).toNat = 0 from rfl] at hx227_0); (try rw [show 0 * 2 = 0 from rfl] at hx227_0); (try rw [Addr.add_zero'] at hx227_0); (try rw [show ((0 : Int)).toNat = 0 from rfl] at hx227_1); (try rw [show 0 * 2 = 0 from rfl] at hx227_1); (try rw [Addr.add_zero'] at hx227_1); have HR227_0 := Aside0.mk hi227_0; have HC227_0 := Aside0.mk hl227_0; clear hi227_0 hl227_0; replace p227 := eq_true p227; replace q227 := eq_true q227; have p228 : 0 ≤ (1 : Int) := (by omega); have q228 : 1 < (t223.length : Int) := of_decide_eq_true (by first | (with_reducible assumption) | assumption); obtain ⟨ad228, A228_0, c228_0, e228, hx228_0, hx228_1, hl228_0, hi228_0⟩ := at_T89 (Kd.N_reads' HO225.out).2.2 1 p228 q228; obtain rfl : ad227 = ad228 := (by injection e228); obtain ⟨ce228, hce228, hMe228, hcc228⟩ := Kd.N_get HO225.out z89 1 p228 (by first | exact q228 | exact of_decide_eq_true (by first | (with_reducible assumption) | assumption) | (have e_ := (Kd.N_reads' HO225.out).1; omega)); obtain ⟨ua228_0, uc228_0, rfl, ul228_0, ge228_0⟩ := k89_openF hMe228; have hv228_0 := hcc228 0 _ rfl; rw [Nat.add_zero] at hv228_0; replace hv228_0 := Option.some.inj (hv228_0.symm.trans hx228_0); injection hv228_0 with hva_ hvn_ hvc_; rw [hva_] at ge228_0; rw [hvc_] at ul228_0; have HL228_0 := Aside0.mk (show Kd.V (Kd.int .u64) 30 _ w.heap.size _ _ ((rd_T89 t223 1).f0) from Kd.V_mk ul228_0 ge228_0); clear hva_ hvn_ hvc_ ge228_0 ul228_0; clear hcc228 hce228; (try simp only [show (1 : Int).toNat = 1 from rfl, Nat.reduceMul, Nat.reduceEqDiff, Go.Addr.add, ↓reduceIte] at hx228_0); (try simp only [show (1 : Int).toNat = 1 from rfl, Nat.reduceMul, Nat.reduceEqDiff, Go.Addr.add, ↓reduceIte] at hx228_1); have qi228 : (1 < t223.length) = True := eq_true (by omega); (try rw [show ((1 : Int)).toNat = 1 from rfl] at hx228_0); (try rw [show 1 * 2 = 2 from rfl] at hx228_0); (try rw [show ((1 : Int)).toNat = 1 from rfl] at hx228_1); (try rw [show 1 * 2 = 2 from rfl] at hx228_1); have HR228_0 := Aside0.mk hi228_0; have HC228_0 := Aside0.mk hl228_0; clear hi228_0 hl228_0; replace p228 := eq_true p228; replace q228 := eq_true q228; have p229 : 0 ≤ (2 : Int) := (by omega); have q229 : 2 < (t223.length : Int) := of_decide_eq_true (by first | (with_reducible assumption) | assumption); obtain ⟨ad229, A229_0, c229_0, e229, hx229_0, hx229_1, hl229_0, hi229_0⟩ := at_T89 (Kd.N_reads' HO225.out).2.2 2 p229 q229; obtain rfl : ad227 = ad229 := (by injection e229); obtain ⟨ce229, hce229, hMe229, hcc229⟩ := Kd.N_get HO225.out z89 2 p229 (by first | exact q229 | exact of_decide_eq_true (by first | (with_reducible assumption) | assumption) | (have e_ := (Kd.N_reads' HO225.out).1; omega)); obtain ⟨ua229_0, uc229_0, rfl, ul229_0, ge229_0⟩ := k89_openF hMe229; have hv229_0 := hcc229 0 _ rfl; rw [Nat.add_zero] at hv229_0; replace hv229_0 := Option.some.inj (hv229_0.symm.trans hx229_0); injection hv229_0 with hva_ hvn_ hvc_; rw [hva_] at ge229_0; rw [hvc_] at ul229_0; have HL229_0 := Aside0.mk (show Kd.V (Kd.int .u64) 30 _ w.heap.size _ _ ((rd_T89 t223 2).f0) from Kd.V_mk ul229_0 ge229_0); clear hva_ hvn_ hvc_ ge229_0 ul229_0; clear hcc229 hce229; (try simp only [show (2 : Int).toNat = 2 from rfl, Nat.reduceMul, Nat.reduceEqDiff, Go.Addr.add, ↓reduceIte] at hx229_0); (try simp only [show (2 : Int).toNat = 2 from rfl, Nat.reduceMul, Nat.reduceEqDiff, Go.Addr.add, ↓reduceIte] at hx229_1); have qi229 : (2 < t223.length) = True := eq_true (by omega); (try rw [show ((2 : Int)).toNat = 2 from rfl] at hx229_0); (try rw [show 2 * 2 = 4 from rfl] at hx229_0); (try rw [show ((2 : Int)).toNat = 2 from rfl] at hx229_1); (try rw [show 2 * 2 = 4 from rfl] at hx229_1); have HR229_0 := Aside0.mk hi229_0; have HC229_0 := Aside0.mk hl229_0; clear hi229_0 hl229_0; replace p229 := eq_true p229; replace q229 := eq_true q229; have p230 : 0 ≤ (0 : Int) := (by omega); have q230 : 0 < (((rd_T89 t223 2).f0).length : Int) := of_decide_eq_true (by first | (with_reducible assumption) | assumption); obtain ⟨ad230, e230, hx230_0⟩ := Kd.at_int (by repeat (first | (with_reducible exact HR229_0.out) | (with_reducible refine Kd.C_alloc ?_ _) | (with_reducible refine Kd.C_drewN ?_ _) | (with_reducible refine Kd.C_drew ?_) | exact HR229_0.out)) 0 p230 q230; cases e230; have qi230 : (0 < ((rd_T89 t223 2).f0).length) = True := eq_true (by omega); (try rw [show ((0 : Int)).toNat = 0 from rfl] at hx230_0); (try rw [Addr.add_zero'] at hx230_0); replace p230 := eq_true p230; replace q230 := eq_true q230; have p231 : 0 ≤ (3 : Int) := (by omega); have q231 : 3 < (t223.length : Int) := of_decide_eq_true (by first | (with_reducible assumption) | assumption); obtain ⟨ad231, A231_0, c231_0, e231, hx231_0, hx231_1, hl231_0, hi231_0⟩ := at_T89 (Kd.N_reads' HO225.out).2.2 3 p231 q231; obtain rfl : ad227 = ad231 := (by injection e231); obtain ⟨ce231, hce231, hMe231, hcc231⟩ := Kd.N_get HO225.out z89 3 p231 (by first | exact q231 | exact of_decide_eq_true (by first | (with_reducible assumption) | assumption) | (have e_ := (Kd.N_reads' HO225.out).1; omega)); obtain ⟨ua231_0, uc231_0, rfl, ul231_0, ge231_0⟩ := k89_openF hMe231; have hv231_0 := hcc231 0 _ rfl; rw [Nat.add_zero] at hv231_0; replace hv231_0 := Option.some.inj (hv231_0.symm.trans hx231_0); injection hv231_0 with hva_ hvn_ hvc_; rw [hva_] at ge231_0; rw [hvc_] at ul231_0; have HL231_0 := Aside0.mk (show Kd.V (Kd.int .u64) 30 _ w.heap.size _ _ ((rd_T89 t223 3).f0) from Kd.V_mk ul231_0 ge231_0); clear hva_ hvn_ hvc_ ge231_0 ul231_0; clear hcc231 hce231; (try simp only [show (3 : Int).toNat = 3 from rfl, Nat.reduceMul, Nat.reduceEqDiff, Go.Addr.add, ↓reduceIte] at hx231_0); (try simp only [show (3 : Int).toNat = 3 from rfl, Nat.reduceMul, Nat.reduceEqDiff, Go.Addr.add, ↓reduceIte] at hx231_1); have qi231 : (3 < t223.length) = True := eq_true (by omega); (try rw [show ((3 : Int)).toNat = 3 from rfl] at hx231_0); (try rw [show 3 * 2 = 6 from rfl] at hx231_0); (try rw [show ((3 : Int)).toNat = 3 from rfl] at hx231_1); (try rw [show 3 * 2 = 6 from rfl] at hx231_1); have HR231_0 := Aside0.mk hi231_0; have HC231_0 := Aside0.mk hl231_0; clear hi231_0 hl231_0; replace p231 := eq_true p231; replace q231 := eq_true q231; have p232 : 0 ≤ (0 : Int) := (by omega); have q232 : 0 < (((rd_T89 t223 3).f0).length : Int) := of_decide_eq_true (by first | (with_reducible assumption) | assumption); obtain ⟨ad232, e232, hx232_0⟩ := Kd.at_int (by repeat (first | (with_reducible exact HR231_0.out) | (with_reducible refine Kd.C_alloc ?_ _) | (with_reducible refine Kd.C_drewN ?_ _) | (with_reducible refine Kd.C_drew ?_) | exact HR231_0.out)) 0 p232 q232; cases e232; have qi232 : (0 < ((rd_T89 t223 3).f0).length) = True := eq_true (by omega); (try rw [show ((0 : Int)).toNat = 0 from rfl] at hx232_0); (try rw [Addr.add_zero'] at hx232_0); replace p232 := eq_true p232; replace q232 := eq_true q232))
                        go_ret
                        exact ⟨by first | rfl | (simp [errW_none, errW_some] <;> rfl) | (simp [*, errW_none, errW_some] <;> rfl), by repeat (first | (with_reducible first | exact HB.out | apply below_alloc | apply pw_below_drewN | apply below_drew1) | exact HB.out)⟩
                      · rw [if_neg c12] at H
                        exact absurd H (by simp)
                    · rw [if_neg c11] at H
                      exact absurd H (by simp)
                  · rw [if_neg c10] at H
                    have c10b0 : ((rd ((rd_T89 t223 2).f0) 0) == 4) = false := beq_eq_false_iff_ne.mpr c10
                    have c10b1 : ((rd ((rd_T89 t223 2).f0) 0) != 4) = true := bne_iff_ne.mpr c10
                    obtain rfl := Option.some.inj H
                    go_enter Try.func66, Try.ntmps66
                    go_wp2_with (first | ((with_reducible refine gate_dst (N := 4) rfl ?_); (try (refine gate_guard (by rfl) ?_; dsimp only)); refine Kd.R_lit (Kd.int .u64) _ 30 ?hg (N := 4) ?hd (xs := ([1] : List Int)) (inner := [.int .u64 1]) (ok := fun _ => True) (okp := fun _ => True) ?hr ?hp (fun _ hk => hk) trivial (Below.refl _ _) (Nat.le_refl _) (by simp) ?_; (case hd => rfl); (case hg => rfl); (case hr => first | (go_simp; done) | (go_simp; rfl)); (case hp => exact (Reps.one (show Kd.M (Kd.int .u64) _ _ _ 1 [.int .u64 1] from rfl) (Reps.none _ _))); intro v218 w21 ho22 hb hg_ hnew_; clear hg_ hnew_; (first | rw [← Ny217.out] at ho22 | (simp only [Int.reduceToNat] at ho22; rw [← Ny217.out] at ho22)); have n0_ := Aside0.mk (Kd.R_lower ho22 (below_size (by repeat (first | (with_reducible first | exact HB.out | apply below_alloc | apply pw_below_drewN | apply below_drew1) | exact HB.out)))); have n1_ := Aside0.mk (below_step (by repeat (first | (with_reducible first | exact HB.out | apply below_alloc | apply pw_below_drewN | apply below_drew1) | exact HB.out)) hb); clear HB; have HO219 := n0_; have HB := n1_; clear n0_ n1_; clear hb ho22) | ((with_reducible refine gate_dst (N := 5) rfl ?_); (try (refine gate_guard (by rfl) ?_; dsimp only)); refine Kd.R_lit (Kd.int .u64) _ 30 ?hg (N := 5) ?hd (xs := ([6] : List Int)) (inner := [.int .u64 6]) (ok := fun _ => True) (okp := fun _ => True) ?hr ?hp (fun _ hk => hk) trivial (Below.refl _ _) (Nat.le_refl _) (by simp) ?_; (case hd => rfl); (case hg => rfl); (case hr => first | (go_simp; done) | (go_simp; rfl)); (case hp => exact (Reps.one (show Kd.M (Kd.int .u64) _ _ _ 6 [.int .u64 6] from rfl) (Reps.none _ _))); intro v221 w23 ho24 hb hg_ hnew_; clear hg_ hnew_; (first | rw [← Ny220.out] at ho24 | (simp only [Int.reduceToNat] at ho24; rw [← Ny220.out] at ho24)); have n0_ := Aside0.mk (Kd.R_elder' (by (with_reducible repeat (first | apply Kd.R_alloc | apply Kd.R_drewN | apply Kd.R_drew)); exact HO219.out) (Kd.R_base ho24) hb); have n1_ := Aside0.mk (Kd.R_lower (Kd.R_new' ho24 (Kd.R_lt (by (with_reducible repeat (first | apply Kd.R_alloc | apply Kd.R_drewN | apply Kd.R_drew)); exact HO219.out))) (below_size (by repeat (first | (with_reducible first | exact HB.out | apply below_alloc | apply pw_below_drewN | apply below_drew1) | exact HB.out)))); have n2_ := Aside0.mk (below_step (by repeat (first | (with_reducible first | exact HB.out | apply below_alloc | apply pw_below_drewN | apply below_drew1) | exact HB.out)) hb); clear HO219; clear HB; have HO219 := n0_; have HO222 := n1_; have HB := n2_; clear n0_ n1_ n2_; clear hb ho24; obtain ⟨Ao25, co25, eo25⟩ := Kd.R_slice HO222.out; subst eo25; obtain ⟨Ao26, co26, eo26⟩ := Kd.R_slice HO219.out; subst eo26) | ((with_reducible refine gate_callee (f := 67) rfl ?_); refine goesL_ (some 7) rfl rfl Try.func67 (by kernel_rfl) rfl #[.agg #[.slice Ao26 y217.length co26, .slice Ao25 y220.length co25], .int .i64 9] rfl (by (try simp only [List.map_toArray, List.map_cons, List.map_nil]); first | done | rfl | (simp only [List.length_drop, List.length_take]; rfl)) ?_; (with_reducible refine (cover_Cells.calls k _ _ y217 _ _ y220 9 t223 t226 _ ?side1 ?side2 ?side3 ?side4 A1.out).mono ?_); (case side1 => repeat (first | exact (Kd.R_reads' HO219.out).2.2 | (with_reducible refine Kd.C_alloc ?_ _) | (with_reducible refine Kd.C_drewN ?_ _) | (with_reducible refine Kd.C_drew ?_))); (case side2 => exact (Kd.R_reads' HO219.out).2.1); (case side3 => repeat (first | exact (Kd.R_reads' HO222.out).2.2 | (with_reducible refine Kd.C_alloc ?_ _) | (with_reducible refine Kd.C_drewN ?_ _) | (with_reducible refine Kd.C_drew ?_))); (case side4 => exact (Kd.R_reads' HO222.out).2.1); rintro e w27 ⟨v224, rfl, ho0, hb⟩; refine ⟨_, rfl, ?_⟩; have n0_ := Aside0.mk (Kd.R_below (by (with_reducible repeat (first | apply Kd.R_alloc | apply Kd.R_drewN | apply Kd.R_drew)); exact HO219.out) hb); have n1_ := Aside0.mk (Kd.R_below (by (with_reducible repeat (first | apply Kd.R_alloc | apply Kd.R_drewN | apply Kd.R_drew)); exact HO222.out) hb); have n2_ := Aside0.mk (Kd.N_lower (Kd.N_mono (ok' := fun k_ => some k_ ≠ (.slice Ao26 y217.length co26 : Value).ownBlock ∧ some k_ ≠ (.slice Ao25 y220.length co25 : Value).ownBlock) ho0 (fun k_ hk_ => ⟨(Kd.fresh' (Kd.R_lt (by (with_reducible repeat (first | apply Kd.R_alloc | apply Kd.R_drewN | apply Kd.R_drew)); exact HO219.out)) k_ hk_), (Kd.fresh' (Kd.R_lt (by (with_reducible repeat (first | apply Kd.R_alloc | apply Kd.R_drewN | apply Kd.R_drew)); exact HO222.out)) k_ hk_)⟩)) (below_size (by repeat (first | (with_reducible first | exact HB.out | apply below_alloc | apply pw_below_drewN | apply below_drew1) | exact HB.out)))); have n3_ := Aside0.mk (below_step (by repeat (first | (with_reducible first | exact HB.out | apply below_alloc | apply pw_below_drewN | apply below_drew1) | exact HB.out)) hb); clear HO219; clear HO222; clear HB; have HO219 := n0_; have HO222 := n1_; have HO225 := n2_; have HB := n3_; clear n0_ n1_ n2_ n3_; (try clear hb); (try clear hb2); (try clear hk); (try clear hi); (try clear ho0); obtain ⟨Ao28, co28, eo28⟩ := Kd.N_slice HO225.out; subst eo28; have p227 : 0 ≤ (0 : Int) := (by omega); have q227 : 0 < (t223.length : Int) := of_decide_eq_true (by first | (with_reducible assumption) | assumption); obtain ⟨ad227, A227_0, c227_0, e227, hx227_0, hx227_1, hl227_0, hi227_0⟩ := at_T89 (Kd.N_reads' HO225.out).2.2 0 p227 q227; cases e227; obtain ⟨ce227, hce227, hMe227, hcc227⟩ := Kd.N_get HO225.out z89 0 p227 (by first | exact q227 | exact of_decide_eq_true (by first | (with_reducible assumption) | assumption) | (have e_ := (Kd.N_reads' HO225.out).1; omega)); obtain ⟨ua227_0, uc227_0, rfl, ul227_0, ge227_0⟩ := k89_openF hMe227; have hv227_0 := hcc227 0 _ rfl; rw [Nat.add_zero] at hv227_0; replace hv227_0 := Option.some.inj (hv227_0.symm.trans hx227_0); injection hv227_0 with hva_ hvn_ hvc_; rw [hva_] at ge227_0; rw [hvc_] at ul227_0; have HL227_0 := Aside0.mk (show Kd.V (Kd.int .u64) 30 _ w.heap.size _ _ ((rd_T89 t223 0).f0) from Kd.V_mk ul227_0 ge227_0); clear hva_ hvn_ hvc_ ge227_0 ul227_0; clear hcc227 hce227; have qi227 : (0 < t223.length) = True := eq_true (by omega); (try rw [show ((0 : Int)).toNat = 0 from rfl] at hx227_0); (try rw [show 0 * 2 = 0 from rfl] at hx227_0); (try rw [Addr.add_zero'] at hx227_0); (try rw [show ((0 : Int)).toNat = 0 from rfl] at hx227_1); (try rw [show 0 * 2 = 0 from rfl] at hx227_1); (try rw [Addr.add_zero'] at hx227_1); have HR227_0 := Aside0.mk hi227_0; have HC227_0 := Aside0.mk hl227_0; clear hi227_0 hl227_0; replace p227 := eq_true p227; replace q227 := eq_true q227; have p228 : 0 ≤ (1 : Int) := (by omega); have q228 : 1 < (t223.length : Int) := of_decide_eq_true (by first | (with_reducible assumption) | assumption); obtain ⟨ad228, A228_0, c228_0, e228, hx228_0, hx228_1, hl228_0, hi228_0⟩ := at_T89 (Kd.N_reads' HO225.out).2.2 1 p228 q228; obtain rfl : ad227 = ad228 := (by injection e228); obtain ⟨ce228, hce228, hMe228, hcc228⟩ := Kd.N_get HO225.out z89 1 p228 (by first | exact q228 | exact of_decide_eq_true (by first | (with_reducible assumption) | assumption) | (have e_ := (Kd.N_reads' HO225.out).1; omega)); obtain ⟨ua228_0, uc228_0, rfl, ul228_0, ge228_0⟩ := k89_openF hMe228; have hv228_0 := hcc228 0 _ rfl; rw [Nat.add_zero] at hv228_0; replace hv228_0 := Option.some.inj (hv228_0.symm.trans hx228_0); injection hv228_0 with hva_ hvn_ hvc_; rw [hva_] at ge228_0; rw [hvc_] at ul228_0; have HL228_0 := Aside0.mk (show Kd.V (Kd.int .u64) 30 _ w.heap.size _ _ ((rd_T89 t223 1).f0) from Kd.V_mk ul228_0 ge228_0); clear hva_ hvn_ hvc_ ge228_0 ul228_0; clear hcc228 hce228; (try simp only [show (1 : Int).toNat = 1 from rfl, Nat.reduceMul, Nat.reduceEqDiff, Go.Addr.add, ↓reduceIte] at hx228_0); (try simp only [show (1 : Int).toNat = 1 from rfl, Nat.reduceMul, Nat.reduceEqDiff, Go.Addr.add, ↓reduceIte] at hx228_1); have qi228 : (1 < t223.length) = True := eq_true (by omega); (try rw [show ((1 : Int)).toNat = 1 from rfl] at hx228_0); (try rw [show 1 * 2 = 2 from rfl] at hx228_0); (try rw [show ((1 : Int)).toNat = 1 from rfl] at hx228_1); (try rw [show 1 * 2 = 2 from rfl] at hx228_1); have HR228_0 := Aside0.mk hi228_0; have HC228_0 := Aside0.mk hl228_0; clear hi228_0 hl228_0; replace p228 := eq_true p228; replace q228 := eq_true q228; have p229 : 0 ≤ (2 : Int) := (by omega); have q229 : 2 < (t223.length : Int) := of_decide_eq_true (by first | (with_reducible assumption) | assumption); obtain ⟨ad229, A229_0, c229_0, e229, hx229_0, hx229_1, hl229_0, hi229_0⟩ := at_T89 (Kd.N_reads' HO225.out).2.2 2 p229 q229; obtain rfl : ad227 = ad229 := (by injection e229); obtain ⟨ce229, hce229, hMe229, hcc229⟩ := Kd.N_get HO225.out z89 2 p229 (by first | exact q229 | exact of_decide_eq_true (by first | (with_reducible assumption) | assumption) | (have e_ := (Kd.N_reads' HO225.out).1; omega)); obtain ⟨ua229_0, uc229_0, rfl, ul229_0, ge229_0⟩ := k89_openF hMe229; have hv229_0 := hcc229 0 _ rfl; rw [Nat.add_zero] at hv229_0; replace hv229_0 := Option.some.inj (hv229_0.symm.trans hx229_0); injection hv229_0 with hva_ hvn_ hvc_; rw [hva_] at ge229_0; rw [hvc_] at ul229_0; have HL229_0 := Aside0.mk (show Kd.V (Kd.int .u64) 30 _ w.heap.size _ _ ((rd_T89 t223 2).f0) from Kd.V_mk ul229_0 ge229_0); clear hva_ hvn_ hvc_ ge229_0 ul229_0; clear hcc229 hce229; (try simp only [show (2 : Int).toNat = 2 from rfl, Nat.reduceMul, Nat.reduceEqDiff, Go.Addr.add, ↓reduceIte] at hx229_0); (try simp only [show (2 : Int).toNat = 2 from rfl, Nat.reduceMul, Nat.reduceEqDiff, Go.Addr.add, ↓reduceIte] at hx229_1); have qi229 : (2 < t223.length) = True := eq_true (by omega); (try rw [show ((2 : Int)).toNat = 2 from rfl] at hx229_0); (try rw [show 2 * 2 = 4 from rfl] at hx229_0); (try rw [show ((2 : Int)).toNat = 2 from rfl] at hx229_1); (try rw [show 2 * 2 = 4 from rfl] at hx229_1); have HR229_0 := Aside0.mk hi229_0; have HC229_0 := Aside0.mk hl229_0; clear hi229_0 hl229_0; replace p229 := eq_true p229; replace q229 := eq_true q229; have p230 : 0 ≤ (0 : Int) := (by omega); have q230 : 0 < (((rd_T89 t223 2).f0).length : Int) := of_decide_eq_true (by first | (with_reducible assumption) | assumption); obtain ⟨ad230, e230, hx230_0⟩ := Kd.at_int (by repeat (first | (with_reducible exact HR229_0.out) | (with_reducible refine Kd.C_alloc ?_ _) | (with_reducible refine Kd.C_drewN ?_ _) | (with_reducible refine Kd.C_drew ?_) | exact HR229_0.out)) 0 p230 q230; cases e230; have qi230 : (0 < ((rd_T89 t223 2).f0).length) = True := eq_true (by omega); (try rw [show ((0 : Int)).toNat = 0 from rfl] at hx230_0); (try rw [Addr.add_zero'] at hx230_0); replace p230 := eq_true p230; replace q230 := eq_true q230))
                    go_ret
                    exact ⟨by first | rfl | (simp [errW_none, errW_some] <;> rfl) | (simp [*, errW_none, errW_some] <;> rfl), by repeat (first | (with_reducible first | exact HB.out | apply below_alloc | apply pw_below_drewN | apply below_drew1) | exact HB.out)⟩
                · rw [if_neg c9] at H
                  exact absurd H (by simp)
              · rw [if_neg c8] at H
                exact absurd H (by simp)
            · rw [if_neg c7] at H
              have c7b0 : (((rd_T89 t223 1).f1) == 0) = false := beq_eq_false_iff_ne.mpr c7
              have c7b1 : (((rd_T89 t223 1).f1) != 0) = true := bne_iff_ne.mpr c7
              obtain rfl := Option.some.inj H
              go_enter Try.func66, Try.ntmps66
              go_wp2_with (first | ((with_reducible refine gate_dst (N := 4) rfl ?_); (try (refine gate_guard (by rfl) ?_; dsimp only)); refine Kd.R_lit (Kd.int .u64) _ 30 ?hg (N := 4) ?hd (xs := ([1] : List Int)) (inner := [.int .u64 1]) (ok := fun _ => True) (okp := fun _ => True) ?hr ?hp (fun _ hk => hk) trivial (Below.refl _ _) (Nat.le_refl _) (by simp) ?_; (case hd => rfl); (case hg => rfl); (case hr => first | (go_simp; done) | (go_simp; rfl)); (case hp => exact (Reps.one (show Kd.M (Kd.int .u64) _ _ _ 1 [.int .u64 1] from rfl) (Reps.none _ _))); intro v218 w29 ho30 hb hg_ hnew_; clear hg_ hnew_; (first | rw [← Ny217.out] at ho30 | (simp only [Int.reduceToNat] at ho30; rw [← Ny217.out] at ho30)); have n0_ := Aside0.mk (Kd.R_lower ho30 (below_size (by repeat (first | (with_reducible first | exact HB.out | apply below_alloc | apply pw_below_drewN | apply below_drew1) | exact HB.out)))); have n1_ := Aside0.mk (below_step (by repeat (first | (with_reducible first | exact HB.out | apply below_alloc | apply pw_below_drewN | apply below_drew1) | exact HB.out)) hb); clear HB; have HO219 := n0_; have HB := n1_; clear n0_ n1_; clear hb ho30) | ((with_reducible refine gate_dst (N := 5) rfl ?_); (try (refine gate_guard (by rfl) ?_; dsimp only)); refine Kd.R_lit (Kd.int .u64) _ 30 ?hg (N := 5) ?hd (xs := ([6] : List Int)) (inner := [.int .u64 6]) (ok := fun _ => True) (okp := fun _ => True) ?hr ?hp (fun _ hk => hk) trivial (Below.refl _ _) (Nat.le_refl _) (by simp) ?_; (case hd => rfl); (case hg => rfl); (case hr => first | (go_simp; done) | (go_simp; rfl)); (case hp => exact (Reps.one (show Kd.M (Kd.int .u64) _ _ _ 6 [.int .u64 6] from rfl) (Reps.none _ _))); intro v221 w31 ho32 hb hg_ hnew_; clear hg_ hnew_; (first | rw [← Ny220.out] at ho32 | (simp only [Int.reduceToNat] at ho32; rw [← Ny220.out] at ho32)); have n0_ := Aside0.mk (Kd.R_elder' (by (with_reducible repeat (first | apply Kd.R_alloc | apply Kd.R_drewN | apply Kd.R_drew)); exact HO219.out) (Kd.R_base ho32) hb); have n1_ := Aside0.mk (Kd.R_lower (Kd.R_new' ho32 (Kd.R_lt (by (with_reducible repeat (first | apply Kd.R_alloc | apply Kd.R_drewN | apply Kd.R_drew)); exact HO219.out))) (below_size (by repeat (first | (with_reducible first | exact HB.out | apply below_alloc | apply pw_below_drewN | apply below_drew1) | exact HB.out)))); have n2_ := Aside0.mk (below_step (by repeat (first | (with_reducible first | exact HB.out | apply below_alloc | apply pw_below_drewN | apply below_drew1) | exact HB.out)) hb); clear HO219; clear HB; have HO219 := n0_; have HO222 := n1_; have HB := n2_; clear n0_ n1_ n2_; clear hb ho32; obtain ⟨Ao33, co33, eo33⟩ := Kd.R_slice HO222.out; subst eo33; obtain ⟨Ao34, co34, eo34⟩ := Kd.R_slice HO219.out; subst eo34) | ((with_reducible refine gate_callee (f := 67) rfl ?_); refine goesL_ (some 7) rfl rfl Try.func67 (by kernel_rfl) rfl #[.agg #[.slice Ao34 y217.length co34, .slice Ao33 y220.length co33], .int .i64 9] rfl (by (try simp only [List.map_toArray, List.map_cons, List.map_nil]); first | done | rfl | (simp only [List.length_drop, List.length_take]; rfl)) ?_; (with_reducible refine (cover_Cells.calls k _ _ y217 _ _ y220 9 t223 t226 _ ?side1 ?side2 ?side3 ?side4 A1.out).mono ?_); (case side1 => repeat (first | exact (Kd.R_reads' HO219.out).2.2 | (with_reducible refine Kd.C_alloc ?_ _) | (with_reducible refine Kd.C_drewN ?_ _) | (with_reducible refine Kd.C_drew ?_))); (case side2 => exact (Kd.R_reads' HO219.out).2.1); (case side3 => repeat (first | exact (Kd.R_reads' HO222.out).2.2 | (with_reducible refine Kd.C_alloc ?_ _) | (with_reducible refine Kd.C_drewN ?_ _) | (with_reducible refine Kd.C_drew ?_))); (case side4 => exact (Kd.R_reads' HO222.out).2.1); rintro e w35 ⟨v224, rfl, ho0, hb⟩; refine ⟨_, rfl, ?_⟩; have n0_ := Aside0.mk (Kd.R_below (by (with_reducible repeat (first | apply Kd.R_alloc | apply Kd.R_drewN | apply Kd.R_drew)); exact HO219.out) hb); have n1_ := Aside0.mk (Kd.R_below (by (with_reducible repeat (first | apply Kd.R_alloc | apply Kd.R_drewN | apply Kd.R_drew)); exact HO222.out) hb); have n2_ := Aside0.mk (Kd.N_lower (Kd.N_mono (ok' := fun k_ => some k_ ≠ (.slice Ao34 y217.length co34 : Value).ownBlock ∧ some k_ ≠ (.slice Ao33 y220.length co33 : Value).ownBlock) ho0 (fun k_ hk_ => ⟨(Kd.fresh' (Kd.R_lt (by (with_reducible repeat (first | apply Kd.R_alloc | apply Kd.R_drewN | apply Kd.R_drew)); exact HO219.out)) k_ hk_), (Kd.fresh' (Kd.R_lt (by (with_reducible repeat (first | apply Kd.R_alloc | apply Kd.R_drewN | apply Kd.R_drew)); exact HO222.out)) k_ hk_)⟩)) (below_size (by repeat (first | (with_reducible first | exact HB.out | apply below_alloc | apply pw_below_drewN | apply below_drew1) | exact HB.out)))); have n3_ := Aside0.mk (below_step (by repeat (first | (with_reducible first | exact HB.out | apply below_alloc | apply pw_below_drewN | apply below_drew1) | exact HB.out)) hb); clear HO219; clear HO222; clear HB; have HO219 := n0_; have HO222 := n1_; have HO225 := n2_; have HB := n3_; clear n0_ n1_ n2_ n3_; (try clear hb); (try clear hb2); (try clear hk); (try clear hi); (try clear ho0); obtain ⟨Ao36, co36, eo36⟩ := Kd.N_slice HO225.out; subst eo36; have p227 : 0 ≤ (0 : Int) := (by omega); have q227 : 0 < (t223.length : Int) := of_decide_eq_true (by first | (with_reducible assumption) | assumption); obtain ⟨ad227, A227_0, c227_0, e227, hx227_0, hx227_1, hl227_0, hi227_0⟩ := at_T89 (Kd.N_reads' HO225.out).2.2 0 p227 q227; cases e227; obtain ⟨ce227, hce227, hMe227, hcc227⟩ := Kd.N_get HO225.out z89 0 p227 (by first | exact q227 | exact of_decide_eq_true (by first | (with_reducible assumption) | assumption) | (have e_ := (Kd.N_reads' HO225.out).1; omega)); obtain ⟨ua227_0, uc227_0, rfl, ul227_0, ge227_0⟩ := k89_openF hMe227; have hv227_0 := hcc227 0 _ rfl; rw [Nat.add_zero] at hv227_0; replace hv227_0 := Option.some.inj (hv227_0.symm.trans hx227_0); injection hv227_0 with hva_ hvn_ hvc_; rw [hva_] at ge227_0; rw [hvc_] at ul227_0; have HL227_0 := Aside0.mk (show Kd.V (Kd.int .u64) 30 _ w.heap.size _ _ ((rd_T89 t223 0).f0) from Kd.V_mk ul227_0 ge227_0); clear hva_ hvn_ hvc_ ge227_0 ul227_0; clear hcc227 hce227; have qi227 : (0 < t223.length) = True := eq_true (by omega); (try rw [show ((0 : Int)).toNat = 0 from rfl] at hx227_0); (try rw [show 0 * 2 = 0 from rfl] at hx227_0); (try rw [Addr.add_zero'] at hx227_0); (try rw [show ((0 : Int)).toNat = 0 from rfl] at hx227_1); (try rw [show 0 * 2 = 0 from rfl] at hx227_1); (try rw [Addr.add_zero'] at hx227_1); have HR227_0 := Aside0.mk hi227_0; have HC227_0 := Aside0.mk hl227_0; clear hi227_0 hl227_0; replace p227 := eq_true p227; replace q227 := eq_true q227; have p228 : 0 ≤ (1 : Int) := (by omega); have q228 : 1 < (t223.length : Int) := of_decide_eq_true (by first | (with_reducible assumption) | assumption); obtain ⟨ad228, A228_0, c228_0, e228, hx228_0, hx228_1, hl228_0, hi228_0⟩ := at_T89 (Kd.N_reads' HO225.out).2.2 1 p228 q228; obtain rfl : ad227 = ad228 := (by injection e228); obtain ⟨ce228, hce228, hMe228, hcc228⟩ := Kd.N_get HO225.out z89 1 p228 (by first | exact q228 | exact of_decide_eq_true (by first | (with_reducible assumption) | assumption) | (have e_ := (Kd.N_reads' HO225.out).1; omega)); obtain ⟨ua228_0, uc228_0, rfl, ul228_0, ge228_0⟩ := k89_openF hMe228; have hv228_0 := hcc228 0 _ rfl; rw [Nat.add_zero] at hv228_0; replace hv228_0 := Option.some.inj (hv228_0.symm.trans hx228_0); injection hv228_0 with hva_ hvn_ hvc_; rw [hva_] at ge228_0; rw [hvc_] at ul228_0; have HL228_0 := Aside0.mk (show Kd.V (Kd.int .u64) 30 _ w.heap.size _ _ ((rd_T89 t223 1).f0) from Kd.V_mk ul228_0 ge228_0); clear hva_ hvn_ hvc_ ge228_0 ul228_0; clear hcc228 hce228; (try simp only [show (1 : Int).toNat = 1 from rfl, Nat.reduceMul, Nat.reduceEqDiff, Go.Addr.add, ↓reduceIte] at hx228_0); (try simp only [show (1 : Int).toNat = 1 from rfl, Nat.reduceMul, Nat.reduceEqDiff, Go.Addr.add, ↓reduceIte] at hx228_1); have qi228 : (1 < t223.length) = True := eq_true (by omega); (try rw [show ((1 : Int)).toNat = 1 from rfl] at hx228_0); (try rw [show 1 * 2 = 2 from rfl] at hx228_0); (try rw [show ((1 : Int)).toNat = 1 from rfl] at hx228_1); (try rw [show 1 * 2 = 2 from rfl] at hx228_1); have HR228_0 := Aside0.mk hi228_0; have HC228_0 := Aside0.mk hl228_0; clear hi228_0 hl228_0; replace p228 := eq_true p228; replace q228 := eq_true q228))
              go_ret
              exact ⟨by first | rfl | (simp [errW_none, errW_some] <;> rfl) | (simp [*, errW_none, errW_some] <;> rfl), by repeat (first | (with_reducible first | exact HB.out | apply below_alloc | apply pw_below_drewN | apply below_drew1) | exact HB.out)⟩
          · rw [if_neg c6] at H
            exact absurd H (by simp)
        · rw [if_neg c5] at H
          have c5b0 : (((rd_T89 t223 0).f1) == (-1)) = false := beq_eq_false_iff_ne.mpr c5
          have c5b1 : (((rd_T89 t223 0).f1) != (-1)) = true := bne_iff_ne.mpr c5
          obtain rfl := Option.some.inj H
          go_enter Try.func66, Try.ntmps66
          go_wp2_with (first | ((with_reducible refine gate_dst (N := 4) rfl ?_); (try (refine gate_guard (by rfl) ?_; dsimp only)); refine Kd.R_lit (Kd.int .u64) _ 30 ?hg (N := 4) ?hd (xs := ([1] : List Int)) (inner := [.int .u64 1]) (ok := fun _ => True) (okp := fun _ => True) ?hr ?hp (fun _ hk => hk) trivial (Below.refl _ _) (Nat.le_refl _) (by simp) ?_; (case hd => rfl); (case hg => rfl); (case hr => first | (go_simp; done) | (go_simp; rfl)); (case hp => exact (Reps.one (show Kd.M (Kd.int .u64) _ _ _ 1 [.int .u64 1] from rfl) (Reps.none _ _))); intro v218 w37 ho38 hb hg_ hnew_; clear hg_ hnew_; (first | rw [← Ny217.out] at ho38 | (simp only [Int.reduceToNat] at ho38; rw [← Ny217.out] at ho38)); have n0_ := Aside0.mk (Kd.R_lower ho38 (below_size (by repeat (first | (with_reducible first | exact HB.out | apply below_alloc | apply pw_below_drewN | apply below_drew1) | exact HB.out)))); have n1_ := Aside0.mk (below_step (by repeat (first | (with_reducible first | exact HB.out | apply below_alloc | apply pw_below_drewN | apply below_drew1) | exact HB.out)) hb); clear HB; have HO219 := n0_; have HB := n1_; clear n0_ n1_; clear hb ho38) | ((with_reducible refine gate_dst (N := 5) rfl ?_); (try (refine gate_guard (by rfl) ?_; dsimp only)); refine Kd.R_lit (Kd.int .u64) _ 30 ?hg (N := 5) ?hd (xs := ([6] : List Int)) (inner := [.int .u64 6]) (ok := fun _ => True) (okp := fun _ => True) ?hr ?hp (fun _ hk => hk) trivial (Below.refl _ _) (Nat.le_refl _) (by simp) ?_; (case hd => rfl); (case hg => rfl); (case hr => first | (go_simp; done) | (go_simp; rfl)); (case hp => exact (Reps.one (show Kd.M (Kd.int .u64) _ _ _ 6 [.int .u64 6] from rfl) (Reps.none _ _))); intro v221 w39 ho40 hb hg_ hnew_; clear hg_ hnew_; (first | rw [← Ny220.out] at ho40 | (simp only [Int.reduceToNat] at ho40; rw [← Ny220.out] at ho40)); have n0_ := Aside0.mk (Kd.R_elder' (by (with_reducible repeat (first | apply Kd.R_alloc | apply Kd.R_drewN | apply Kd.R_drew)); exact HO219.out) (Kd.R_base ho40) hb); have n1_ := Aside0.mk (Kd.R_lower (Kd.R_new' ho40 (Kd.R_lt (by (with_reducible repeat (first | apply Kd.R_alloc | apply Kd.R_drewN | apply Kd.R_drew)); exact HO219.out))) (below_size (by repeat (first | (with_reducible first | exact HB.out | apply below_alloc | apply pw_below_drewN | apply below_drew1) | exact HB.out)))); have n2_ := Aside0.mk (below_step (by repeat (first | (with_reducible first | exact HB.out | apply below_alloc | apply pw_below_drewN | apply below_drew1) | exact HB.out)) hb); clear HO219; clear HB; have HO219 := n0_; have HO222 := n1_; have HB := n2_; clear n0_ n1_ n2_; clear hb ho40; obtain ⟨Ao41, co41, eo41⟩ := Kd.R_slice HO222.out; subst eo41; obtain ⟨Ao42, co42, eo42⟩ := Kd.R_slice HO219.out; subst eo42) | ((with_reducible refine gate_callee (f := 67) rfl ?_); refine goesL_ (some 7) rfl rfl Try.func67 (by kernel_rfl) rfl #[.agg #[.slice Ao42 y217.length co42, .slice Ao41 y220.length co41], .int .i64 9] rfl (by (try simp only [List.map_toArray, List.map_cons, List.map_nil]); first | done | rfl | (simp only [List.length_drop, List.length_take]; rfl)) ?_; (with_reducible refine (cover_Cells.calls k _ _ y217 _ _ y220 9 t223 t226 _ ?side1 ?side2 ?side3 ?side4 A1.out).mono ?_); (case side1 => repeat (first | exact (Kd.R_reads' HO219.out).2.2 | (with_reducible refine Kd.C_alloc ?_ _) | (with_reducible refine Kd.C_drewN ?_ _) | (with_reducible refine Kd.C_drew ?_))); (case side2 => exact (Kd.R_reads' HO219.out).2.1); (case side3 => repeat (first | exact (Kd.R_reads' HO222.out).2.2 | (with_reducible refine Kd.C_alloc ?_ _) | (with_reducible refine Kd.C_drewN ?_ _) | (with_reducible refine Kd.C_drew ?_))); (case side4 => exact (Kd.R_reads' HO222.out).2.1); rintro e w43 ⟨v224, rfl, ho0, hb⟩; refine ⟨_, rfl, ?_⟩; have n0_ := Aside0.mk (Kd.R_below (by (with_reducible repeat (first | apply Kd.R_alloc | apply Kd.R_drewN | apply Kd.R_drew)); exact HO219.out) hb); have n1_ := Aside0.mk (Kd.R_below (by (with_reducible repeat (first | apply Kd.R_alloc | apply Kd.R_drewN | apply Kd.R_drew)); exact HO222.out) hb); have n2_ := Aside0.mk (Kd.N_lower (Kd.N_mono (ok' := fun k_ => some k_ ≠ (.slice Ao42 y217.length co42 : Value).ownBlock ∧ some k_ ≠ (.slice Ao41 y220.length co41 : Value).ownBlock) ho0 (fun k_ hk_ => ⟨(Kd.fresh' (Kd.R_lt (by (with_reducible repeat (first | apply Kd.R_alloc | apply Kd.R_drewN | apply Kd.R_drew)); exact HO219.out)) k_ hk_), (Kd.fresh' (Kd.R_lt (by (with_reducible repeat (first | apply Kd.R_alloc | apply Kd.R_drewN | apply Kd.R_drew)); exact HO222.out)) k_ hk_)⟩)) (below_size (by repeat (first | (with_reducible first | exact HB.out | apply below_alloc | apply pw_below_drewN | apply below_drew1) | exact HB.out)))); have n3_ := Aside0.mk (below_step (by repeat (first | (with_reducible first | exact HB.out | apply below_alloc | apply pw_below_drewN | apply below_drew1) | exact HB.out)) hb); clear HO219; clear HO222; clear HB; have HO219 := n0_; have HO222 := n1_; have HO225 := n2_; have HB := n3_; clear n0_ n1_ n2_ n3_; (try clear hb); (try clear hb2); (try clear hk); (try clear hi); (try clear ho0); obtain ⟨Ao44, co44, eo44⟩ := Kd.N_slice HO225.out; subst eo44; have p227 : 0 ≤ (0 : Int) := (by omega); have q227 : 0 < (t223.length : Int) := of_decide_eq_true (by first | (with_reducible assumption) | assumption); obtain ⟨ad227, A227_0, c227_0, e227, hx227_0, hx227_1, hl227_0, hi227_0⟩ := at_T89 (Kd.N_reads' HO225.out).2.2 0 p227 q227; cases e227; obtain ⟨ce227, hce227, hMe227, hcc227⟩ := Kd.N_get HO225.out z89 0 p227 (by first | exact q227 | exact of_decide_eq_true (by first | (with_reducible assumption) | assumption) | (have e_ := (Kd.N_reads' HO225.out).1; omega)); obtain ⟨ua227_0, uc227_0, rfl, ul227_0, ge227_0⟩ := k89_openF hMe227; have hv227_0 := hcc227 0 _ rfl; rw [Nat.add_zero] at hv227_0; replace hv227_0 := Option.some.inj (hv227_0.symm.trans hx227_0); injection hv227_0 with hva_ hvn_ hvc_; rw [hva_] at ge227_0; rw [hvc_] at ul227_0; have HL227_0 := Aside0.mk (show Kd.V (Kd.int .u64) 30 _ w.heap.size _ _ ((rd_T89 t223 0).f0) from Kd.V_mk ul227_0 ge227_0); clear hva_ hvn_ hvc_ ge227_0 ul227_0; clear hcc227 hce227; have qi227 : (0 < t223.length) = True := eq_true (by omega); (try rw [show ((0 : Int)).toNat = 0 from rfl] at hx227_0); (try rw [show 0 * 2 = 0 from rfl] at hx227_0); (try rw [Addr.add_zero'] at hx227_0); (try rw [show ((0 : Int)).toNat = 0 from rfl] at hx227_1); (try rw [show 0 * 2 = 0 from rfl] at hx227_1); (try rw [Addr.add_zero'] at hx227_1); have HR227_0 := Aside0.mk hi227_0; have HC227_0 := Aside0.mk hl227_0; clear hi227_0 hl227_0; replace p227 := eq_true p227; replace q227 := eq_true q227))
          go_ret
          exact ⟨by first | rfl | (simp [errW_none, errW_some] <;> rfl) | (simp [*, errW_none, errW_some] <;> rfl), by repeat (first | (with_reducible first | exact HB.out | apply below_alloc | apply pw_below_drewN | apply below_drew1) | exact HB.out)⟩
      · rw [if_neg c4] at H
        exact absurd H (by simp)
    · rw [if_neg c3] at H
      have c3b0 : ((t223.length : Int) == 4) = false := beq_eq_false_iff_ne.mpr c3
      have c3b1 : ((t223.length : Int) != 4) = true := bne_iff_ne.mpr c3
      obtain rfl := Option.some.inj H
      go_enter Try.func66, Try.ntmps66
      go_wp2_with (first | ((with_reducible refine gate_dst (N := 4) rfl ?_); (try (refine gate_guard (by rfl) ?_; dsimp only)); refine Kd.R_lit (Kd.int .u64) _ 30 ?hg (N := 4) ?hd (xs := ([1] : List Int)) (inner := [.int .u64 1]) (ok := fun _ => True) (okp := fun _ => True) ?hr ?hp (fun _ hk => hk) trivial (Below.refl _ _) (Nat.le_refl _) (by simp) ?_; (case hd => rfl); (case hg => rfl); (case hr => first | (go_simp; done) | (go_simp; rfl)); (case hp => exact (Reps.one (show Kd.M (Kd.int .u64) _ _ _ 1 [.int .u64 1] from rfl) (Reps.none _ _))); intro v218 w45 ho46 hb hg_ hnew_; clear hg_ hnew_; (first | rw [← Ny217.out] at ho46 | (simp only [Int.reduceToNat] at ho46; rw [← Ny217.out] at ho46)); have n0_ := Aside0.mk (Kd.R_lower ho46 (below_size (by repeat (first | (with_reducible first | exact HB.out | apply below_alloc | apply pw_below_drewN | apply below_drew1) | exact HB.out)))); have n1_ := Aside0.mk (below_step (by repeat (first | (with_reducible first | exact HB.out | apply below_alloc | apply pw_below_drewN | apply below_drew1) | exact HB.out)) hb); clear HB; have HO219 := n0_; have HB := n1_; clear n0_ n1_; clear hb ho46) | ((with_reducible refine gate_dst (N := 5) rfl ?_); (try (refine gate_guard (by rfl) ?_; dsimp only)); refine Kd.R_lit (Kd.int .u64) _ 30 ?hg (N := 5) ?hd (xs := ([6] : List Int)) (inner := [.int .u64 6]) (ok := fun _ => True) (okp := fun _ => True) ?hr ?hp (fun _ hk => hk) trivial (Below.refl _ _) (Nat.le_refl _) (by simp) ?_; (case hd => rfl); (case hg => rfl); (case hr => first | (go_simp; done) | (go_simp; rfl)); (case hp => exact (Reps.one (show Kd.M (Kd.int .u64) _ _ _ 6 [.int .u64 6] from rfl) (Reps.none _ _))); intro v221 w47 ho48 hb hg_ hnew_; clear hg_ hnew_; (first | rw [← Ny220.out] at ho48 | (simp only [Int.reduceToNat] at ho48; rw [← Ny220.out] at ho48)); have n0_ := Aside0.mk (Kd.R_elder' (by (with_reducible repeat (first | apply Kd.R_alloc | apply Kd.R_drewN | apply Kd.R_drew)); exact HO219.out) (Kd.R_base ho48) hb); have n1_ := Aside0.mk (Kd.R_lower (Kd.R_new' ho48 (Kd.R_lt (by (with_reducible repeat (first | apply Kd.R_alloc | apply Kd.R_drewN | apply Kd.R_drew)); exact HO219.out))) (below_size (by repeat (first | (with_reducible first | exact HB.out | apply below_alloc | apply pw_below_drewN | apply below_drew1) | exact HB.out)))); have n2_ := Aside0.mk (below_step (by repeat (first | (with_reducible first | exact HB.out | apply below_alloc | apply pw_below_drewN | apply below_drew1) | exact HB.out)) hb); clear HO219; clear HB; have HO219 := n0_; have HO222 := n1_; have HB := n2_; clear n0_ n1_ n2_; clear hb ho48; obtain ⟨Ao49, co49, eo49⟩ := Kd.R_slice HO222.out; subst eo49; obtain ⟨Ao50, co50, eo50⟩ := Kd.R_slice HO219.out; subst eo50) | ((with_reducible refine gate_callee (f := 67) rfl ?_); refine goesL_ (some 7) rfl rfl Try.func67 (by kernel_rfl) rfl #[.agg #[.slice Ao50 y217.length co50, .slice Ao49 y220.length co49], .int .i64 9] rfl (by (try simp only [List.map_toArray, List.map_cons, List.map_nil]); first | done | rfl | (simp only [List.length_drop, List.length_take]; rfl)) ?_; (with_reducible refine (cover_Cells.calls k _ _ y217 _ _ y220 9 t223 t226 _ ?side1 ?side2 ?side3 ?side4 A1.out).mono ?_); (case side1 => repeat (first | exact (Kd.R_reads' HO219.out).2.2 | (with_reducible refine Kd.C_alloc ?_ _) | (with_reducible refine Kd.C_drewN ?_ _) | (with_reducible refine Kd.C_drew ?_))); (case side2 => exact (Kd.R_reads' HO219.out).2.1); (case side3 => repeat (first | exact (Kd.R_reads' HO222.out).2.2 | (with_reducible refine Kd.C_alloc ?_ _) | (with_reducible refine Kd.C_drewN ?_ _) | (with_reducible refine Kd.C_drew ?_))); (case side4 => exact (Kd.R_reads' HO222.out).2.1); rintro e w51 ⟨v224, rfl, ho0, hb⟩; refine ⟨_, rfl, ?_⟩; have n0_ := Aside0.mk (Kd.R_below (by (with_reducible repeat (first | apply Kd.R_alloc | apply Kd.R_drewN | apply Kd.R_drew)); exact HO219.out) hb); have n1_ := Aside0.mk (Kd.R_below (by (with_reducible repeat (first | apply Kd.R_alloc | apply Kd.R_drewN | apply Kd.R_drew)); exact HO222.out) hb); have n2_ := Aside0.mk (Kd.N_lower (Kd.N_mono (ok' := fun k_ => some k_ ≠ (.slice Ao50 y217.length co50 : Value).ownBlock ∧ some k_ ≠ (.slice Ao49 y220.length co49 : Value).ownBlock) ho0 (fun k_ hk_ => ⟨(Kd.fresh' (Kd.R_lt (by (with_reducible repeat (first | apply Kd.R_alloc | apply Kd.R_drewN | apply Kd.R_drew)); exact HO219.out)) k_ hk_), (Kd.fresh' (Kd.R_lt (by (with_reducible repeat (first | apply Kd.R_alloc | apply Kd.R_drewN | apply Kd.R_drew)); exact HO222.out)) k_ hk_)⟩)) (below_size (by repeat (first | (with_reducible first | exact HB.out | apply below_alloc | apply pw_below_drewN | apply below_drew1) | exact HB.out)))); have n3_ := Aside0.mk (below_step (by repeat (first | (with_reducible first | exact HB.out | apply below_alloc | apply pw_below_drewN | apply below_drew1) | exact HB.out)) hb); clear HO219; clear HO222; clear HB; have HO219 := n0_; have HO222 := n1_; have HO225 := n2_; have HB := n3_; clear n0_ n1_ n2_ n3_; (try clear hb); (try clear hb2); (try clear hk); (try clear hi); (try clear ho0); obtain ⟨Ao52, co52, eo52⟩ := Kd.N_slice HO225.out; subst eo52))
      go_ret
      exact ⟨by first | rfl | (simp [errW_none, errW_some] <;> rfl) | (simp [*, errW_none, errW_some] <;> rfl), by repeat (first | (with_reducible first | exact HB.out | apply below_alloc | apply pw_below_drewN | apply below_drew1) | exact HB.out)⟩
  · rw [if_neg c2] at H
    have c2b0 : (t226 == 0) = false := beq_eq_false_iff_ne.mpr c2
    have c2b1 : (t226 != 0) = true := bne_iff_ne.mpr c2
    obtain rfl := Option.some.inj H
    go_enter Try.func66, Try.ntmps66
    go_wp2_with (first | ((with_reducible refine gate_dst (N := 4) rfl ?_); (try (refine gate_guard (by rfl) ?_; dsimp only)); refine Kd.R_lit (Kd.int .u64) _ 30 ?hg (N := 4) ?hd (xs := ([1] : List Int)) (inner := [.int .u64 1]) (ok := fun _ => True) (okp := fun _ => True) ?hr ?hp (fun _ hk => hk) trivial (Below.refl _ _) (Nat.le_refl _) (by simp) ?_; (case hd => rfl); (case hg => rfl); (case hr => first | (go_simp; done) | (go_simp; rfl)); (case hp => exact (Reps.one (show Kd.M (Kd.int .u64) _ _ _ 1 [.int .u64 1] from rfl) (Reps.none _ _))); intro v218 w53 ho54 hb hg_ hnew_; clear hg_ hnew_; (first | rw [← Ny217.out] at ho54 | (simp only [Int.reduceToNat] at ho54; rw [← Ny217.out] at ho54)); have n0_ := Aside0.mk (Kd.R_lower ho54 (below_size (by repeat (first | (with_reducible first | exact HB.out | apply below_alloc | apply pw_below_drewN | apply below_drew1) | exact HB.out)))); have n1_ := Aside0.mk (below_step (by repeat (first | (with_reducible first | exact HB.out | apply below_alloc | apply pw_below_drewN | apply below_drew1) | exact HB.out)) hb); clear HB; have HO219 := n0_; have HB := n1_; clear n0_ n1_; clear hb ho54) | ((with_reducible refine gate_dst (N := 5) rfl ?_); (try (refine gate_guard (by rfl) ?_; dsimp only)); refine Kd.R_lit (Kd.int .u64) _ 30 ?hg (N := 5) ?hd (xs := ([6] : List Int)) (inner := [.int .u64 6]) (ok := fun _ => True) (okp := fun _ => True) ?hr ?hp (fun _ hk => hk) trivial (Below.refl _ _) (Nat.le_refl _) (by simp) ?_; (case hd => rfl); (case hg => rfl); (case hr => first | (go_simp; done) | (go_simp; rfl)); (case hp => exact (Reps.one (show Kd.M (Kd.int .u64) _ _ _ 6 [.int .u64 6] from rfl) (Reps.none _ _))); intro v221 w55 ho56 hb hg_ hnew_; clear hg_ hnew_; (first | rw [← Ny220.out] at ho56 | (simp only [Int.reduceToNat] at ho56; rw [← Ny220.out] at ho56)); have n0_ := Aside0.mk (Kd.R_elder' (by (with_reducible repeat (first | apply Kd.R_alloc | apply Kd.R_drewN | apply Kd.R_drew)); exact HO219.out) (Kd.R_base ho56) hb); have n1_ := Aside0.mk (Kd.R_lower (Kd.R_new' ho56 (Kd.R_lt (by (with_reducible repeat (first | apply Kd.R_alloc | apply Kd.R_drewN | apply Kd.R_drew)); exact HO219.out))) (below_size (by repeat (first | (with_reducible first | exact HB.out | apply below_alloc | apply pw_below_drewN | apply below_drew1) | exact HB.out)))); have n2_ := Aside0.mk (below_step (by repeat (first | (with_reducible first | exact HB.out | apply below_alloc | apply pw_below_drewN | apply below_drew1) | exact HB.out)) hb); clear HO219; clear HB; have HO219 := n0_; have HO222 := n1_; have HB := n2_; clear n0_ n1_ n2_; clear hb ho56; obtain ⟨Ao57, co57, eo57⟩ := Kd.R_slice HO222.out; subst eo57; obtain ⟨Ao58, co58, eo58⟩ := Kd.R_slice HO219.out; subst eo58) | ((with_reducible refine gate_callee (f := 67) rfl ?_); refine goesL_ (some 7) rfl rfl Try.func67 (by kernel_rfl) rfl #[.agg #[.slice Ao58 y217.length co58, .slice Ao57 y220.length co57], .int .i64 9] rfl (by (try simp only [List.map_toArray, List.map_cons, List.map_nil]); first | done | rfl | (simp only [List.length_drop, List.length_take]; rfl)) ?_; (with_reducible refine (cover_Cells.calls k _ _ y217 _ _ y220 9 t223 t226 _ ?side1 ?side2 ?side3 ?side4 A1.out).mono ?_); (case side1 => repeat (first | exact (Kd.R_reads' HO219.out).2.2 | (with_reducible refine Kd.C_alloc ?_ _) | (with_reducible refine Kd.C_drewN ?_ _) | (with_reducible refine Kd.C_drew ?_))); (case side2 => exact (Kd.R_reads' HO219.out).2.1); (case side3 => repeat (first | exact (Kd.R_reads' HO222.out).2.2 | (with_reducible refine Kd.C_alloc ?_ _) | (with_reducible refine Kd.C_drewN ?_ _) | (with_reducible refine Kd.C_drew ?_))); (case side4 => exact (Kd.R_reads' HO222.out).2.1); rintro e w59 ⟨v224, rfl, ho0, hb⟩; refine ⟨_, rfl, ?_⟩; have n0_ := Aside0.mk (Kd.R_below (by (with_reducible repeat (first | apply Kd.R_alloc | apply Kd.R_drewN | apply Kd.R_drew)); exact HO219.out) hb); have n1_ := Aside0.mk (Kd.R_below (by (with_reducible repeat (first | apply Kd.R_alloc | apply Kd.R_drewN | apply Kd.R_drew)); exact HO222.out) hb); have n2_ := Aside0.mk (Kd.N_lower (Kd.N_mono (ok' := fun k_ => some k_ ≠ (.slice Ao58 y217.length co58 : Value).ownBlock ∧ some k_ ≠ (.slice Ao57 y220.length co57 : Value).ownBlock) ho0 (fun k_ hk_ => ⟨(Kd.fresh' (Kd.R_lt (by (with_reducible repeat (first | apply Kd.R_alloc | apply Kd.R_drewN | apply Kd.R_drew)); exact HO219.out)) k_ hk_), (Kd.fresh' (Kd.R_lt (by (with_reducible repeat (first | apply Kd.R_alloc | apply Kd.R_drewN | apply Kd.R_drew)); exact HO222.out)) k_ hk_)⟩)) (below_size (by repeat (first | (with_reducible first | exact HB.out | apply below_alloc | apply pw_below_drewN | apply below_drew1) | exact HB.out)))); have n3_ := Aside0.mk (below_step (by repeat (first | (with_reducible first | exact HB.out | apply below_alloc | apply pw_below_drewN | apply below_drew1) | exact HB.out)) hb); clear HO219; clear HO222; clear HB; have HO219 := n0_; have HO222 := n1_; have HO225 := n2_; have HB := n3_; clear n0_ n1_ n2_ n3_; (try clear hb); (try clear hb2); (try clear hk); (try clear hi); (try clear ho0)))
    go_ret
    exact ⟨by first | rfl | (simp [errW_none, errW_some] <;> rfl) | (simp [*, errW_none, errW_some] <;> rfl), by repeat (first | (with_reducible first | exact HB.out | apply below_alloc | apply pw_below_drewN | apply below_drew1) | exact HB.out)⟩

-- NOT PRINTED: function 74 (box_each)

/-! ### box_Cell: function 26: by hand -/
def box_Cell.low (a1 : Int) : Int := IntKind.u64.wrap (shl .u64 1 (wrap64 (a1 + 1)) - 1)
def box_Cell.f (k : Nat) (l0 : List Int) (a1 : Int) : Option (List Int × List Int × Int) := (zbits_Cut.f k l0 a1).bind fun b => if b.2 = 0 then (if 0 ≤ wrap64 (a1 + 1) then (if l0.length ≤ b.1.length ∧ l0.length ≤ 1000000 then some (Go.Proofs.YthdphjbecibeaaaHe.mkI l0.length (fun i => rd b.1 i), Go.Proofs.YthdphjbecibeaaaHe.mkI l0.length (fun i => Go.bits .or .u64 (rd b.1 i) (box_Cell.low a1)), 0) else none) else none) else some ([], [], b.2)
theorem box_Cell.mono : ∀ a0 a1 k, LeO (box_Cell.f k a0 a1) (box_Cell.f (k + 1) a0 a1) := by
  intro a0 a1 k
  unfold box_Cell.f
  exact LeO.bind (zbits_Cut.mono _ _ _) (fun _ => LeO.refl _)
set_option maxHeartbeats 1600000 in
set_option maxRecDepth 100000 in
theorem box_Cell.calls (k : Nat) (A0 : Option Addr) (c0 : Nat) (l0 : List Int) (a1 : Int) (r1 : List Int) (r2 : List Int) (r3 : Int) (w : World) (hr0 : Kd.C (Kd.int .u64) w A0 l0.length l0) (hc0 : l0.length ≤ c0) (h : box_Cell.f k l0 a1 = some (r1, r2, r3)) :
    Calls Try.prog 26 #[.slice A0 l0.length c0, .int .i64 a1] w fun e w' => ∃ v0_ v1_ : Value, e = .returned (.tuple #[.agg #[v0_, v1_], .int .i64 r3]) ∧ Kd.R (Kd.int .u64) 30 w' w.heap.size (fun k_ => some k_ ≠ (v1_ : Value).ownBlock) v0_ r1 ∧ Kd.R (Kd.int .u64) 30 w' w.heap.size (fun k_ => some k_ ≠ (v0_ : Value).ownBlock) v1_ r2 ∧ Below w.heap.size w w' := by
  have hu32 := Try.underlying32
  obtain ⟨⟨c, ec⟩, ht, H⟩ := Option.bind_eq_some_iff.mp h
  have HT := Aside0.mk ht
  have HC0 := Aside0.mk hc0
  have HR0 := Aside0.mk hr0
  clear h ht hc0 hr0
  have hmf : ∀ (fn : Fn) (first cap : Array Value) (w : World), (Instr.makeFunc fn first cap).run Try.prog w = .ok (.func fn first cap) w := fun _ _ _ _ => rfl
  have hC1 : ∀ o0, Kd.C (Kd.int .u64) (w.alloc o0) A0 l0.length l0 := fun o0 => Kd.C_below HR0.out (below_alloc (Below.refl _ _) o0)
  have HB1 : ∀ o0, Below w.heap.size w (w.alloc o0) := fun o0 => below_alloc (Below.refl _ _) o0
  simp only at H
  by_cases he : ec = 0
  · subst he
    rw [if_pos rfl] at H
    by_cases hs : 0 ≤ wrap64 (a1 + 1)
    · rw [if_pos hs] at H
      by_cases hl : l0.length ≤ c.length ∧ l0.length ≤ 1000000
      · rw [if_pos hl] at H
        simp only [Option.some.injEq, Prod.mk.injEq] at H
        obtain ⟨rfl, rfl, rfl⟩ := H
        have HL := Aside0.mk hl
        clear hl
        have hsd : decide (0 ≤ wrap64 (a1 + 1)) = true := decide_eq_true hs
        go_enter Try.func26, Try.ntmps26
        go_wp2_with (go_at_call 34; refine (zbits_Cut.calls k A0 c0 l0 a1 c 0 _ (hC1 _) HC0.out HT.out).mono ?_; rintro e w' ⟨v0, rfl, hR, hB⟩; have HR := Aside0.mk hR; have HB := Aside0.mk hB; obtain ⟨Ao, co, eo⟩ := Kd.R_slice hR; subst eo; clear hR hB)
        have hlw : (IntKind.u64.wrap (IntKind.u64.wrap (2 ^ min (wrap64 (a1 + 1)).toNat 64) - 1)) = box_Cell.low a1 := by
          unfold box_Cell.low shl
          rw [Int.one_mul]
          rfl
        generalize (IntKind.u64.wrap (IntKind.u64.wrap (2 ^ min (wrap64 (a1 + 1)).toNat 64) - 1)) = lw at hlw ⊢
        have HLW := Aside0.mk hlw
        clear hlw
        have hbk0 : ∀ o0 o1, ((w'.alloc o0).alloc o1).heap[w'.heap.size]? = some o0 := fun o0 o1 => blk_alloc (blk_new w' o0) o1
        have hbk1 : ∀ o0 o1, ((w'.alloc o0).alloc o1).heap[w'.heap.size + 1]? = some o1 := fun o0 o1 => by
          have hh := blk_new (w'.alloc o0) o1
          have e : (w'.alloc o0).heap.size = w'.heap.size + 1 := by simp
          rwa [e] at hh
        have HB2 : ∀ o0 o1, Below w'.heap.size w' ((w'.alloc o0).alloc o1) := fun o0 o1 => below_alloc (below_alloc (Below.refl _ _) o0) o1
        have HF : ∀ (i : Nat) (W : World), i < l0.length → Below ((w'.alloc (.cells #[.slice Ao c.length co] 22)).alloc (.cells #[.int .u64 lw] 30)).heap.size ((w'.alloc (.cells #[.slice Ao c.length co] 22)).alloc (.cells #[.int .u64 lw] 30)) W →
            Calls Try.prog 76 #[.int .i64 i, .pointer (some ⟨w'.heap.size, 0, none⟩), .pointer (some ⟨w'.heap.size + 1, 0, none⟩)] W fun e W' => e = .returned (.tuple #[.int .u64 (rd c i), .int .u64 (Go.bits .or .u64 (rd c i) lw)]) ∧ ∃ m, W' = W.drewN m := by
          intro i W hi hb
          have hi2 : i < c.length := by have := HL.out.1; omega
          obtain ⟨ad, e, hx⟩ := Kd.at_int (Kd.R_reads' HR.out).2.2 (i : Int) (by omega) (by omega)
          subst e
          have k0 := blk_below (hbk0 (.cells #[.slice (some ad) c.length co] 22) (.cells #[.int .u64 lw] 30)) hb
          have k1 := blk_below (hbk1 (.cells #[.slice (some ad) c.length co] 22) (.cells #[.int .u64 lw] 30)) hb
          have hB := below_then (HB2 (.cells #[.slice (some ad) c.length co] 22) (.cells #[.int .u64 lw] 30)) (HB2 _ _).size hb
          exact Go.Proofs.YthdphjbecibeaaaHe.clo76 i _ _ co ad c lw W ((blk_cell k0 0).trans rfl) ((blk_cell k1 0).trans rfl) hi2 (by
            have := (hB.cell (World.block_lt_of_cell? w' _ hx)).trans hx
            simpa using this)
        refine (Go.Proofs.YthdphjbecibeaaaHe.eachCell l0.length HL.out.2 w'.heap.size (w'.heap.size + 1) _ _ _ HF).mono ?_
        rintro e w2 ⟨gl, gh, rfl, hne, hR0, hR1, hB⟩
        have hres0 : (w.alloc (.cells #[.slice none 0 0, .slice none 0 0] 32)).heap[w.heap.size]? = some (.cells #[.slice none 0 0, .slice none 0 0] 32) := blk_new _ _
        have hres1 := blk_below hres0 HB.out
        have hk := blk_below (blk_alloc (blk_alloc hres1 (.cells #[.slice Ao c.length co] 22)) (.cells #[.int .u64 lw] 30)) hB
        have hz0 : w2.cell? ⟨w.heap.size, 0, none⟩ = some (.slice none 0 0) := (blk_cell hk 0).trans rfl
        have hz1 : w2.cell? ⟨w.heap.size, 1, none⟩ = some (.slice none 0 0) := (blk_cell hk 1).trans rfl
        have hy0 := blk_frozen hk 0
        have hy1 := blk_frozen hk 1
        have HN := Aside0.mk hne
        have HK := Aside0.mk hk
        have HR0' := Aside0.mk hR0
        have HR1' := Aside0.mk hR1
        have HB' := Aside0.mk hB
        clear hne hk hR0 hR1 hB hres0 hres1
        go_wp2
        have hsz : ∀ (o0 o1 : Obj), ((w'.alloc o0).alloc o1).heap.size = w'.heap.size + 1 + 1 := fun o0 o1 => by simp
        have hs1 : (w.alloc (.cells #[.slice none 0 0, .slice none 0 0] 32)).heap.size = w.heap.size + 1 := by simp
        have hle := HB.out.size
        rw [hs1] at hle
        have hR0 := Kd.R_bound HR0'.out
        have hR1 := Kd.R_bound HR1'.out
        have hB := HB'.out
        rw [hsz] at hR0 hR1
        refine bodyPost_ret (results_ct rfl _ _ w.heap.size 32 #[.slice (some ⟨gl, 0, none⟩) l0.length l0.length, .slice (some ⟨gh, 0, none⟩) l0.length l0.length] (0, 0) _ rfl (blk_put (cs := #[.slice (some ⟨gl, 0, none⟩) l0.length l0.length, .slice none 0 0]) (blk_put (cs := #[.slice none 0 0, .slice none 0 0]) HK.out 0 _ rfl) 1 _ rfl) Try.underlying32 rfl (by kernel_rfl)) rfl ?_
        refine ⟨_, _, rfl, ?_, ?_, ?_⟩
        · exact Kd.R_mono (Kd.R_lower (Kd.R_far (Kd.R_far hR0 (fun k hk => show k ≠ w.heap.size by have := hk.2.1; omega) _) (fun k hk => show k ≠ w.heap.size by have := hk.2.1; omega) _) (by omega)) (fun k hk => by have := hk.1; simpa [Value.ownBlock] using this)
        · rw [← HLW.out]
          exact Kd.R_mono (Kd.R_lower (Kd.R_far (Kd.R_far hR1 (fun k hk => show k ≠ w.heap.size by have := hk.2.1; omega) _) (fun k hk => show k ≠ w.heap.size by have := hk.2.1; omega) _) (by omega)) (fun k hk => by have := hk.1; simpa [Value.ownBlock] using this)
        · have h1 := below_then (HB1 (.cells #[.slice none 0 0, .slice none 0 0] 32)) (HB1 _).size HB.out
          have h2 := below_then h1 h1.size (HB2 (.cells #[.slice Ao c.length co] 22) (.cells #[.int .u64 lw] 30))
          exact ((below_then h2 h2.size hB).setCell (Nat.le_refl _) _).setCell (Nat.le_refl _) _
      · rw [if_neg hl] at H
        exact absurd H (by simp)
    · rw [if_neg hs] at H
      exact absurd H (by simp)
  · rw [if_neg he] at H
    simp only [Option.some.injEq, Prod.mk.injEq] at H
    obtain ⟨rfl, rfl, rfl⟩ := H
    have hd0 : (ec == 0) = false := beq_eq_false_iff_ne.mpr he
    have hd1 : (ec != 0) = true := bne_iff_ne.mpr he
    have hd2 : decide (ec = 0) = false := decide_eq_false he
    clear he
    go_enter Try.func26, Try.ntmps26
    go_wp2_with (go_at_call 34; refine (zbits_Cut.calls k A0 c0 l0 a1 c ec _ (hC1 _) HC0.out HT.out).mono ?_; rintro e w' ⟨v0, rfl, hR, hB⟩; have hres1 := blk_below (blk_new _ _) hB; have hz0 : ∀ o, (w'.alloc o).cell? ⟨w.heap.size, 0, none⟩ = some (.slice none 0 0) := fun o => (blk_cell (blk_alloc hres1 o) 0).trans rfl; have hz1 : ∀ o, (w'.alloc o).cell? ⟨w.heap.size, 1, none⟩ = some (.slice none 0 0) := fun o => (blk_cell (blk_alloc hres1 o) 1).trans rfl; have hy0 := fun o => blk_frozen (blk_alloc hres1 o) 0; have hy1 := fun o => blk_frozen (blk_alloc hres1 o) 1; have HK := Aside0.mk hres1; have HR := Aside0.mk hR; have HB := Aside0.mk hB; obtain ⟨Ao, co, eo⟩ := Kd.R_slice hR; subst eo; clear hR hB hres1)
    refine bodyPost_ret (results_ct rfl _ _ w.heap.size 32 #[.slice none 0 0, .slice none 0 0] (0, 0) _ rfl (blk_put (cs := #[.slice none 0 0, .slice none 0 0]) (blk_put (cs := #[.slice none 0 0, .slice none 0 0]) (blk_alloc HK.out _) 0 _ rfl) 1 _ rfl) Try.underlying32 rfl (by kernel_rfl)) rfl ?_
    exact ⟨_, _, rfl, Kd.R_nil _ _ _ _ _, Kd.R_nil _ _ _ _ _, ((below_alloc (below_then (HB1 (.cells #[.slice none 0 0, .slice none 0 0] 32)) (HB1 _).size HB.out) _).setCell (Nat.le_refl _) _).setCell (Nat.le_refl _) _⟩

/-! ### slices_Equal_uint64_uint64: function 98 -/
def slices_Equal_uint64_uint64.l0 : Nat → List Int → List Int → Int → Int → Option (Bool)
  | 0, _, _, _, _ => none
  | k + 1, x0, x1, x12, x13 => if x13 < x12 then (if 0 ≤ x13 then (if x13 < (x0.length : Int) then (if x13 < (x1.length : Int) then (if (rd x0 x13) = (rd x1 x13) then (slices_Equal_uint64_uint64.l0 k x0 x1 x12 (wrap64 (x13 + 1))) else (some false)) else (none)) else (none)) else (none)) else (some true)
def slices_Equal_uint64_uint64.f (k : Nat) (l0 : List Int) (l1 : List Int) : Option (Bool) := if (l0.length : Int) = (l1.length : Int) then (slices_Equal_uint64_uint64.l0 k l0 l1 (l0.length : Int) 0) else (some false)
theorem slices_Equal_uint64_uint64.mono_l : ∀ k, (∀ y0 y1 y2 y3, LeO (slices_Equal_uint64_uint64.l0 k y0 y1 y2 y3) (slices_Equal_uint64_uint64.l0 (k + 1) y0 y1 y2 y3))
  | 0 => fun _ _ _ _ r h => by simp [slices_Equal_uint64_uint64.l0] at h
  | k + 1 => by
    have ih0 := slices_Equal_uint64_uint64.mono_l k
    · intro y0 y1 y2 y3
      unfold slices_Equal_uint64_uint64.l0
      repeat' first
      | (with_reducible exact ih0 _ _ _ _)
      | (with_reducible exact LeO.refl _)
      | (with_reducible exact LeO.none _)
      | (with_reducible refine LeO.ite ?_ ?_)
      | (with_reducible refine LeO.bind ?_ (fun _ => ?_))
      | exact ih0 _ _ _ _
      | exact LeO.none _
      | refine LeO.ite ?_ ?_
      | refine LeO.bind ?_ (fun _ => ?_)
theorem slices_Equal_uint64_uint64.mono : ∀ a0 a1 k, LeO (slices_Equal_uint64_uint64.f k a0 a1) (slices_Equal_uint64_uint64.f (k + 1) a0 a1) := by
  intro a0 a1 k
  have ih0 := slices_Equal_uint64_uint64.mono_l k
  unfold slices_Equal_uint64_uint64.f
  repeat' first
      | (with_reducible exact ih0 _ _ _ _)
      | (with_reducible exact LeO.refl _)
      | (with_reducible exact LeO.none _)
      | (with_reducible refine LeO.ite ?_ ?_)
      | (with_reducible refine LeO.bind ?_ (fun _ => ?_))
      | exact ih0 _ _ _ _
      | exact LeO.none _
      | refine LeO.ite ?_ ?_
      | refine LeO.bind ?_ (fun _ => ?_)
set_option maxHeartbeats 8000000 in
set_option maxRecDepth 100000 in
theorem slices_Equal_uint64_uint64.calls (k : Nat) (A0 : Option Addr) (c0 : Nat) (l0 : List Int) (A1 : Option Addr) (c1 : Nat) (l1 : List Int) (r : Bool) (w : World) (hr0 : Kd.C (Kd.int .u64) w A0 l0.length l0) (hc0 : l0.length ≤ c0) (hr1 : Kd.C (Kd.int .u64) w A1 l1.length l1) (hc1 : l1.length ≤ c1) (h : slices_Equal_uint64_uint64.f k l0 l1 = some r) :
    Calls Try.prog 98 #[.slice A0 l0.length c0, .slice A1 l1.length c1] w fun e w' => e = .returned (.bool r) ∧ Drawn0 w w' := by
  have HR0 := Aside0.mk hr0
  have HC0 := Aside0.mk hc0
  clear hr0 hc0
  have HR1 := Aside0.mk hr1
  have HC1 := Aside0.mk hc1
  clear hr1 hc1
  have H : (if (l0.length : Int) = (l1.length : Int) then (slices_Equal_uint64_uint64.l0 k l0 l1 (l0.length : Int) 0) else (some false)) = some r := h
  clear h
  by_cases c3 : (l0.length : Int) = (l1.length : Int)
  · rw [if_pos c3] at H
    have c3b0 : ((l0.length : Int) == (l1.length : Int)) = true := beq_iff_eq.mpr c3
    have c3b1 : ((l0.length : Int) != (l1.length : Int)) = false := bne_eq_false_iff_eq.mpr c3
    have c3b2 : (l0.length == l1.length) = true := by first | simpa using c3 | (simp at c3 ⊢; omega)
    clear c3
    have H' := Aside0.mk H
    clear H
    go_enter Try.func98, Try.ntmps98
    go_wp2
    repeat (go_quiet (fail); try go_wp2)
    go_loopg [13] k (fun kq v13 w' => ∃ (x13_1 : Int), v13 = .int .i64 x13_1 ∧ Aside0 (slices_Equal_uint64_uint64.l0 kq l0 l1 (l0.length : Int) x13_1 = some r) ∧ Aside0 (kq ≤ k) ∧ Drawn0 w w')
    case atStart => exact ⟨(0), (by first | rfl | (simp; done) | (simp [*]; done)), H', ⟨Nat.le_refl _⟩, by repeat (first | exact Drawn0.refl _ | apply Drawn0.step)⟩
    case round =>
      clear H'
      try clear c1
      try clear p2
      try clear c3
      try clear c3b0
      try clear c3b1
      try clear c3b2
      obtain ⟨x13_1, rfl, HA, HK1, ⟨m1, rfl⟩⟩ := hrel
      cases gk with
      | zero => exact absurd HA.out (by simp [slices_Equal_uint64_uint64.l0])
      | succ k1 =>
        have H := HA.out
        clear HA
        simp only [slices_Equal_uint64_uint64.l0] at H
        by_cases c4 : x13_1 < (l0.length : Int)
        · rw [if_pos c4] at H
          have c4b0 : decide (x13_1 < (l0.length : Int)) = true := decide_eq_true c4
          clear c4
          by_cases c5 : 0 ≤ x13_1
          · rw [if_pos c5] at H
            have c5b0 : decide (0 ≤ x13_1) = true := decide_eq_true c5
            clear c5
            by_cases c6 : x13_1 < (l0.length : Int)
            · rw [if_pos c6] at H
              have c6b0 : decide (x13_1 < (l0.length : Int)) = true := decide_eq_true c6
              clear c6
              by_cases c7 : x13_1 < (l1.length : Int)
              · rw [if_pos c7] at H
                have c7b0 : decide (x13_1 < (l1.length : Int)) = true := decide_eq_true c7
                clear c7
                by_cases c8 : (rd l0 x13_1) = (rd l1 x13_1)
                · rw [if_pos c8] at H
                  have c8b0 : ((rd l0 x13_1) == (rd l1 x13_1)) = true := beq_iff_eq.mpr c8
                  have c8b1 : ((rd l0 x13_1) != (rd l1 x13_1)) = false := bne_eq_false_iff_eq.mpr c8
                  clear c8
                  have H' := Aside0.mk H
                  clear H
                  have p233 : 0 ≤ (x13_1 : Int) := of_decide_eq_true (by first | (with_reducible assumption) | assumption)
                  have q233 : x13_1 < (l0.length : Int) := of_decide_eq_true (by first | (with_reducible assumption) | assumption)
                  obtain ⟨ad233, e233, hx233_0⟩ := Kd.at_int HR0.out x13_1 p233 q233
                  cases e233
                  replace p233 := eq_true p233
                  replace q233 := eq_true q233
                  have p234 : 0 ≤ (x13_1 : Int) := of_decide_eq_true (by first | (with_reducible assumption) | assumption)
                  have q234 : x13_1 < (l1.length : Int) := of_decide_eq_true (by first | (with_reducible assumption) | assumption)
                  obtain ⟨ad234, e234, hx234_0⟩ := Kd.at_int HR1.out x13_1 p234 q234
                  cases e234
                  replace p234 := eq_true p234
                  replace q234 := eq_true q234
                  go_wp2
                  repeat (go_quiet (fail); try go_wp2)
                  go_roundg k1
                  case measure => have := HK1.out; omega
                  case rel => exact ⟨(wrap64 (x13_1 + 1)), (by first | rfl | (simp; done) | (simp [*]; done)), H', ⟨by have := HK1.out; omega⟩, by repeat (first | exact Drawn0.refl _ | apply Drawn0.step)⟩
                · rw [if_neg c8] at H
                  have c8b0 : ((rd l0 x13_1) == (rd l1 x13_1)) = false := beq_eq_false_iff_ne.mpr c8
                  have c8b1 : ((rd l0 x13_1) != (rd l1 x13_1)) = true := bne_iff_ne.mpr c8
                  obtain rfl := Option.some.inj H
                  have p233 : 0 ≤ (x13_1 : Int) := of_decide_eq_true (by first | (with_reducible assumption) | assumption)
                  have q233 : x13_1 < (l0.length : Int) := of_decide_eq_true (by first | (with_reducible assumption) | assumption)
                  obtain ⟨ad233, e233, hx233_0⟩ := Kd.at_int HR0.out x13_1 p233 q233
                  cases e233
                  replace p233 := eq_true p233
                  replace q233 := eq_true q233
                  have p234 : 0 ≤ (x13_1 : Int) := of_decide_eq_true (by first | (with_reducible assumption) | assumption)
                  have q234 : x13_1 < (l1.length : Int) := of_decide_eq_true (by first | (with_reducible assumption) | assumption)
                  obtain ⟨ad234, e234, hx234_0⟩ := Kd.at_int HR1.out x13_1 p234 q234
                  cases e234
                  replace p234 := eq_true p234
                  replace q234 := eq_true q234
                  go_wp2
                  repeat (go_quiet (fail); try go_wp2)
                  go_ret
                  exact ⟨by first | rfl | (simp; done) | (simp [*]; done), by repeat (first | exact Drawn0.refl _ | apply Drawn0.step)⟩
              · rw [if_neg c7] at H
                exact absurd H (by simp)
            · rw [if_neg c6] at H
              exact absurd H (by simp)
          · rw [if_neg c5] at H
            exact absurd H (by simp)
        · rw [if_neg c4] at H
          have c4b0 : decide (x13_1 < (l0.length : Int)) = false := decide_eq_false c4
          clear c4
          obtain rfl := Option.some.inj H
          go_wp2
          repeat (go_quiet (fail); try go_wp2)
          go_ret
          exact ⟨by first | rfl | (simp; done) | (simp [*]; done), by repeat (first | exact Drawn0.refl _ | apply Drawn0.step)⟩
  · rw [if_neg c3] at H
    have c3b0 : ((l0.length : Int) == (l1.length : Int)) = false := beq_eq_false_iff_ne.mpr c3
    have c3b1 : ((l0.length : Int) != (l1.length : Int)) = true := bne_iff_ne.mpr c3
    have c3b2 : (l0.length == l1.length) = false := by first | simpa using c3 | (simp at c3 ⊢; omega)
    obtain rfl := Option.some.inj H
    go_enter Try.func98, Try.ntmps98
    go_wp2
    repeat (go_quiet (fail); try go_wp2)
    go_ret
    exact ⟨by first | rfl | (simp; done) | (simp [*]; done), by repeat (first | exact Drawn0.refl _ | apply Drawn0.step)⟩

/-! ### cover_check: function 97 -/
def cover_check.f (k : Nat) (l0_0 : List Int) (a0_1 : Int) : Option (Int) := (zbits_Cut.f k l0_0 a0_1).bind fun bt236 => (if bt236.2 = 0 then ((slices_Equal_uint64_uint64.f k bt236.1 l0_0).bind fun t240 => (if t240 = true then (some 0) else (some 9))) else (some bt236.2))
theorem cover_check.mono : ∀ a0 a1 k, LeO (cover_check.f k a0 a1) (cover_check.f (k + 1) a0 a1) := by
  intro a0 a1 k
  unfold cover_check.f
  repeat' first
      | (with_reducible exact slices_Equal_uint64_uint64.mono _ _ _)
      | (with_reducible exact zbits_Cut.mono _ _ _)
      | (with_reducible exact LeO.refl _)
      | (with_reducible exact LeO.none _)
      | (with_reducible refine LeO.ite ?_ ?_)
      | (with_reducible refine LeO.bind ?_ (fun _ => ?_))
      | exact slices_Equal_uint64_uint64.mono _ _ _
      | exact zbits_Cut.mono _ _ _
      | exact LeO.none _
      | refine LeO.ite ?_ ?_
      | refine LeO.bind ?_ (fun _ => ?_)
set_option maxHeartbeats 8000000 in
set_option maxRecDepth 100000 in
theorem cover_check.calls (k : Nat) (A0_0 : Option Addr) (c0_0 : Nat) (l0_0 : List Int) (a0_1 : Int) (r : Int) (w : World) (hr0_0 : Kd.C (Kd.int .u64) w A0_0 l0_0.length l0_0) (hc0_0 : l0_0.length ≤ c0_0) (h : cover_check.f k l0_0 a0_1 = some r) :
    Calls Try.prog 97 #[.agg #[.slice A0_0 l0_0.length c0_0, .int .i64 a0_1]] w fun e w' => e = .returned (.int .i64 r) ∧ Below w.heap.size w w' := by
  have hu89 := Try.underlying89
  have HR0_0 := Aside0.mk hr0_0
  have HC0_0 := Aside0.mk hc0_0
  clear hr0_0 hc0_0
  have HB := Aside0.mk (Below.refl w.heap.size w)
  have H : ((zbits_Cut.f k l0_0 a0_1).bind fun bt236 => (if bt236.2 = 0 then ((slices_Equal_uint64_uint64.f k bt236.1 l0_0).bind fun t240 => (if t240 = true then (some 0) else (some 9))) else (some bt236.2))) = some r := h
  clear h
  replace H := Option.bind_eq_some_iff.mp H
  obtain ⟨⟨t236, t237⟩, A20, H⟩ := H
  replace H : (if t237 = 0 then ((slices_Equal_uint64_uint64.f k t236 l0_0).bind fun t240 => (if t240 = true then (some 0) else (some 9))) else (some t237)) = some r := H
  have A2 := Aside0.mk A20
  clear A20
  by_cases c3 : t237 = 0
  · rw [if_pos c3] at H
    have c3b0 : (t237 == 0) = true := beq_iff_eq.mpr c3
    have c3b1 : (t237 != 0) = false := bne_eq_false_iff_eq.mpr c3
    clear c3
    replace H := Option.bind_eq_some_iff.mp H
    obtain ⟨t240, A40, H⟩ := H
    replace H : (if t240 = true then (some 0) else (some 9)) = some r := H
    have A4 := Aside0.mk A40
    clear A40
    by_cases c5 : t240 = true
    · subst c5
      have H1 : (some 0) = some r := by rw [if_pos rfl] at H; exact H
      clear H
      have H := H1
      clear H1
      obtain rfl := Option.some.inj H
      go_enter Try.func97, Try.ntmps97
      go_wp2_with (first | ((with_reducible refine gate_dst (N := 1) rfl ?_); refine box_event ?hg (N := 1) ?hd (cs := #[.slice A0_0 l0_0.length c0_0, .int .i64 a0_1]) (t := 89) ?hr ?_; (case hd => rfl); (case hg => rfl); (case hr => first | (go_simp; done) | (go_simp; rfl)); intro gb235 hg w6 hbox hb; have n0_ := Aside0.mk (below_step (by repeat (first | (with_reducible first | exact HB.out | apply below_alloc | apply pw_below_drewN | apply below_drew1) | exact HB.out)) hb); have n1_ := Aside0.mk (hbox); have n2_ := Aside0.mk ((by rw [hg]; exact (below_size (by repeat (first | (with_reducible first | exact HB.out | apply below_alloc | apply pw_below_drewN | apply below_drew1) | exact HB.out))) : w.heap.size ≤ gb235)); have n3_ := Aside0.mk ((by rw [hg]; exact (below_size (by repeat (first | (with_reducible first | exact HB.out | apply below_alloc | apply pw_below_drewN | apply below_drew1) | exact HB.out))) : w.heap.size ≤ gb235)); clear HB; have HB := n0_; have BK235 := n1_; have GW235 := n2_; have GE235 := n3_; clear n0_ n1_ n2_ n3_; clear hb hbox hg; have hcz7_0 : w6.cell? ⟨gb235, 0, none⟩ = some (.slice A0_0 l0_0.length c0_0) := (blk_cell BK235.out 0).trans rfl; have hcz7_1 : w6.cell? ⟨gb235, 1, none⟩ = some (.int .i64 a0_1) := (blk_cell BK235.out 1).trans rfl; have hfz7_0 := blk_frozen BK235.out 0; have hfz7_1 := blk_frozen BK235.out 1) | ((with_reducible refine gate_callee (f := 34) rfl ?_); refine goesL_ (some 10) rfl rfl Try.func34 (by kernel_rfl) rfl #[.slice A0_0 l0_0.length c0_0, .int .i64 a0_1] rfl (by (try simp only [List.map_toArray, List.map_cons, List.map_nil]); first | done | rfl | (simp only [List.length_drop, List.length_take]; rfl)) ?_; (with_reducible refine (zbits_Cut.calls k _ _ l0_0 a0_1 t236 t237 _ ?side1 ?side2 A2.out).mono ?_); (case side1 => repeat (first | exact (Kd.C_below HR0_0.out HB.out) | (with_reducible refine Kd.C_alloc ?_ _) | (with_reducible refine Kd.C_drewN ?_ _) | (with_reducible refine Kd.C_drew ?_))); (case side2 => exact HC0_0.out); rintro e w8 ⟨v238, rfl, ho0, hb⟩; refine ⟨_, rfl, ?_⟩; have n0_ := Aside0.mk (Kd.R_lower ho0 (below_size (by repeat (first | (with_reducible first | exact HB.out | apply below_alloc | apply pw_below_drewN | apply below_drew1 | refine below_set ?_ GE235.out) | exact HB.out)))); have n1_ := Aside0.mk (blk_below (g := gb235) (o := .cells #[.slice A0_0 l0_0.length c0_0, .int .i64 a0_1] 89 (0, 0)) (by (with_reducible repeat (first | refine blk_drewN ?_ _ | refine blk_drew ?_ | refine blk_alloc ?_ _)); exact BK235.out) hb); have n2_ := Aside0.mk (below_step (by repeat (first | (with_reducible first | exact HB.out | apply below_alloc | apply pw_below_drewN | apply below_drew1 | refine below_set ?_ GE235.out) | exact HB.out)) hb); clear BK235; clear HB; have HO239 := n0_; have BK235 := n1_; have HB := n2_; clear n0_ n1_ n2_; (try clear hb); (try clear hb2); (try clear hk); (try clear hi); (try clear ho0); have hcz9_0 : w8.cell? ⟨gb235, 0, none⟩ = some (.slice A0_0 l0_0.length c0_0) := (blk_cell BK235.out 0).trans rfl; have hcz9_1 : w8.cell? ⟨gb235, 1, none⟩ = some (.int .i64 a0_1) := (blk_cell BK235.out 1).trans rfl; have hfz9_0 := blk_frozen BK235.out 0; have hfz9_1 := blk_frozen BK235.out 1; obtain ⟨Ao10, co10, eo10⟩ := Kd.R_slice HO239.out; subst eo10) | ((with_reducible refine gate_callee (f := 98) rfl ?_); refine goesL_ (some 21) rfl rfl Try.func98 (by kernel_rfl) rfl #[.slice Ao10 t236.length co10, .slice A0_0 l0_0.length c0_0] rfl (by (try simp only [List.map_toArray, List.map_cons, List.map_nil]); first | done | rfl | (simp only [List.length_drop, List.length_take]; rfl)) ?_; (with_reducible refine (slices_Equal_uint64_uint64.calls k _ _ t236 _ _ l0_0 true _ ?side1 ?side2 ?side3 ?side4 A4.out).mono ?_); (case side1 => repeat (first | exact (Kd.R_reads' HO239.out).2.2 | (with_reducible refine Kd.C_alloc ?_ _) | (with_reducible refine Kd.C_drewN ?_ _) | (with_reducible refine Kd.C_drew ?_))); (case side2 => exact (Kd.R_reads' HO239.out).2.1); (case side3 => repeat (first | exact (Kd.C_below HR0_0.out HB.out) | (with_reducible refine Kd.C_alloc ?_ _) | (with_reducible refine Kd.C_drewN ?_ _) | (with_reducible refine Kd.C_drew ?_))); (case side4 => exact HC0_0.out); rintro e w' ⟨rfl, ⟨nd, rfl⟩⟩; refine ⟨_, rfl, ?_⟩))
      go_ret
      exact ⟨by first | rfl | (simp [errW_none, errW_some] <;> rfl) | (simp [*, errW_none, errW_some] <;> rfl), by repeat (first | (with_reducible first | exact HB.out | apply below_alloc | apply pw_below_drewN | apply below_drew1 | refine below_set ?_ GE235.out) | exact HB.out)⟩
    · replace c5 := Bool.eq_false_iff.mpr c5
      subst c5
      have H1 : (some 9) = some r := by rw [if_neg (show ¬ (false = true) by decide)] at H; exact H
      clear H
      have H := H1
      clear H1
      obtain rfl := Option.some.inj H
      go_enter Try.func97, Try.ntmps97
      go_wp2_with (first | ((with_reducible refine gate_dst (N := 1) rfl ?_); refine box_event ?hg (N := 1) ?hd (cs := #[.slice A0_0 l0_0.length c0_0, .int .i64 a0_1]) (t := 89) ?hr ?_; (case hd => rfl); (case hg => rfl); (case hr => first | (go_simp; done) | (go_simp; rfl)); intro gb235 hg w11 hbox hb; have n0_ := Aside0.mk (below_step (by repeat (first | (with_reducible first | exact HB.out | apply below_alloc | apply pw_below_drewN | apply below_drew1) | exact HB.out)) hb); have n1_ := Aside0.mk (hbox); have n2_ := Aside0.mk ((by rw [hg]; exact (below_size (by repeat (first | (with_reducible first | exact HB.out | apply below_alloc | apply pw_below_drewN | apply below_drew1) | exact HB.out))) : w.heap.size ≤ gb235)); have n3_ := Aside0.mk ((by rw [hg]; exact (below_size (by repeat (first | (with_reducible first | exact HB.out | apply below_alloc | apply pw_below_drewN | apply below_drew1) | exact HB.out))) : w.heap.size ≤ gb235)); clear HB; have HB := n0_; have BK235 := n1_; have GW235 := n2_; have GE235 := n3_; clear n0_ n1_ n2_ n3_; clear hb hbox hg; have hcz12_0 : w11.cell? ⟨gb235, 0, none⟩ = some (.slice A0_0 l0_0.length c0_0) := (blk_cell BK235.out 0).trans rfl; have hcz12_1 : w11.cell? ⟨gb235, 1, none⟩ = some (.int .i64 a0_1) := (blk_cell BK235.out 1).trans rfl; have hfz12_0 := blk_frozen BK235.out 0; have hfz12_1 := blk_frozen BK235.out 1) | ((with_reducible refine gate_callee (f := 34) rfl ?_); refine goesL_ (some 10) rfl rfl Try.func34 (by kernel_rfl) rfl #[.slice A0_0 l0_0.length c0_0, .int .i64 a0_1] rfl (by (try simp only [List.map_toArray, List.map_cons, List.map_nil]); first | done | rfl | (simp only [List.length_drop, List.length_take]; rfl)) ?_; (with_reducible refine (zbits_Cut.calls k _ _ l0_0 a0_1 t236 t237 _ ?side1 ?side2 A2.out).mono ?_); (case side1 => repeat (first | exact (Kd.C_below HR0_0.out HB.out) | (with_reducible refine Kd.C_alloc ?_ _) | (with_reducible refine Kd.C_drewN ?_ _) | (with_reducible refine Kd.C_drew ?_))); (case side2 => exact HC0_0.out); rintro e w13 ⟨v238, rfl, ho0, hb⟩; refine ⟨_, rfl, ?_⟩; have n0_ := Aside0.mk (Kd.R_lower ho0 (below_size (by repeat (first | (with_reducible first | exact HB.out | apply below_alloc | apply pw_below_drewN | apply below_drew1 | refine below_set ?_ GE235.out) | exact HB.out)))); have n1_ := Aside0.mk (blk_below (g := gb235) (o := .cells #[.slice A0_0 l0_0.length c0_0, .int .i64 a0_1] 89 (0, 0)) (by (with_reducible repeat (first | refine blk_drewN ?_ _ | refine blk_drew ?_ | refine blk_alloc ?_ _)); exact BK235.out) hb); have n2_ := Aside0.mk (below_step (by repeat (first | (with_reducible first | exact HB.out | apply below_alloc | apply pw_below_drewN | apply below_drew1 | refine below_set ?_ GE235.out) | exact HB.out)) hb); clear BK235; clear HB; have HO239 := n0_; have BK235 := n1_; have HB := n2_; clear n0_ n1_ n2_; (try clear hb); (try clear hb2); (try clear hk); (try clear hi); (try clear ho0); have hcz14_0 : w13.cell? ⟨gb235, 0, none⟩ = some (.slice A0_0 l0_0.length c0_0) := (blk_cell BK235.out 0).trans rfl; have hcz14_1 : w13.cell? ⟨gb235, 1, none⟩ = some (.int .i64 a0_1) := (blk_cell BK235.out 1).trans rfl; have hfz14_0 := blk_frozen BK235.out 0; have hfz14_1 := blk_frozen BK235.out 1; obtain ⟨Ao15, co15, eo15⟩ := Kd.R_slice HO239.out; subst eo15) | ((with_reducible refine gate_callee (f := 98) rfl ?_); refine goesL_ (some 21) rfl rfl Try.func98 (by kernel_rfl) rfl #[.slice Ao15 t236.length co15, .slice A0_0 l0_0.length c0_0] rfl (by (try simp only [List.map_toArray, List.map_cons, List.map_nil]); first | done | rfl | (simp only [List.length_drop, List.length_take]; rfl)) ?_; (with_reducible refine (slices_Equal_uint64_uint64.calls k _ _ t236 _ _ l0_0 false _ ?side1 ?side2 ?side3 ?side4 A4.out).mono ?_); (case side1 => repeat (first | exact (Kd.R_reads' HO239.out).2.2 | (with_reducible refine Kd.C_alloc ?_ _) | (with_reducible refine Kd.C_drewN ?_ _) | (with_reducible refine Kd.C_drew ?_))); (case side2 => exact (Kd.R_reads' HO239.out).2.1); (case side3 => repeat (first | exact (Kd.C_below HR0_0.out HB.out) | (with_reducible refine Kd.C_alloc ?_ _) | (with_reducible refine Kd.C_drewN ?_ _) | (with_reducible refine Kd.C_drew ?_))); (case side4 => exact HC0_0.out); rintro e w' ⟨rfl, ⟨nd, rfl⟩⟩; refine ⟨_, rfl, ?_⟩))
      go_ret
      exact ⟨by first | rfl | (simp [errW_none, errW_some] <;> rfl) | (simp [*, errW_none, errW_some] <;> rfl), by repeat (first | (with_reducible first | exact HB.out | apply below_alloc | apply pw_below_drewN | apply below_drew1 | refine below_set ?_ GE235.out) | exact HB.out)⟩
  · rw [if_neg c3] at H
    have c3b0 : (t237 == 0) = false := beq_eq_false_iff_ne.mpr c3
    have c3b1 : (t237 != 0) = true := bne_iff_ne.mpr c3
    obtain rfl := Option.some.inj H
    go_enter Try.func97, Try.ntmps97
    go_wp2_with (first | ((with_reducible refine gate_dst (N := 1) rfl ?_); refine box_event ?hg (N := 1) ?hd (cs := #[.slice A0_0 l0_0.length c0_0, .int .i64 a0_1]) (t := 89) ?hr ?_; (case hd => rfl); (case hg => rfl); (case hr => first | (go_simp; done) | (go_simp; rfl)); intro gb235 hg w16 hbox hb; have n0_ := Aside0.mk (below_step (by repeat (first | (with_reducible first | exact HB.out | apply below_alloc | apply pw_below_drewN | apply below_drew1) | exact HB.out)) hb); have n1_ := Aside0.mk (hbox); have n2_ := Aside0.mk ((by rw [hg]; exact (below_size (by repeat (first | (with_reducible first | exact HB.out | apply below_alloc | apply pw_below_drewN | apply below_drew1) | exact HB.out))) : w.heap.size ≤ gb235)); have n3_ := Aside0.mk ((by rw [hg]; exact (below_size (by repeat (first | (with_reducible first | exact HB.out | apply below_alloc | apply pw_below_drewN | apply below_drew1) | exact HB.out))) : w.heap.size ≤ gb235)); clear HB; have HB := n0_; have BK235 := n1_; have GW235 := n2_; have GE235 := n3_; clear n0_ n1_ n2_ n3_; clear hb hbox hg; have hcz17_0 : w16.cell? ⟨gb235, 0, none⟩ = some (.slice A0_0 l0_0.length c0_0) := (blk_cell BK235.out 0).trans rfl; have hcz17_1 : w16.cell? ⟨gb235, 1, none⟩ = some (.int .i64 a0_1) := (blk_cell BK235.out 1).trans rfl; have hfz17_0 := blk_frozen BK235.out 0; have hfz17_1 := blk_frozen BK235.out 1) | ((with_reducible refine gate_callee (f := 34) rfl ?_); refine goesL_ (some 10) rfl rfl Try.func34 (by kernel_rfl) rfl #[.slice A0_0 l0_0.length c0_0, .int .i64 a0_1] rfl (by (try simp only [List.map_toArray, List.map_cons, List.map_nil]); first | done | rfl | (simp only [List.length_drop, List.length_take]; rfl)) ?_; (with_reducible refine (zbits_Cut.calls k _ _ l0_0 a0_1 t236 t237 _ ?side1 ?side2 A2.out).mono ?_); (case side1 => repeat (first | exact (Kd.C_below HR0_0.out HB.out) | (with_reducible refine Kd.C_alloc ?_ _) | (with_reducible refine Kd.C_drewN ?_ _) | (with_reducible refine Kd.C_drew ?_))); (case side2 => exact HC0_0.out); rintro e w18 ⟨v238, rfl, ho0, hb⟩; refine ⟨_, rfl, ?_⟩; have n0_ := Aside0.mk (Kd.R_lower ho0 (below_size (by repeat (first | (with_reducible first | exact HB.out | apply below_alloc | apply pw_below_drewN | apply below_drew1 | refine below_set ?_ GE235.out) | exact HB.out)))); have n1_ := Aside0.mk (blk_below (g := gb235) (o := .cells #[.slice A0_0 l0_0.length c0_0, .int .i64 a0_1] 89 (0, 0)) (by (with_reducible repeat (first | refine blk_drewN ?_ _ | refine blk_drew ?_ | refine blk_alloc ?_ _)); exact BK235.out) hb); have n2_ := Aside0.mk (below_step (by repeat (first | (with_reducible first | exact HB.out | apply below_alloc | apply pw_below_drewN | apply below_drew1 | refine below_set ?_ GE235.out) | exact HB.out)) hb); clear BK235; clear HB; have HO239 := n0_; have BK235 := n1_; have HB := n2_; clear n0_ n1_ n2_; (try clear hb); (try clear hb2); (try clear hk); (try clear hi); (try clear ho0)))
    go_ret
    exact ⟨by first | rfl | (simp [errW_none, errW_some] <;> rfl) | (simp [*, errW_none, errW_some] <;> rfl), by repeat (first | (with_reducible first | exact HB.out | apply below_alloc | apply pw_below_drewN | apply below_drew1 | refine below_set ?_ GE235.out) | exact HB.out)⟩

/-! ### cover_Range: function 70 -/
def cover_Range.f (k : Nat) (l0_0 : List Int) (a0_1 : Int) : Option (List Int × List Int × Int) := (cover_check.f k l0_0 a0_1).bind fun t242 => (if t242 = 0 then ((box_Cell.f k l0_0 a0_1).bind fun bt243 => (some (bt243.1, bt243.2.1, 0))) else (some (([] : List Int), ([] : List Int), t242)))
theorem cover_Range.mono : ∀ a0 a1 k, LeO (cover_Range.f k a0 a1) (cover_Range.f (k + 1) a0 a1) := by
  intro a0 a1 k
  unfold cover_Range.f
  repeat' first
      | (with_reducible exact box_Cell.mono _ _ _)
      | (with_reducible exact cover_check.mono _ _ _)
      | (with_reducible exact LeO.refl _)
      | (with_reducible exact LeO.none _)
      | (with_reducible refine LeO.ite ?_ ?_)
      | (with_reducible refine LeO.bind ?_ (fun _ => ?_))
      | exact box_Cell.mono _ _ _
      | exact cover_check.mono _ _ _
      | exact LeO.none _
      | refine LeO.ite ?_ ?_
      | refine LeO.bind ?_ (fun _ => ?_)
set_option maxHeartbeats 8000000 in
set_option maxRecDepth 100000 in
theorem cover_Range.calls (k : Nat) (A0_0 : Option Addr) (c0_0 : Nat) (l0_0 : List Int) (a0_1 : Int) (r1 : List Int) (r2 : List Int) (r3 : Int) (w : World) (hr0_0 : Kd.C (Kd.int .u64) w A0_0 l0_0.length l0_0) (hc0_0 : l0_0.length ≤ c0_0) (h : cover_Range.f k l0_0 a0_1 = some (r1, r2, r3)) :
    Calls Try.prog 70 #[.agg #[.slice A0_0 l0_0.length c0_0, .int .i64 a0_1]] w fun e w' => ∃ v0_ v1_ : Value, e = .returned (.tuple #[v0_, v1_, .int .i64 r3]) ∧ Kd.R (Kd.int .u64) 30 w' w.heap.size (fun k_ => some k_ ≠ (v1_ : Value).ownBlock) v0_ r1 ∧ Kd.R (Kd.int .u64) 30 w' w.heap.size (fun k_ => some k_ ≠ (v0_ : Value).ownBlock) v1_ r2 ∧ Below w.heap.size w w' := by
  have hu89 := Try.underlying89
  have hu32 := Try.underlying32
  have HR0_0 := Aside0.mk hr0_0
  have HC0_0 := Aside0.mk hc0_0
  clear hr0_0 hc0_0
  have HB := Aside0.mk (Below.refl w.heap.size w)
  have H : ((cover_check.f k l0_0 a0_1).bind fun t242 => (if t242 = 0 then ((box_Cell.f k l0_0 a0_1).bind fun bt243 => (some (bt243.1, bt243.2.1, 0))) else (some (([] : List Int), ([] : List Int), t242)))) = some (r1, r2, r3) := h
  clear h
  replace H := Option.bind_eq_some_iff.mp H
  obtain ⟨t242, A20, H⟩ := H
  replace H : (if t242 = 0 then ((box_Cell.f k l0_0 a0_1).bind fun bt243 => (some (bt243.1, bt243.2.1, 0))) else (some (([] : List Int), ([] : List Int), t242))) = some (r1, r2, r3) := H
  have A2 := Aside0.mk A20
  clear A20
  by_cases c3 : t242 = 0
  · rw [if_pos c3] at H
    have c3b0 : (t242 == 0) = true := beq_iff_eq.mpr c3
    have c3b1 : (t242 != 0) = false := bne_eq_false_iff_eq.mpr c3
    clear c3
    replace H := Option.bind_eq_some_iff.mp H
    obtain ⟨⟨t243, t246, t249⟩, A40, H⟩ := H
    replace H : (some (t243, t246, 0)) = some (r1, r2, r3) := H
    have A4 := Aside0.mk A40
    clear A40
    simp only [Option.some.injEq, Prod.mk.injEq] at H
    obtain ⟨rfl, rfl, rfl⟩ := H
    go_enter Try.func70, Try.ntmps70
    go_wp2_with (first | ((with_reducible refine gate_dst (N := 1) rfl ?_); refine box_event ?hg (N := 1) ?hd (cs := #[.slice A0_0 l0_0.length c0_0, .int .i64 a0_1]) (t := 89) ?hr ?_; (case hd => rfl); (case hg => rfl); (case hr => first | (go_simp; done) | (go_simp; rfl)); intro gb241 hg w5 hbox hb; have n0_ := Aside0.mk (below_step (by repeat (first | (with_reducible first | exact HB.out | apply below_alloc | apply pw_below_drewN | apply below_drew1) | exact HB.out)) hb); have n1_ := Aside0.mk (hbox); have n2_ := Aside0.mk ((by rw [hg]; exact (below_size (by repeat (first | (with_reducible first | exact HB.out | apply below_alloc | apply pw_below_drewN | apply below_drew1) | exact HB.out))) : w.heap.size ≤ gb241)); have n3_ := Aside0.mk ((by rw [hg]; exact (below_size (by repeat (first | (with_reducible first | exact HB.out | apply below_alloc | apply pw_below_drewN | apply below_drew1) | exact HB.out))) : w.heap.size ≤ gb241)); clear HB; have HB := n0_; have BK241 := n1_; have GW241 := n2_; have GE241 := n3_; clear n0_ n1_ n2_ n3_; clear hb hbox hg; have hcz6_0 : w5.cell? ⟨gb241, 0, none⟩ = some (.slice A0_0 l0_0.length c0_0) := (blk_cell BK241.out 0).trans rfl; have hcz6_1 : w5.cell? ⟨gb241, 1, none⟩ = some (.int .i64 a0_1) := (blk_cell BK241.out 1).trans rfl; have hfz6_0 := blk_frozen BK241.out 0; have hfz6_1 := blk_frozen BK241.out 1) | (go_at_call 97; (with_reducible refine (cover_check.calls k _ _ l0_0 a0_1 t242 _ ?side1 ?side2 A2.out).mono ?_); (case side1 => repeat (first | exact (Kd.C_below HR0_0.out HB.out) | (with_reducible refine Kd.C_alloc ?_ _) | (with_reducible refine Kd.C_drewN ?_ _) | (with_reducible refine Kd.C_drew ?_))); (case side2 => exact HC0_0.out); rintro e w7 ⟨rfl, hb⟩; have n0_ := Aside0.mk (blk_below (g := gb241) (o := .cells #[.slice A0_0 l0_0.length c0_0, .int .i64 a0_1] 89 (0, 0)) (by (with_reducible repeat (first | refine blk_drewN ?_ _ | refine blk_drew ?_ | refine blk_alloc ?_ _)); exact BK241.out) hb); have n1_ := Aside0.mk (below_step (by repeat (first | (with_reducible first | exact HB.out | apply below_alloc | apply pw_below_drewN | apply below_drew1 | refine below_set ?_ GE241.out) | exact HB.out)) hb); clear BK241; clear HB; have BK241 := n0_; have HB := n1_; clear n0_ n1_; (try clear hb); (try clear hb2); (try clear hk); (try clear hi); have hcz8_0 : w7.cell? ⟨gb241, 0, none⟩ = some (.slice A0_0 l0_0.length c0_0) := (blk_cell BK241.out 0).trans rfl; have hcz8_1 : w7.cell? ⟨gb241, 1, none⟩ = some (.int .i64 a0_1) := (blk_cell BK241.out 1).trans rfl; have hfz8_0 := blk_frozen BK241.out 0; have hfz8_1 := blk_frozen BK241.out 1) | (go_at_call 26; (with_reducible refine (box_Cell.calls k _ _ l0_0 a0_1 t243 t246 t249 _ ?side1 ?side2 A4.out).mono ?_); (case side1 => repeat (first | exact (Kd.C_below HR0_0.out HB.out) | (with_reducible refine Kd.C_alloc ?_ _) | (with_reducible refine Kd.C_drewN ?_ _) | (with_reducible refine Kd.C_drew ?_))); (case side2 => exact HC0_0.out); rintro e w9 ⟨v244, v247, rfl, ho0, ho1, hb⟩; have n0_ := Aside0.mk (Kd.R_lower ho0 (below_size (by repeat (first | (with_reducible first | exact HB.out | apply below_alloc | apply pw_below_drewN | apply below_drew1 | refine below_set ?_ GE241.out) | exact HB.out)))); have n1_ := Aside0.mk (Kd.R_lower ho1 (below_size (by repeat (first | (with_reducible first | exact HB.out | apply below_alloc | apply pw_below_drewN | apply below_drew1 | refine below_set ?_ GE241.out) | exact HB.out)))); have n2_ := Aside0.mk (blk_below (g := gb241) (o := .cells #[.slice A0_0 l0_0.length c0_0, .int .i64 a0_1] 89 (0, 0)) (by (with_reducible repeat (first | refine blk_drewN ?_ _ | refine blk_drew ?_ | refine blk_alloc ?_ _)); exact BK241.out) hb); have n3_ := Aside0.mk (below_step (by repeat (first | (with_reducible first | exact HB.out | apply below_alloc | apply pw_below_drewN | apply below_drew1 | refine below_set ?_ GE241.out) | exact HB.out)) hb); clear BK241; clear HB; have HO245 := n0_; have HO248 := n1_; have BK241 := n2_; have HB := n3_; clear n0_ n1_ n2_ n3_; (try clear hb); (try clear hb2); (try clear hk); (try clear hi); (try clear ho0); (try clear ho1)) | ((with_reducible refine gate_dst (N := 6) rfl ?_); refine box_event ?hg (N := 6) ?hd (cs := #[.slice none 0 0, .slice none 0 0]) (t := 32) ?hr ?_; (case hd => rfl); (case hg => rfl); (case hr => first | (go_simp; done) | (go_simp; rfl)); intro gb250 hg w10 hbox hb; have n0_ := Aside0.mk (Kd.R_below (by (with_reducible repeat (first | apply Kd.R_alloc | apply Kd.R_drewN | apply Kd.R_drew)); exact HO245.out) hb); have n1_ := Aside0.mk (Kd.R_below (by (with_reducible repeat (first | apply Kd.R_alloc | apply Kd.R_drewN | apply Kd.R_drew)); exact HO248.out) hb); have n2_ := Aside0.mk (blk_below (g := gb241) (o := .cells #[.slice A0_0 l0_0.length c0_0, .int .i64 a0_1] 89 (0, 0)) (by (with_reducible repeat (first | refine blk_drewN ?_ _ | refine blk_drew ?_ | refine blk_alloc ?_ _)); exact BK241.out) hb); have n3_ := Aside0.mk (below_step (by repeat (first | (with_reducible first | exact HB.out | apply below_alloc | apply pw_below_drewN | apply below_drew1 | refine below_set ?_ GE241.out) | exact HB.out)) hb); have n4_ := Aside0.mk (hbox); have n5_ := Aside0.mk ((by rw [hg]; exact (below_size (by repeat (first | (with_reducible first | exact HB.out | apply below_alloc | apply pw_below_drewN | apply below_drew1 | refine below_set ?_ GE241.out) | exact HB.out))) : w.heap.size ≤ gb250)); have n6_ := Aside0.mk ((by rw [hg]; exact (below_size (by repeat (first | (with_reducible first | exact HB.out | apply below_alloc | apply pw_below_drewN | apply below_drew1 | refine below_set ?_ GE241.out) | exact HB.out))) : w.heap.size ≤ gb250)); have n7_ := Aside0.mk ((by rw [hg]; exact Nat.ne_of_lt (blk_lt (g := gb241) (o := .cells #[.slice A0_0 l0_0.length c0_0, .int .i64 a0_1] 89 (0, 0)) (by (with_reducible repeat (first | refine blk_drewN ?_ _ | refine blk_drew ?_ | refine blk_alloc ?_ _)); exact BK241.out)) : gb241 ≠ gb250)); have n8_ := Aside0.mk ((by rw [hg]; exact Nat.ne_of_gt (blk_lt (g := gb241) (o := .cells #[.slice A0_0 l0_0.length c0_0, .int .i64 a0_1] 89 (0, 0)) (by (with_reducible repeat (first | refine blk_drewN ?_ _ | refine blk_drew ?_ | refine blk_alloc ?_ _)); exact BK241.out)) : gb250 ≠ gb241)); clear HO245; clear HO248; clear BK241; clear HB; have HO245 := n0_; have HO248 := n1_; have BK241 := n2_; have HB := n3_; have BK250 := n4_; have GW250 := n5_; have GE250 := n6_; have NB241_250 := n7_; have NB250_241 := n8_; clear n0_ n1_ n2_ n3_ n4_ n5_ n6_ n7_ n8_; clear hb hbox hg; obtain ⟨Ao11, co11, eo11⟩ := Kd.R_slice HO245.out; subst eo11; have hnb12 := NB250_241.out; have hnc12 := NB241_250.out; have hcz13_0 : w10.cell? ⟨gb250, 0, none⟩ = some (.slice none 0 0) := (blk_cell BK250.out 0).trans rfl; have hcz13_1 : w10.cell? ⟨gb250, 1, none⟩ = some (.slice none 0 0) := (blk_cell BK250.out 1).trans rfl; have hfz13_0 := blk_frozen BK250.out 0; have hfz13_1 := blk_frozen BK250.out 1; obtain ⟨Ao14, co14, eo14⟩ := Kd.R_slice HO248.out; subst eo14))
    repeat (go_quiet (first | ((with_reducible refine gate_dst (N := 1) rfl ?_); refine box_event ?hg (N := 1) ?hd (cs := #[.slice A0_0 l0_0.length c0_0, .int .i64 a0_1]) (t := 89) ?hr ?_; (case hd => rfl); (case hg => rfl); (case hr => first | (go_simp; done) | (go_simp; rfl)); intro gb241 hg w5 hbox hb; have n0_ := Aside0.mk (below_step (by repeat (first | (with_reducible first | exact HB.out | apply below_alloc | apply pw_below_drewN | apply below_drew1) | exact HB.out)) hb); have n1_ := Aside0.mk (hbox); have n2_ := Aside0.mk ((by rw [hg]; exact (below_size (by repeat (first | (with_reducible first | exact HB.out | apply below_alloc | apply pw_below_drewN | apply below_drew1) | exact HB.out))) : w.heap.size ≤ gb241)); have n3_ := Aside0.mk ((by rw [hg]; exact (below_size (by repeat (first | (with_reducible first | exact HB.out | apply below_alloc | apply pw_below_drewN | apply below_drew1) | exact HB.out))) : w.heap.size ≤ gb241)); clear HB; have HB := n0_; have BK241 := n1_; have GW241 := n2_; have GE241 := n3_; clear n0_ n1_ n2_ n3_; clear hb hbox hg; have hcz6_0 : w5.cell? ⟨gb241, 0, none⟩ = some (.slice A0_0 l0_0.length c0_0) := (blk_cell BK241.out 0).trans rfl; have hcz6_1 : w5.cell? ⟨gb241, 1, none⟩ = some (.int .i64 a0_1) := (blk_cell BK241.out 1).trans rfl; have hfz6_0 := blk_frozen BK241.out 0; have hfz6_1 := blk_frozen BK241.out 1) | (go_at_call 97; (with_reducible refine (cover_check.calls k _ _ l0_0 a0_1 t242 _ ?side1 ?side2 A2.out).mono ?_); (case side1 => repeat (first | exact (Kd.C_below HR0_0.out HB.out) | (with_reducible refine Kd.C_alloc ?_ _) | (with_reducible refine Kd.C_drewN ?_ _) | (with_reducible refine Kd.C_drew ?_))); (case side2 => exact HC0_0.out); rintro e w7 ⟨rfl, hb⟩; have n0_ := Aside0.mk (blk_below (g := gb241) (o := .cells #[.slice A0_0 l0_0.length c0_0, .int .i64 a0_1] 89 (0, 0)) (by (with_reducible repeat (first | refine blk_drewN ?_ _ | refine blk_drew ?_ | refine blk_alloc ?_ _)); exact BK241.out) hb); have n1_ := Aside0.mk (below_step (by repeat (first | (with_reducible first | exact HB.out | apply below_alloc | apply pw_below_drewN | apply below_drew1 | refine below_set ?_ GE241.out) | exact HB.out)) hb); clear BK241; clear HB; have BK241 := n0_; have HB := n1_; clear n0_ n1_; (try clear hb); (try clear hb2); (try clear hk); (try clear hi); have hcz8_0 : w7.cell? ⟨gb241, 0, none⟩ = some (.slice A0_0 l0_0.length c0_0) := (blk_cell BK241.out 0).trans rfl; have hcz8_1 : w7.cell? ⟨gb241, 1, none⟩ = some (.int .i64 a0_1) := (blk_cell BK241.out 1).trans rfl; have hfz8_0 := blk_frozen BK241.out 0; have hfz8_1 := blk_frozen BK241.out 1) | (go_at_call 26; (with_reducible refine (box_Cell.calls k _ _ l0_0 a0_1 t243 t246 t249 _ ?side1 ?side2 A4.out).mono ?_); (case side1 => repeat (first | exact (Kd.C_below HR0_0.out HB.out) | (with_reducible refine Kd.C_alloc ?_ _) | (with_reducible refine Kd.C_drewN ?_ _) | (with_reducible refine Kd.C_drew ?_))); (case side2 => exact HC0_0.out); rintro e w9 ⟨v244, v247, rfl, ho0, ho1, hb⟩; have n0_ := Aside0.mk (Kd.R_lower ho0 (below_size (by repeat (first | (with_reducible first | exact HB.out | apply below_alloc | apply pw_below_drewN | apply below_drew1 | refine below_set ?_ GE241.out) | exact HB.out)))); have n1_ := Aside0.mk (Kd.R_lower ho1 (below_size (by repeat (first | (with_reducible first | exact HB.out | apply below_alloc | apply pw_below_drewN | apply below_drew1 | refine below_set ?_ GE241.out) | exact HB.out)))); have n2_ := Aside0.mk (blk_below (g := gb241) (o := .cells #[.slice A0_0 l0_0.length c0_0, .int .i64 a0_1] 89 (0, 0)) (by (with_reducible repeat (first | refine blk_drewN ?_ _ | refine blk_drew ?_ | refine blk_alloc ?_ _)); exact BK241.out) hb); have n3_ := Aside0.mk (below_step (by repeat (first | (with_reducible first | exact HB.out | apply below_alloc | apply pw_below_drewN | apply below_drew1 | refine below_set ?_ GE241.out) | exact HB.out)) hb); clear BK241; clear HB; have HO245 := n0_; have HO248 := n1_; have BK241 := n2_; have HB := n3_; clear n0_ n1_ n2_ n3_; (try clear hb); (try clear hb2); (try clear hk); (try clear hi); (try clear ho0); (try clear ho1)) | ((with_reducible refine gate_dst (N := 6) rfl ?_); refine box_event ?hg (N := 6) ?hd (cs := #[.slice none 0 0, .slice none 0 0]) (t := 32) ?hr ?_; (case hd => rfl); (case hg => rfl); (case hr => first | (go_simp; done) | (go_simp; rfl)); intro gb250 hg w10 hbox hb; have n0_ := Aside0.mk (Kd.R_below (by (with_reducible repeat (first | apply Kd.R_alloc | apply Kd.R_drewN | apply Kd.R_drew)); exact HO245.out) hb); have n1_ := Aside0.mk (Kd.R_below (by (with_reducible repeat (first | apply Kd.R_alloc | apply Kd.R_drewN | apply Kd.R_drew)); exact HO248.out) hb); have n2_ := Aside0.mk (blk_below (g := gb241) (o := .cells #[.slice A0_0 l0_0.length c0_0, .int .i64 a0_1] 89 (0, 0)) (by (with_reducible repeat (first | refine blk_drewN ?_ _ | refine blk_drew ?_ | refine blk_alloc ?_ _)); exact BK241.out) hb); have n3_ := Aside0.mk (below_step (by repeat (first | (with_reducible first | exact HB.out | apply below_alloc | apply pw_below_drewN | apply below_drew1 | refine below_set ?_ GE241.out) | exact HB.out)) hb); have n4_ := Aside0.mk (hbox); have n5_ := Aside0.mk ((by rw [hg]; exact (below_size (by repeat (first | (with_reducible first | exact HB.out | apply below_alloc | apply pw_below_drewN | apply below_drew1 | refine below_set ?_ GE241.out) | exact HB.out))) : w.heap.size ≤ gb250)); have n6_ := Aside0.mk ((by rw [hg]; exact (below_size (by repeat (first | (with_reducible first | exact HB.out | apply below_alloc | apply pw_below_drewN | apply below_drew1 | refine below_set ?_ GE241.out) | exact HB.out))) : w.heap.size ≤ gb250)); have n7_ := Aside0.mk ((by rw [hg]; exact Nat.ne_of_lt (blk_lt (g := gb241) (o := .cells #[.slice A0_0 l0_0.length c0_0, .int .i64 a0_1] 89 (0, 0)) (by (with_reducible repeat (first | refine blk_drewN ?_ _ | refine blk_drew ?_ | refine blk_alloc ?_ _)); exact BK241.out)) : gb241 ≠ gb250)); have n8_ := Aside0.mk ((by rw [hg]; exact Nat.ne_of_gt (blk_lt (g := gb241) (o := .cells #[.slice A0_0 l0_0.length c0_0, .int .i64 a0_1] 89 (0, 0)) (by (with_reducible repeat (first | refine blk_drewN ?_ _ | refine blk_drew ?_ | refine blk_alloc ?_ _)); exact BK241.out)) : gb250 ≠ gb241)); clear HO245; clear HO248; clear BK241; clear HB; have HO245 := n0_; have HO248 := n1_; have BK241 := n2_; have HB := n3_; have BK250 := n4_; have GW250 := n5_; have GE250 := n6_; have NB241_250 := n7_; have NB250_241 := n8_; clear n0_ n1_ n2_ n3_ n4_ n5_ n6_ n7_ n8_; clear hb hbox hg; obtain ⟨Ao11, co11, eo11⟩ := Kd.R_slice HO245.out; subst eo11; have hnb12 := NB250_241.out; have hnc12 := NB241_250.out; have hcz13_0 : w10.cell? ⟨gb250, 0, none⟩ = some (.slice none 0 0) := (blk_cell BK250.out 0).trans rfl; have hcz13_1 : w10.cell? ⟨gb250, 1, none⟩ = some (.slice none 0 0) := (blk_cell BK250.out 1).trans rfl; have hfz13_0 := blk_frozen BK250.out 0; have hfz13_1 := blk_frozen BK250.out 1; obtain ⟨Ao14, co14, eo14⟩ := Kd.R_slice HO248.out; subst eo14)); try go_wp2_with (first | ((with_reducible refine gate_dst (N := 1) rfl ?_); refine box_event ?hg (N := 1) ?hd (cs := #[.slice A0_0 l0_0.length c0_0, .int .i64 a0_1]) (t := 89) ?hr ?_; (case hd => rfl); (case hg => rfl); (case hr => first | (go_simp; done) | (go_simp; rfl)); intro gb241 hg w5 hbox hb; have n0_ := Aside0.mk (below_step (by repeat (first | (with_reducible first | exact HB.out | apply below_alloc | apply pw_below_drewN | apply below_drew1) | exact HB.out)) hb); have n1_ := Aside0.mk (hbox); have n2_ := Aside0.mk ((by rw [hg]; exact (below_size (by repeat (first | (with_reducible first | exact HB.out | apply below_alloc | apply pw_below_drewN | apply below_drew1) | exact HB.out))) : w.heap.size ≤ gb241)); have n3_ := Aside0.mk ((by rw [hg]; exact (below_size (by repeat (first | (with_reducible first | exact HB.out | apply below_alloc | apply pw_below_drewN | apply below_drew1) | exact HB.out))) : w.heap.size ≤ gb241)); clear HB; have HB := n0_; have BK241 := n1_; have GW241 := n2_; have GE241 := n3_; clear n0_ n1_ n2_ n3_; clear hb hbox hg; have hcz6_0 : w5.cell? ⟨gb241, 0, none⟩ = some (.slice A0_0 l0_0.length c0_0) := (blk_cell BK241.out 0).trans rfl; have hcz6_1 : w5.cell? ⟨gb241, 1, none⟩ = some (.int .i64 a0_1) := (blk_cell BK241.out 1).trans rfl; have hfz6_0 := blk_frozen BK241.out 0; have hfz6_1 := blk_frozen BK241.out 1) | (go_at_call 97; (with_reducible refine (cover_check.calls k _ _ l0_0 a0_1 t242 _ ?side1 ?side2 A2.out).mono ?_); (case side1 => repeat (first | exact (Kd.C_below HR0_0.out HB.out) | (with_reducible refine Kd.C_alloc ?_ _) | (with_reducible refine Kd.C_drewN ?_ _) | (with_reducible refine Kd.C_drew ?_))); (case side2 => exact HC0_0.out); rintro e w7 ⟨rfl, hb⟩; have n0_ := Aside0.mk (blk_below (g := gb241) (o := .cells #[.slice A0_0 l0_0.length c0_0, .int .i64 a0_1] 89 (0, 0)) (by (with_reducible repeat (first | refine blk_drewN ?_ _ | refine blk_drew ?_ | refine blk_alloc ?_ _)); exact BK241.out) hb); have n1_ := Aside0.mk (below_step (by repeat (first | (with_reducible first | exact HB.out | apply below_alloc | apply pw_below_drewN | apply below_drew1 | refine below_set ?_ GE241.out) | exact HB.out)) hb); clear BK241; clear HB; have BK241 := n0_; have HB := n1_; clear n0_ n1_; (try clear hb); (try clear hb2); (try clear hk); (try clear hi); have hcz8_0 : w7.cell? ⟨gb241, 0, none⟩ = some (.slice A0_0 l0_0.length c0_0) := (blk_cell BK241.out 0).trans rfl; have hcz8_1 : w7.cell? ⟨gb241, 1, none⟩ = some (.int .i64 a0_1) := (blk_cell BK241.out 1).trans rfl; have hfz8_0 := blk_frozen BK241.out 0; have hfz8_1 := blk_frozen BK241.out 1) | (go_at_call 26; (with_reducible refine (box_Cell.calls k _ _ l0_0 a0_1 t243 t246 t249 _ ?side1 ?side2 A4.out).mono ?_); (case side1 => repeat (first | exact (Kd.C_below HR0_0.out HB.out) | (with_reducible refine Kd.C_alloc ?_ _) | (with_reducible refine Kd.C_drewN ?_ _) | (with_reducible refine Kd.C_drew ?_))); (case side2 => exact HC0_0.out); rintro e w9 ⟨v244, v247, rfl, ho0, ho1, hb⟩; have n0_ := Aside0.mk (Kd.R_lower ho0 (below_size (by repeat (first | (with_reducible first | exact HB.out | apply below_alloc | apply pw_below_drewN | apply below_drew1 | refine below_set ?_ GE241.out) | exact HB.out)))); have n1_ := Aside0.mk (Kd.R_lower ho1 (below_size (by repeat (first | (with_reducible first | exact HB.out | apply below_alloc | apply pw_below_drewN | apply below_drew1 | refine below_set ?_ GE241.out) | exact HB.out)))); have n2_ := Aside0.mk (blk_below (g := gb241) (o := .cells #[.slice A0_0 l0_0.length c0_0, .int .i64 a0_1] 89 (0, 0)) (by (with_reducible repeat (first | refine blk_drewN ?_ _ | refine blk_drew ?_ | refine blk_alloc ?_ _)); exact BK241.out) hb); have n3_ := Aside0.mk (below_step (by repeat (first | (with_reducible first | exact HB.out | apply below_alloc | apply pw_below_drewN | apply below_drew1 | refine below_set ?_ GE241.out) | exact HB.out)) hb); clear BK241; clear HB; have HO245 := n0_; have HO248 := n1_; have BK241 := n2_; have HB := n3_; clear n0_ n1_ n2_ n3_; (try clear hb); (try clear hb2); (try clear hk); (try clear hi); (try clear ho0); (try clear ho1)) | ((with_reducible refine gate_dst (N := 6) rfl ?_); refine box_event ?hg (N := 6) ?hd (cs := #[.slice none 0 0, .slice none 0 0]) (t := 32) ?hr ?_; (case hd => rfl); (case hg => rfl); (case hr => first | (go_simp; done) | (go_simp; rfl)); intro gb250 hg w10 hbox hb; have n0_ := Aside0.mk (Kd.R_below (by (with_reducible repeat (first | apply Kd.R_alloc | apply Kd.R_drewN | apply Kd.R_drew)); exact HO245.out) hb); have n1_ := Aside0.mk (Kd.R_below (by (with_reducible repeat (first | apply Kd.R_alloc | apply Kd.R_drewN | apply Kd.R_drew)); exact HO248.out) hb); have n2_ := Aside0.mk (blk_below (g := gb241) (o := .cells #[.slice A0_0 l0_0.length c0_0, .int .i64 a0_1] 89 (0, 0)) (by (with_reducible repeat (first | refine blk_drewN ?_ _ | refine blk_drew ?_ | refine blk_alloc ?_ _)); exact BK241.out) hb); have n3_ := Aside0.mk (below_step (by repeat (first | (with_reducible first | exact HB.out | apply below_alloc | apply pw_below_drewN | apply below_drew1 | refine below_set ?_ GE241.out) | exact HB.out)) hb); have n4_ := Aside0.mk (hbox); have n5_ := Aside0.mk ((by rw [hg]; exact (below_size (by repeat (first | (with_reducible first | exact HB.out | apply below_alloc | apply pw_below_drewN | apply below_drew1 | refine below_set ?_ GE241.out) | exact HB.out))) : w.heap.size ≤ gb250)); have n6_ := Aside0.mk ((by rw [hg]; exact (below_size (by repeat (first | (with_reducible first | exact HB.out | apply below_alloc | apply pw_below_drewN | apply below_drew1 | refine below_set ?_ GE241.out) | exact HB.out))) : w.heap.size ≤ gb250)); have n7_ := Aside0.mk ((by rw [hg]; exact Nat.ne_of_lt (blk_lt (g := gb241) (o := .cells #[.slice A0_0 l0_0.length c0_0, .int .i64 a0_1] 89 (0, 0)) (by (with_reducible repeat (first | refine blk_drewN ?_ _ | refine blk_drew ?_ | refine blk_alloc ?_ _)); exact BK241.out)) : gb241 ≠ gb250)); have n8_ := Aside0.mk ((by rw [hg]; exact Nat.ne_of_gt (blk_lt (g := gb241) (o := .cells #[.slice A0_0 l0_0.length c0_0, .int .i64 a0_1] 89 (0, 0)) (by (with_reducible repeat (first | refine blk_drewN ?_ _ | refine blk_drew ?_ | refine blk_alloc ?_ _)); exact BK241.out)) : gb250 ≠ gb241)); clear HO245; clear HO248; clear BK241; clear HB; have HO245 := n0_; have HO248 := n1_; have BK241 := n2_; have HB := n3_; have BK250 := n4_; have GW250 := n5_; have GE250 := n6_; have NB241_250 := n7_; have NB250_241 := n8_; clear n0_ n1_ n2_ n3_ n4_ n5_ n6_ n7_ n8_; clear hb hbox hg; obtain ⟨Ao11, co11, eo11⟩ := Kd.R_slice HO245.out; subst eo11; have hnb12 := NB250_241.out; have hnc12 := NB241_250.out; have hcz13_0 : w10.cell? ⟨gb250, 0, none⟩ = some (.slice none 0 0) := (blk_cell BK250.out 0).trans rfl; have hcz13_1 : w10.cell? ⟨gb250, 1, none⟩ = some (.slice none 0 0) := (blk_cell BK250.out 1).trans rfl; have hfz13_0 := blk_frozen BK250.out 0; have hfz13_1 := blk_frozen BK250.out 1; obtain ⟨Ao14, co14, eo14⟩ := Kd.R_slice HO248.out; subst eo14)))
    go_ret3
    exact ⟨_, _, by first | rfl | (simp [errW_none, errW_some] <;> rfl) | (simp [*, errW_none, errW_some] <;> rfl), by (with_reducible repeat (first | apply Kd.R_alloc | apply Kd.R_drewN | apply Kd.R_drew)); exact Kd.R_mono (Kd.R_far (p := ⟨gb250, 1, none⟩) (Kd.R_far (p := ⟨gb250, 0, none⟩) (Kd.R_types HO245.out BK250.out (by decide)) (fun _ hk => hk.2) (.slice Ao11 t243.length co11)) (fun _ hk => hk.2) (.slice Ao14 t246.length co14)) (fun _ hk => hk.1), by (with_reducible repeat (first | apply Kd.R_alloc | apply Kd.R_drewN | apply Kd.R_drew)); exact Kd.R_mono (Kd.R_far (p := ⟨gb250, 1, none⟩) (Kd.R_far (p := ⟨gb250, 0, none⟩) (Kd.R_types HO248.out BK250.out (by decide)) (fun _ hk => hk.2) (.slice Ao11 t243.length co11)) (fun _ hk => hk.2) (.slice Ao14 t246.length co14)) (fun _ hk => hk.1), by repeat (first | (with_reducible first | exact HB.out | apply below_alloc | apply pw_below_drewN | apply below_drew1 | refine below_set ?_ GE241.out | refine below_set ?_ GE250.out) | exact HB.out)⟩
  · rw [if_neg c3] at H
    have c3b0 : (t242 == 0) = false := beq_eq_false_iff_ne.mpr c3
    have c3b1 : (t242 != 0) = true := bne_iff_ne.mpr c3
    simp only [Option.some.injEq, Prod.mk.injEq] at H
    obtain ⟨rfl, rfl, rfl⟩ := H
    go_enter Try.func70, Try.ntmps70
    go_wp2_with (first | ((with_reducible refine gate_dst (N := 1) rfl ?_); refine box_event ?hg (N := 1) ?hd (cs := #[.slice A0_0 l0_0.length c0_0, .int .i64 a0_1]) (t := 89) ?hr ?_; (case hd => rfl); (case hg => rfl); (case hr => first | (go_simp; done) | (go_simp; rfl)); intro gb241 hg w15 hbox hb; have n0_ := Aside0.mk (below_step (by repeat (first | (with_reducible first | exact HB.out | apply below_alloc | apply pw_below_drewN | apply below_drew1) | exact HB.out)) hb); have n1_ := Aside0.mk (hbox); have n2_ := Aside0.mk ((by rw [hg]; exact (below_size (by repeat (first | (with_reducible first | exact HB.out | apply below_alloc | apply pw_below_drewN | apply below_drew1) | exact HB.out))) : w.heap.size ≤ gb241)); have n3_ := Aside0.mk ((by rw [hg]; exact (below_size (by repeat (first | (with_reducible first | exact HB.out | apply below_alloc | apply pw_below_drewN | apply below_drew1) | exact HB.out))) : w.heap.size ≤ gb241)); clear HB; have HB := n0_; have BK241 := n1_; have GW241 := n2_; have GE241 := n3_; clear n0_ n1_ n2_ n3_; clear hb hbox hg; have hcz16_0 : w15.cell? ⟨gb241, 0, none⟩ = some (.slice A0_0 l0_0.length c0_0) := (blk_cell BK241.out 0).trans rfl; have hcz16_1 : w15.cell? ⟨gb241, 1, none⟩ = some (.int .i64 a0_1) := (blk_cell BK241.out 1).trans rfl; have hfz16_0 := blk_frozen BK241.out 0; have hfz16_1 := blk_frozen BK241.out 1) | (go_at_call 97; (with_reducible refine (cover_check.calls k _ _ l0_0 a0_1 t242 _ ?side1 ?side2 A2.out).mono ?_); (case side1 => repeat (first | exact (Kd.C_below HR0_0.out HB.out) | (with_reducible refine Kd.C_alloc ?_ _) | (with_reducible refine Kd.C_drewN ?_ _) | (with_reducible refine Kd.C_drew ?_))); (case side2 => exact HC0_0.out); rintro e w17 ⟨rfl, hb⟩; have n0_ := Aside0.mk (blk_below (g := gb241) (o := .cells #[.slice A0_0 l0_0.length c0_0, .int .i64 a0_1] 89 (0, 0)) (by (with_reducible repeat (first | refine blk_drewN ?_ _ | refine blk_drew ?_ | refine blk_alloc ?_ _)); exact BK241.out) hb); have n1_ := Aside0.mk (below_step (by repeat (first | (with_reducible first | exact HB.out | apply below_alloc | apply pw_below_drewN | apply below_drew1 | refine below_set ?_ GE241.out) | exact HB.out)) hb); clear BK241; clear HB; have BK241 := n0_; have HB := n1_; clear n0_ n1_; (try clear hb); (try clear hb2); (try clear hk); (try clear hi)))
    repeat (go_quiet (first | ((with_reducible refine gate_dst (N := 1) rfl ?_); refine box_event ?hg (N := 1) ?hd (cs := #[.slice A0_0 l0_0.length c0_0, .int .i64 a0_1]) (t := 89) ?hr ?_; (case hd => rfl); (case hg => rfl); (case hr => first | (go_simp; done) | (go_simp; rfl)); intro gb241 hg w15 hbox hb; have n0_ := Aside0.mk (below_step (by repeat (first | (with_reducible first | exact HB.out | apply below_alloc | apply pw_below_drewN | apply below_drew1) | exact HB.out)) hb); have n1_ := Aside0.mk (hbox); have n2_ := Aside0.mk ((by rw [hg]; exact (below_size (by repeat (first | (with_reducible first | exact HB.out | apply below_alloc | apply pw_below_drewN | apply below_drew1) | exact HB.out))) : w.heap.size ≤ gb241)); have n3_ := Aside0.mk ((by rw [hg]; exact (below_size (by repeat (first | (with_reducible first | exact HB.out | apply below_alloc | apply pw_below_drewN | apply below_drew1) | exact HB.out))) : w.heap.size ≤ gb241)); clear HB; have HB := n0_; have BK241 := n1_; have GW241 := n2_; have GE241 := n3_; clear n0_ n1_ n2_ n3_; clear hb hbox hg; have hcz16_0 : w15.cell? ⟨gb241, 0, none⟩ = some (.slice A0_0 l0_0.length c0_0) := (blk_cell BK241.out 0).trans rfl; have hcz16_1 : w15.cell? ⟨gb241, 1, none⟩ = some (.int .i64 a0_1) := (blk_cell BK241.out 1).trans rfl; have hfz16_0 := blk_frozen BK241.out 0; have hfz16_1 := blk_frozen BK241.out 1) | (go_at_call 97; (with_reducible refine (cover_check.calls k _ _ l0_0 a0_1 t242 _ ?side1 ?side2 A2.out).mono ?_); (case side1 => repeat (first | exact (Kd.C_below HR0_0.out HB.out) | (with_reducible refine Kd.C_alloc ?_ _) | (with_reducible refine Kd.C_drewN ?_ _) | (with_reducible refine Kd.C_drew ?_))); (case side2 => exact HC0_0.out); rintro e w17 ⟨rfl, hb⟩; have n0_ := Aside0.mk (blk_below (g := gb241) (o := .cells #[.slice A0_0 l0_0.length c0_0, .int .i64 a0_1] 89 (0, 0)) (by (with_reducible repeat (first | refine blk_drewN ?_ _ | refine blk_drew ?_ | refine blk_alloc ?_ _)); exact BK241.out) hb); have n1_ := Aside0.mk (below_step (by repeat (first | (with_reducible first | exact HB.out | apply below_alloc | apply pw_below_drewN | apply below_drew1 | refine below_set ?_ GE241.out) | exact HB.out)) hb); clear BK241; clear HB; have BK241 := n0_; have HB := n1_; clear n0_ n1_; (try clear hb); (try clear hb2); (try clear hk); (try clear hi))); try go_wp2_with (first | ((with_reducible refine gate_dst (N := 1) rfl ?_); refine box_event ?hg (N := 1) ?hd (cs := #[.slice A0_0 l0_0.length c0_0, .int .i64 a0_1]) (t := 89) ?hr ?_; (case hd => rfl); (case hg => rfl); (case hr => first | (go_simp; done) | (go_simp; rfl)); intro gb241 hg w15 hbox hb; have n0_ := Aside0.mk (below_step (by repeat (first | (with_reducible first | exact HB.out | apply below_alloc | apply pw_below_drewN | apply below_drew1) | exact HB.out)) hb); have n1_ := Aside0.mk (hbox); have n2_ := Aside0.mk ((by rw [hg]; exact (below_size (by repeat (first | (with_reducible first | exact HB.out | apply below_alloc | apply pw_below_drewN | apply below_drew1) | exact HB.out))) : w.heap.size ≤ gb241)); have n3_ := Aside0.mk ((by rw [hg]; exact (below_size (by repeat (first | (with_reducible first | exact HB.out | apply below_alloc | apply pw_below_drewN | apply below_drew1) | exact HB.out))) : w.heap.size ≤ gb241)); clear HB; have HB := n0_; have BK241 := n1_; have GW241 := n2_; have GE241 := n3_; clear n0_ n1_ n2_ n3_; clear hb hbox hg; have hcz16_0 : w15.cell? ⟨gb241, 0, none⟩ = some (.slice A0_0 l0_0.length c0_0) := (blk_cell BK241.out 0).trans rfl; have hcz16_1 : w15.cell? ⟨gb241, 1, none⟩ = some (.int .i64 a0_1) := (blk_cell BK241.out 1).trans rfl; have hfz16_0 := blk_frozen BK241.out 0; have hfz16_1 := blk_frozen BK241.out 1) | (go_at_call 97; (with_reducible refine (cover_check.calls k _ _ l0_0 a0_1 t242 _ ?side1 ?side2 A2.out).mono ?_); (case side1 => repeat (first | exact (Kd.C_below HR0_0.out HB.out) | (with_reducible refine Kd.C_alloc ?_ _) | (with_reducible refine Kd.C_drewN ?_ _) | (with_reducible refine Kd.C_drew ?_))); (case side2 => exact HC0_0.out); rintro e w17 ⟨rfl, hb⟩; have n0_ := Aside0.mk (blk_below (g := gb241) (o := .cells #[.slice A0_0 l0_0.length c0_0, .int .i64 a0_1] 89 (0, 0)) (by (with_reducible repeat (first | refine blk_drewN ?_ _ | refine blk_drew ?_ | refine blk_alloc ?_ _)); exact BK241.out) hb); have n1_ := Aside0.mk (below_step (by repeat (first | (with_reducible first | exact HB.out | apply below_alloc | apply pw_below_drewN | apply below_drew1 | refine below_set ?_ GE241.out) | exact HB.out)) hb); clear BK241; clear HB; have BK241 := n0_; have HB := n1_; clear n0_ n1_; (try clear hb); (try clear hb2); (try clear hk); (try clear hi))))
    go_ret3
    exact ⟨_, _, by first | rfl | (simp [errW_none, errW_some] <;> rfl) | (simp [*, errW_none, errW_some] <;> rfl), by first | exact Kd.R_nil _ _ _ _ _ | exact Kd.N_nil _ _ _ _ _ | exact Kd.V_nil _ _ _ _ _ | exact Kd.Q_nil _ _ _ _ _ | exact Kd.S_nil _ _ _ _ _, by first | exact Kd.R_nil _ _ _ _ _ | exact Kd.N_nil _ _ _ _ _ | exact Kd.V_nil _ _ _ _ _ | exact Kd.Q_nil _ _ _ _ _ | exact Kd.S_nil _ _ _ _ _, by repeat (first | (with_reducible first | exact HB.out | apply below_alloc | apply pw_below_drewN | apply below_drew1 | refine below_set ?_ GE241.out) | exact HB.out)⟩

/-! ### cover_Within: function 71: by hand -/
def cover_Within.f (k : Nat) (l0_0 : List Int) (a0_1 : Int) (l1_0 : List Int) (a1_1 : Int) : Option (Bool × Int) := (cover_check.f k l0_0 a0_1).bind fun e => if e = 0 then (cover_check.f k l1_0 a1_1).bind fun e2 => if e2 = 0 then (if (l0_0.length : Int) = (l1_0.length : Int) then (zbits_Cut.f k l0_0 a1_1).bind fun c => (if a0_1 ≤ a1_1 then (slices_Equal_uint64_uint64.f k c.1 l1_0).bind fun b => some (b, 0) else some (false, 0)) else some (false, 2)) else some (false, e2) else some (false, e)
theorem cover_Within.mono : ∀ a0 a1 a2 a3 k, LeO (cover_Within.f k a0 a1 a2 a3) (cover_Within.f (k + 1) a0 a1 a2 a3) := by
  intro a0 a1 a2 a3 k
  unfold cover_Within.f
  refine LeO.bind (cover_check.mono _ _ _) (fun e => ?_)
  split
  · refine LeO.bind (cover_check.mono _ _ _) (fun e => ?_)
    split
    · split
      · refine LeO.bind (zbits_Cut.mono _ _ _) (fun c => ?_)
        split
        · exact LeO.bind (slices_Equal_uint64_uint64.mono _ _ _) (fun b => LeO.refl _)
        · exact LeO.refl _
      · exact LeO.refl _
    · exact LeO.refl _
  · exact LeO.refl _
--#WALK
set_option maxHeartbeats 8000000 in
set_option maxRecDepth 100000 in
theorem cover_Within.calls (k : Nat) (A0_0 : Option Addr) (c0_0 : Nat) (l0_0 : List Int) (a0_1 : Int) (A1_0 : Option Addr) (c1_0 : Nat) (l1_0 : List Int) (a1_1 : Int) (r1 : Bool) (r2 : Int) (w : World) (hr0_0 : Kd.C (Kd.int .u64) w A0_0 l0_0.length l0_0) (hc0_0 : l0_0.length ≤ c0_0) (hr1_0 : Kd.C (Kd.int .u64) w A1_0 l1_0.length l1_0) (hc1_0 : l1_0.length ≤ c1_0) (h : cover_Within.f k l0_0 a0_1 l1_0 a1_1 = some (r1, r2)) :
    Calls Try.prog 71 #[.agg #[.slice A0_0 l0_0.length c0_0, .int .i64 a0_1], .agg #[.slice A1_0 l1_0.length c1_0, .int .i64 a1_1]] w fun e w' => e = .returned (.tuple #[.bool r1, .int .i64 r2]) ∧ Below w.heap.size w w' := by
  have hu89 := Try.underlying89
  have hu125 := Try.underlying125
  have HR0 := Aside0.mk hr0_0
  have HR1 := Aside0.mk hr1_0
  have HC0 := Aside0.mk hc0_0
  have HC1 := Aside0.mk hc1_0
  obtain ⟨ea, he, H1⟩ := Option.bind_eq_some_iff.mp h
  have HE := Aside0.mk he
  have HH := Aside0.mk H1
  clear hr0_0 hr1_0 hc0_0 hc1_0 h he H1
  have hidx0 : ∀ (c0 c1 c2 c3 : Value) (W : World), (Instr.index 125 (.agg #[c0, c1, c2, c3]) (.int .i64 0)).run Try.prog W = .ok (.agg #[c0, c1]) W := fun c0 c1 c2 c3 W => by
    simp [Instr.index, run_underlying hu125, asIntOf, go_sem]
  have hidx1 : ∀ (c0 c1 c2 c3 : Value) (W : World), (Instr.index 125 (.agg #[c0, c1, c2, c3]) (.int .i64 1)).run Try.prog W = .ok (.agg #[c2, c3]) W := fun c0 c1 c2 c3 W => by
    simp [Instr.index, run_underlying hu125, asIntOf, go_sem]
  go_enter Try.func71, Try.ntmps71
  go_wp2_with (first | ((with_reducible refine gate_dst (N := 2) rfl ?_); refine box_event ?hg (N := 2) ?hd (cs := #[.slice A0_0 l0_0.length c0_0, .int .i64 a0_1]) (t := 89) ?hr ?_; (case hd => rfl); (case hg => rfl); (case hr => first | (go_simp; done) | (go_simp; rfl)); intro ga hg w1 hbox hb; have HB1 := Aside0.mk hb; have BKA1 := Aside0.mk hbox; clear hb hbox hg) | ((with_reducible refine gate_dst (N := 3) rfl ?_); refine box_event ?hg (N := 3) ?hd (cs := #[.slice A1_0 l1_0.length c1_0, .int .i64 a1_1]) (t := 89) ?hr ?_; (case hd => rfl); (case hg => rfl); (case hr => first | (go_simp; done) | (go_simp; rfl)); intro gb hg w2 hbox hb; have HB := Aside0.mk (below_step HB1.out hb); have BKA := Aside0.mk (blk_below BKA1.out hb); have BKB := Aside0.mk hbox; have ha20 := (blk_cell BKA.out 0).trans rfl; have ha21 := (blk_cell BKA.out 1).trans rfl; have hb20 := (blk_cell hbox 0).trans rfl; have hb21 := (blk_cell hbox 1).trans rfl; clear hb hbox hg))
  go_loopg [14] 3 (fun kq v14 w' => ∃ i : Int, v14 = .int .i64 i ∧ Aside0 ((i = 0 ∧ kq = 3) ∨ (i = 1 ∧ kq = 2 ∧ ea = 0) ∨ (i = 2 ∧ kq = 1 ∧ ea = 0 ∧ cover_check.f k l1_0 a1_1 = some 0)) ∧ Aside0 (Below w.heap.size w w') ∧ Aside0 (w'.heap[ga]? = some (.cells #[.slice A0_0 l0_0.length c0_0, .int .i64 a0_1] 89 (0, 0))) ∧ Aside0 (w'.heap[gb]? = some (.cells #[.slice A1_0 l1_0.length c1_0, .int .i64 a1_1] 89 (0, 0))))
  case atStart => exact ⟨0, rfl, ⟨.inl ⟨rfl, rfl⟩⟩, HB, BKA, BKB⟩
  case round =>
    clear ha20 ha21 hb20 hb21 BKA BKB HB BKA1 HB1
    obtain ⟨i, rfl, HI, HB2, BKA2, BKB2⟩ := hrel
    rcases HI.out with ⟨rfl, rfl⟩ | ⟨rfl, rfl, rfl⟩ | ⟨rfl, rfl, rfl, he2⟩
    · by_cases hz : ea = 0
      · subst hz
        go_wp2_with (first | ((with_reducible refine gate_dst (N := 7) rfl ?_); refine box_event ?hg (N := 7) ?hd (cs := #[.slice none 0 0, .int .i64 0]) (t := 89) ?hr ?_; (case hd => rfl); (case hg => rfl); (case hr => first | (go_simp; done) | (go_simp; rfl)); intro gd hg w3 hbox hb; have HB3 := Aside0.mk (below_step HB2.out hb); have BKA3 := Aside0.mk (blk_below BKA2.out hb); have BKB3 := Aside0.mk (blk_below BKB2.out hb); have HGD := Aside0.mk (show w.heap.size ≤ gd by have := HB2.out.size; omega); have HNA := Aside0.mk (show ga ≠ gd by have := blk_lt BKA2.out; omega); have HNB := Aside0.mk (show gb ≠ gd by have := blk_lt BKB2.out; omega); have hd0 := (blk_cell hbox 0).trans rfl; have hd1 := (blk_cell hbox 1).trans rfl; have hf0 := blk_frozen hbox 0; have hf1 := blk_frozen hbox 1; clear hb hbox hg) | (go_at_call 97; have HBS := Aside0.mk ((HB3.out.setCell (p := ⟨gd, 0, none⟩) HGD.out (.slice A0_0 l0_0.length c0_0)).setCell (p := ⟨gd, 1, none⟩) HGD.out (.int .i64 a0_1)); refine (cover_check.calls k A0_0 c0_0 l0_0 a0_1 _ _ (Kd.C_below HR0.out HBS.out) HC0.out HE.out).mono ?_; rintro e w4 ⟨rfl, hb⟩; have HB4 := Aside0.mk (below_step HBS.out hb); have BKA4 := Aside0.mk (blk_below (blk_far (p := ⟨gd, 1, none⟩) (blk_far (p := ⟨gd, 0, none⟩) BKA3.out HNA.out (.slice A0_0 l0_0.length c0_0)) HNA.out (.int .i64 a0_1)) hb); have BKB4 := Aside0.mk (blk_below (blk_far (p := ⟨gd, 1, none⟩) (blk_far (p := ⟨gd, 0, none⟩) BKB3.out HNB.out (.slice A0_0 l0_0.length c0_0)) HNB.out (.int .i64 a0_1)) hb); clear hb hd0 hd1 hf0 hf1))
        go_roundg 2
        case measure => omega
        case rel => exact ⟨1, rfl, ⟨by simp⟩, HB4, BKA4, BKB4⟩
      · have H := HH.out
        rw [if_neg hz] at H
        simp only [Option.some.injEq, Prod.mk.injEq] at H
        obtain ⟨rfl, rfl⟩ := H
        have hd := bne_iff_ne.mpr hz
        clear hz
        go_wp2_with (first | ((with_reducible refine gate_dst (N := 7) rfl ?_); refine box_event ?hg (N := 7) ?hd (cs := #[.slice none 0 0, .int .i64 0]) (t := 89) ?hr ?_; (case hd => rfl); (case hg => rfl); (case hr => first | (go_simp; done) | (go_simp; rfl)); intro gd hg w3 hbox hb; have HB3 := Aside0.mk (below_step HB2.out hb); have BKA3 := Aside0.mk (blk_below BKA2.out hb); have BKB3 := Aside0.mk (blk_below BKB2.out hb); have HGD := Aside0.mk (show w.heap.size ≤ gd by have := HB2.out.size; omega); have HNA := Aside0.mk (show ga ≠ gd by have := blk_lt BKA2.out; omega); have HNB := Aside0.mk (show gb ≠ gd by have := blk_lt BKB2.out; omega); have hd0 := (blk_cell hbox 0).trans rfl; have hd1 := (blk_cell hbox 1).trans rfl; have hf0 := blk_frozen hbox 0; have hf1 := blk_frozen hbox 1; clear hb hbox hg) | (go_at_call 97; have HBS := Aside0.mk ((HB3.out.setCell (p := ⟨gd, 0, none⟩) HGD.out (.slice A0_0 l0_0.length c0_0)).setCell (p := ⟨gd, 1, none⟩) HGD.out (.int .i64 a0_1)); refine (cover_check.calls k A0_0 c0_0 l0_0 a0_1 _ _ (Kd.C_below HR0.out HBS.out) HC0.out HE.out).mono ?_; rintro e w4 ⟨rfl, hb⟩; have HB4 := Aside0.mk (below_step HBS.out hb); have BKA4 := Aside0.mk (blk_below (blk_far (p := ⟨gd, 1, none⟩) (blk_far (p := ⟨gd, 0, none⟩) BKA3.out HNA.out (.slice A0_0 l0_0.length c0_0)) HNA.out (.int .i64 a0_1)) hb); have BKB4 := Aside0.mk (blk_below (blk_far (p := ⟨gd, 1, none⟩) (blk_far (p := ⟨gd, 0, none⟩) BKB3.out HNB.out (.slice A0_0 l0_0.length c0_0)) HNB.out (.int .i64 a0_1)) hb); clear hb hd0 hd1 hf0 hf1))
        go_ret2
        exact ⟨rfl, HB4.out⟩
    · have H := HH.out
      rw [if_pos rfl] at H
      obtain ⟨eb, he2, H⟩ := Option.bind_eq_some_iff.mp H
      have HE2 := Aside0.mk he2
      clear he2
      by_cases hz : eb = 0
      · subst hz
        clear H
        go_wp2_with (first | ((with_reducible refine gate_dst (N := 7) rfl ?_); refine box_event ?hg (N := 7) ?hd (cs := #[.slice none 0 0, .int .i64 0]) (t := 89) ?hr ?_; (case hd => rfl); (case hg => rfl); (case hr => first | (go_simp; done) | (go_simp; rfl)); intro gd hg w3 hbox hb; have HB3 := Aside0.mk (below_step HB2.out hb); have BKA3 := Aside0.mk (blk_below BKA2.out hb); have BKB3 := Aside0.mk (blk_below BKB2.out hb); have HGD := Aside0.mk (show w.heap.size ≤ gd by have := HB2.out.size; omega); have HNA := Aside0.mk (show ga ≠ gd by have := blk_lt BKA2.out; omega); have HNB := Aside0.mk (show gb ≠ gd by have := blk_lt BKB2.out; omega); have hd0 := (blk_cell hbox 0).trans rfl; have hd1 := (blk_cell hbox 1).trans rfl; have hf0 := blk_frozen hbox 0; have hf1 := blk_frozen hbox 1; clear hb hbox hg) | (go_at_call 97; have HBS := Aside0.mk ((HB3.out.setCell (p := ⟨gd, 0, none⟩) HGD.out (.slice A1_0 l1_0.length c1_0)).setCell (p := ⟨gd, 1, none⟩) HGD.out (.int .i64 a1_1)); refine (cover_check.calls k A1_0 c1_0 l1_0 a1_1 _ _ (Kd.C_below HR1.out HBS.out) HC1.out HE2.out).mono ?_; rintro e w4 ⟨rfl, hb⟩; have HB4 := Aside0.mk (below_step HBS.out hb); have BKA4 := Aside0.mk (blk_below (blk_far (p := ⟨gd, 1, none⟩) (blk_far (p := ⟨gd, 0, none⟩) BKA3.out HNA.out (.slice A1_0 l1_0.length c1_0)) HNA.out (.int .i64 a1_1)) hb); have BKB4 := Aside0.mk (blk_below (blk_far (p := ⟨gd, 1, none⟩) (blk_far (p := ⟨gd, 0, none⟩) BKB3.out HNB.out (.slice A1_0 l1_0.length c1_0)) HNB.out (.int .i64 a1_1)) hb); clear hb hd0 hd1 hf0 hf1))
        go_roundg 1
        case measure => omega
        case rel => exact ⟨2, rfl, ⟨by simp [HE2.out]⟩, HB4, BKA4, BKB4⟩
      · rw [if_neg hz] at H
        simp only [Option.some.injEq, Prod.mk.injEq] at H
        obtain ⟨rfl, rfl⟩ := H
        have hd := bne_iff_ne.mpr hz
        clear hz
        go_wp2_with (first | ((with_reducible refine gate_dst (N := 7) rfl ?_); refine box_event ?hg (N := 7) ?hd (cs := #[.slice none 0 0, .int .i64 0]) (t := 89) ?hr ?_; (case hd => rfl); (case hg => rfl); (case hr => first | (go_simp; done) | (go_simp; rfl)); intro gd hg w3 hbox hb; have HB3 := Aside0.mk (below_step HB2.out hb); have BKA3 := Aside0.mk (blk_below BKA2.out hb); have BKB3 := Aside0.mk (blk_below BKB2.out hb); have HGD := Aside0.mk (show w.heap.size ≤ gd by have := HB2.out.size; omega); have HNA := Aside0.mk (show ga ≠ gd by have := blk_lt BKA2.out; omega); have HNB := Aside0.mk (show gb ≠ gd by have := blk_lt BKB2.out; omega); have hd0 := (blk_cell hbox 0).trans rfl; have hd1 := (blk_cell hbox 1).trans rfl; have hf0 := blk_frozen hbox 0; have hf1 := blk_frozen hbox 1; clear hb hbox hg) | (go_at_call 97; have HBS := Aside0.mk ((HB3.out.setCell (p := ⟨gd, 0, none⟩) HGD.out (.slice A1_0 l1_0.length c1_0)).setCell (p := ⟨gd, 1, none⟩) HGD.out (.int .i64 a1_1)); refine (cover_check.calls k A1_0 c1_0 l1_0 a1_1 _ _ (Kd.C_below HR1.out HBS.out) HC1.out HE2.out).mono ?_; rintro e w4 ⟨rfl, hb⟩; have HB4 := Aside0.mk (below_step HBS.out hb); have BKA4 := Aside0.mk (blk_below (blk_far (p := ⟨gd, 1, none⟩) (blk_far (p := ⟨gd, 0, none⟩) BKA3.out HNA.out (.slice A1_0 l1_0.length c1_0)) HNA.out (.int .i64 a1_1)) hb); have BKB4 := Aside0.mk (blk_below (blk_far (p := ⟨gd, 1, none⟩) (blk_far (p := ⟨gd, 0, none⟩) BKB3.out HNB.out (.slice A1_0 l1_0.length c1_0)) HNB.out (.int .i64 a1_1)) hb); clear hb hd0 hd1 hf0 hf1))
        go_ret2
        exact ⟨rfl, HB4.out⟩
    · have H := HH.out
      rw [if_pos rfl, he2, Option.bind_some, if_pos rfl] at H
      have ha0 := (blk_cell BKA2.out 0).trans rfl
      have ha1 := (blk_cell BKA2.out 1).trans rfl
      have hb0 := (blk_cell BKB2.out 0).trans rfl
      have hb1 := (blk_cell BKB2.out 1).trans rfl
      clear he2
      by_cases hlen : (l0_0.length : Int) = (l1_0.length : Int)
      · rw [if_pos hlen] at H
        have hle := bne_eq_false_iff_eq.mpr hlen
        clear hlen
        obtain ⟨⟨c, cc⟩, hcut, H⟩ := Option.bind_eq_some_iff.mp H
        have HCUT := Aside0.mk hcut
        clear hcut
        simp only at H
        by_cases hlv : a0_1 ≤ a1_1
        · rw [if_pos hlv] at H
          obtain ⟨b, heq, H⟩ := Option.bind_eq_some_iff.mp H
          simp only [Option.some.injEq, Prod.mk.injEq] at H
          obtain ⟨rfl, rfl⟩ := H
          have HEQ := Aside0.mk heq
          have hlt := decide_eq_true hlv
          clear heq hlv
          go_wp2_with (first | (go_at_call 34; refine (zbits_Cut.calls k A0_0 c0_0 l0_0 a1_1 c cc _ (Kd.C_below HR0.out HB2.out) HC0.out HCUT.out).mono ?_; rintro e w5 ⟨v0, rfl, hR, hb⟩; obtain ⟨Ao, co, eo⟩ := Kd.R_slice hR; subst eo; have HB5 := Aside0.mk (below_step HB2.out hb); have BKA5 := Aside0.mk (blk_below BKA2.out hb); have BKB5 := Aside0.mk (blk_below BKB2.out hb); have HC5 := Aside0.mk (Kd.R_reads' hR); have ha50 := (blk_cell BKA5.out 0).trans rfl; have ha51 := (blk_cell BKA5.out 1).trans rfl; have hb50 := (blk_cell BKB5.out 0).trans rfl; have hb51 := (blk_cell BKB5.out 1).trans rfl; clear hR hb) | (go_at_call 98; refine (slices_Equal_uint64_uint64.calls k Ao co c A1_0 c1_0 l1_0 _ _ HC5.out.2.2 HC5.out.2.1 (Kd.C_below HR1.out HB5.out) HC1.out HEQ.out).mono ?_; rintro e w6 ⟨rfl, ⟨nd, rfl⟩⟩))
          go_ret2
          exact ⟨rfl, pw_below_drewN HB5.out nd⟩
        · rw [if_neg hlv] at H
          simp only [Option.some.injEq, Prod.mk.injEq] at H
          obtain ⟨rfl, rfl⟩ := H
          have hlt := decide_eq_false hlv
          clear hlv
          go_wp2_with (first | (go_at_call 34; refine (zbits_Cut.calls k A0_0 c0_0 l0_0 a1_1 c cc _ (Kd.C_below HR0.out HB2.out) HC0.out HCUT.out).mono ?_; rintro e w5 ⟨v0, rfl, hR, hb⟩; obtain ⟨Ao, co, eo⟩ := Kd.R_slice hR; subst eo; have HB5 := Aside0.mk (below_step HB2.out hb); have BKA5 := Aside0.mk (blk_below BKA2.out hb); have BKB5 := Aside0.mk (blk_below BKB2.out hb); have HC5 := Aside0.mk (Kd.R_reads' hR); have ha50 := (blk_cell BKA5.out 0).trans rfl; have ha51 := (blk_cell BKA5.out 1).trans rfl; have hb50 := (blk_cell BKB5.out 0).trans rfl; have hb51 := (blk_cell BKB5.out 1).trans rfl; clear hR hb))
          go_ret2
          exact ⟨rfl, HB5.out⟩
      · rw [if_neg hlen] at H
        simp only [Option.some.injEq, Prod.mk.injEq] at H
        obtain ⟨rfl, rfl⟩ := H
        have hle := bne_iff_ne.mpr hlen
        clear hlen
        go_wp2
        go_ret2
        exact ⟨rfl, HB2.out⟩

/-! ### pantileref01_Right: function 28 -/
def pantileref01_Right.f (l0 : List Int) : Option (Bool) := if (l0.length : Int) > 0 then (some (decide ((l0.length : Int) < 17))) else (some false)
set_option maxHeartbeats 8000000 in
set_option maxRecDepth 100000 in
theorem pantileref01_Right.calls (A0 : Option Addr) (c0 : Nat) (l0 : List Int) (r : Bool) (w : World) (hr0 : Kd.C (Kd.int .u64) w A0 l0.length l0) (hc0 : l0.length ≤ c0) (h : pantileref01_Right.f l0 = some r) :
    Calls Try.prog 28 #[.slice A0 l0.length c0] w fun e w' => e = .returned (.bool r) ∧ Drawn0 w w' := by
  have HR0 := Aside0.mk hr0
  have HC0 := Aside0.mk hc0
  clear hr0 hc0
  have H : (if (l0.length : Int) > 0 then (some (decide ((l0.length : Int) < 17))) else (some false)) = some r := h
  clear h
  by_cases c2 : (l0.length : Int) > 0
  · rw [if_pos c2] at H
    have c2b0 : decide (0 < (l0.length : Int)) = true := decide_eq_true c2
    have c2b1 : decide (0 < l0.length) = true := decide_eq_true (by omega)
    clear c2
    obtain rfl := Option.some.inj H
    go_enter Try.func28, Try.ntmps28
    go_wp2
    go_ret
    exact ⟨by first | rfl | (simp; done) | (simp [*]; done), by repeat (first | exact Drawn0.refl _ | apply Drawn0.step)⟩
  · rw [if_neg c2] at H
    have c2b0 : decide (0 < (l0.length : Int)) = false := decide_eq_false c2
    have c2b1 : decide (0 < l0.length) = false := decide_eq_false (by omega)
    clear c2
    obtain rfl := Option.some.inj H
    go_enter Try.func28, Try.ntmps28
    go_wp2
    go_ret
    exact ⟨by first | rfl | (simp; done) | (simp [*]; done), by repeat (first | exact Drawn0.refl _ | apply Drawn0.step)⟩

end Go.Proofs.Ythdphjbecibeaaa.PCoverWithin
