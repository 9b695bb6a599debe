-- packed by wip/tools/pack.py
-- Written by wip/tools/print2.py, a program of this session, over the kit's print of the program. Lean checks it.
import Derived.Test.YthdphjbecibeaaaPCoverCellsx0
import Derived.Test.YthdphjbecibeaaaPCoverCellsx1
import Derived.Test.YthdphjbecibeaaaPCoverCellsx2
import Derived.Test.YthdphjbecibeaaaPCoverCellsx3
namespace Go.Proofs.Ythdphjbecibeaaa.PCoverCells
open Go.RowKit Go.Proofs.YthdphjbecibeaaaW.PrintWords Go.Proofs.YthdphjbecibeaaaW.PrintLast Go.Proofs.YthdphjbecibeaaaW.PrintMore
attribute [local go_sem] max2_int min2_int max_two min_two max_three min_three max_four min_four   -- for this text's walks alone
open List renaming setIfInBounds_toArray → lsA, set_cons_zero → ls0, set_cons_succ → ls1
set_option linter.unusedVariables false
set_option linter.unusedSimpArgs false

/-! ### mask_Of: function 38 -/
def mask_Of.l0 : Nat → Int → List Int → Int → Int → List Int → List Int → Int → Int → Int → Option (Int × Int × Int × Int)
  | 0, _, _, _, _, _, _, _, _, _ => none
  | k + 1, x1, x25, x26, x27, x163000, x163001, x166000, x166001, x166002 => if x27 < x26 then (if 0 ≤ x27 then (if x27 < (x25.length : Int) then ((mask_halves.f (rd x25 x27) x1).bind fun bt167 => (if x27 < (x163000.length : Int) then (if x27 < (x163001.length : Int) then ((mask_leaves.f bt167.1 bt167.2.1 (rd x163000 x27) (rd x163001 x27)).bind fun t175 => (if t175 = true then ((mask_leaves.f bt167.2.2.1 bt167.2.2.2 (rd x163000 x27) (rd x163001 x27)).bind fun t178 => (if t178 = true then (mask_Of.l0 k x1 x25 x26 (wrap64 (x27 + 1)) x163000 x163001 x166000 (wrap64 (x166001 * 2)) (Go.bits .or .i64 (wrap64 (x166002 * 2)) 1)) else (mask_Of.l0 k x1 x25 x26 (wrap64 (x27 + 1)) x163000 x163001 x166000 (wrap64 (x166001 * 2)) (wrap64 (x166002 * 2))))) else ((mask_leaves.f bt167.2.2.1 bt167.2.2.2 (rd x163000 x27) (rd x163001 x27)).bind fun t181 => (if t181 = true then (mask_Of.l0 k x1 x25 x26 (wrap64 (x27 + 1)) x163000 x163001 x166000 (Go.bits .or .i64 (wrap64 (x166001 * 2)) 1) (Go.bits .or .i64 (wrap64 (x166002 * 2)) 1)) else (mask_Of.l0 k x1 x25 x26 (wrap64 (x27 + 1)) x163000 x163001 x166000 (Go.bits .or .i64 (wrap64 (x166001 * 2)) 1) (wrap64 (x166002 * 2))))))) else (none)) else (none))) else (none)) else (none)) else (some (x166000, x166001, x166002, 0))
def mask_Of.f (k : Nat) (l0 : List Int) (a1 : Int) (l2_0 : List Int) (l2_1 : List Int) : Option (Int × Int × Int × Int) := (mask_check.f k l0 a1 0 l2_0 l2_1).bind fun t164 => (if t164 = 0 then (mask_Of.l0 k a1 l0 (l0.length : Int) 0 l2_0 l2_1 (l0.length : Int) 0 0) else (some (0, 0, 0, t164)))
theorem mask_Of.mono_l : ∀ k, (∀ y0 y1 y2 y3 y4 y5 y6 y7 y8, LeO (mask_Of.l0 k y0 y1 y2 y3 y4 y5 y6 y7 y8) (mask_Of.l0 (k + 1) y0 y1 y2 y3 y4 y5 y6 y7 y8))
  | 0 => fun _ _ _ _ _ _ _ _ _ r h => by simp [mask_Of.l0] at h
  | k + 1 => by
    have ih0 := mask_Of.mono_l k
    · intro y0 y1 y2 y3 y4 y5 y6 y7 y8
      unfold mask_Of.l0
      repeat' first
      | (with_reducible exact ih0 _ _ _ _ _ _ _ _ _)
      | (with_reducible exact mask_check.mono _ _ _ _ _ _)
      | (with_reducible exact LeO.refl _)
      | (with_reducible exact LeO.none _)
      | (with_reducible refine LeO.ite ?_ ?_)
      | (with_reducible refine LeO.bind ?_ (fun _ => ?_))
      | exact ih0 _ _ _ _ _ _ _ _ _
      | exact mask_check.mono _ _ _ _ _ _
      | exact LeO.none _
      | refine LeO.ite ?_ ?_
      | refine LeO.bind ?_ (fun _ => ?_)
theorem mask_Of.mono : ∀ a0 a1 a2 a3 k, LeO (mask_Of.f k a0 a1 a2 a3) (mask_Of.f (k + 1) a0 a1 a2 a3) := by
  intro a0 a1 a2 a3 k
  have ih0 := mask_Of.mono_l k
  unfold mask_Of.f
  repeat' first
      | (with_reducible exact ih0 _ _ _ _ _ _ _ _ _)
      | (with_reducible exact mask_check.mono _ _ _ _ _ _)
      | (with_reducible exact LeO.refl _)
      | (with_reducible exact LeO.none _)
      | (with_reducible refine LeO.ite ?_ ?_)
      | (with_reducible refine LeO.bind ?_ (fun _ => ?_))
      | exact ih0 _ _ _ _ _ _ _ _ _
      | exact mask_check.mono _ _ _ _ _ _
      | exact LeO.none _
      | refine LeO.ite ?_ ?_
      | refine LeO.bind ?_ (fun _ => ?_)
/-- What is carried in a round of Of: gb: the box's block; g6: the result's; g9: m's; gz, go: both halves'. -/
structure mask_Of.St (w : World) (gb g6 g9 gz go : Nat) (bx z o : Array Value) (K lw hw : Int) (w' : World) : Prop where
  box : w'.heap[gb]? = some (.cells bx 32 (0, 0))
  res : w'.heap[g6]? = some (.cells #[.int .i64 0, .int .i64 0, .int .i64 0] 52 (0, 0))
  m : w'.heap[g9]? = some (.cells #[.int .i64 K, .int .i64 lw, .int .i64 hw] 52 (0, 0))
  z : w'.heap[gz]? = some (.cells z 107 (0, 0))
  o : w'.heap[go]? = some (.cells o 107 (0, 0))
  below : Below w.heap.size w w'
  ge : w.heap.size ≤ g9 ∧ w.heap.size ≤ gz ∧ w.heap.size ≤ go
  ne : gb ≠ g9 ∧ g6 ≠ g9 ∧ gz ≠ g9 ∧ go ≠ g9 ∧ gb ≠ gz ∧ g6 ≠ gz ∧ gb ≠ go ∧ g6 ≠ go ∧ gz ≠ go
section
variable {w w' w2 : World} {gb g6 g9 gz go : Nat} {bx z o : Array Value} {K lw hw : Int}
theorem mask_Of.St.mv (h : mask_Of.St w gb g6 g9 gz go bx z o K lw hw w') (hb : Below w'.heap.size w' w2) : mask_Of.St w gb g6 g9 gz go bx z o K lw hw w2 :=
  ⟨blk_below h.box hb, blk_below h.res hb, blk_below h.m hb, blk_below h.z hb, blk_below h.o hb, below_then h.below h.below.size hb, h.ge, h.ne⟩
theorem mask_Of.St.set1 (h : mask_Of.St w gb g6 g9 gz go bx z o K lw hw w') (u : Int) : mask_Of.St w gb g6 g9 gz go bx z o K u hw (w'.setCell ⟨g9, 1, none⟩ (.int .i64 u)) :=
  ⟨blk_far (p := ⟨g9, 1, none⟩) h.box h.ne.1 _, blk_far (p := ⟨g9, 1, none⟩) h.res h.ne.2.1 _, blk_put h.m 1 _ rfl, blk_far (p := ⟨g9, 1, none⟩) h.z h.ne.2.2.1 _, blk_far (p := ⟨g9, 1, none⟩) h.o h.ne.2.2.2.1 _, h.below.setCell (p := ⟨g9, 1, none⟩) h.ge.1 _, h.ge, h.ne⟩
theorem mask_Of.St.set2 (h : mask_Of.St w gb g6 g9 gz go bx z o K lw hw w') (u : Int) : mask_Of.St w gb g6 g9 gz go bx z o K lw u (w'.setCell ⟨g9, 2, none⟩ (.int .i64 u)) :=
  ⟨blk_far (p := ⟨g9, 2, none⟩) h.box h.ne.1 _, blk_far (p := ⟨g9, 2, none⟩) h.res h.ne.2.1 _, blk_put h.m 2 _ rfl, blk_far (p := ⟨g9, 2, none⟩) h.z h.ne.2.2.1 _, blk_far (p := ⟨g9, 2, none⟩) h.o h.ne.2.2.2.1 _, h.below.setCell (p := ⟨g9, 2, none⟩) h.ge.1 _, h.ge, h.ne⟩
theorem mask_Of.St.halves {a0 a1 b0 b1 c0 c1 d0 d1 : Value} (h : mask_Of.St w gb g6 g9 gz go bx #[a0, a1] #[b0, b1] K lw hw w') : mask_Of.St w gb g6 g9 gz go bx #[c0, c1] #[d0, d1] K lw hw ((((w'.setCell ⟨gz, 0, none⟩ c0).setCell ⟨gz, 1, none⟩ c1).setCell ⟨go, 0, none⟩ d0).setCell ⟨go, 1, none⟩ d1) := by
  obtain ⟨hbox, hres, hm, hz, ho, hbelow, hge, hne⟩ := h
  have far : ∀ {g t cs}, w'.heap[g]? = some (.cells cs t (0, 0)) → g ≠ gz → g ≠ go → ((((w'.setCell ⟨gz, 0, none⟩ c0).setCell ⟨gz, 1, none⟩ c1).setCell ⟨go, 0, none⟩ d0).setCell ⟨go, 1, none⟩ d1).heap[g]? = some (.cells cs t (0, 0)) := fun hg h1 h2 =>
    blk_far (p := ⟨go, 1, none⟩) (blk_far (p := ⟨go, 0, none⟩) (blk_far (p := ⟨gz, 1, none⟩) (blk_far (p := ⟨gz, 0, none⟩) hg h1 c0) h1 c1) h2 d0) h2 d1
  refine ⟨far hbox hne.2.2.2.2.1 hne.2.2.2.2.2.2.1, far hres hne.2.2.2.2.2.1 hne.2.2.2.2.2.2.2.1, far hm (Ne.symm hne.2.2.1) (Ne.symm hne.2.2.2.1), ?_, ?_, ?_, hge, hne⟩
  · exact blk_far (p := ⟨go, 1, none⟩) (blk_far (p := ⟨go, 0, none⟩) (blk_put (blk_put hz 0 c0 rfl) 1 c1 rfl) hne.2.2.2.2.2.2.2.2 d0) hne.2.2.2.2.2.2.2.2 d1
  · exact blk_put (blk_put (blk_far (p := ⟨gz, 1, none⟩) (blk_far (p := ⟨gz, 0, none⟩) ho (Ne.symm hne.2.2.2.2.2.2.2.2) c0) (Ne.symm hne.2.2.2.2.2.2.2.2) c1) 0 d0 rfl) 1 d1 rfl
  · exact (((hbelow.setCell (p := ⟨gz, 0, none⟩) hge.2.1 c0).setCell (p := ⟨gz, 1, none⟩) hge.2.1 c1).setCell (p := ⟨go, 0, none⟩) hge.2.2 d0).setCell (p := ⟨go, 1, none⟩) hge.2.2 d1
end
set_option maxHeartbeats 8000000 in
set_option maxRecDepth 100000 in
theorem mask_Of.calls (k : Nat) (A0 : Option Addr) (c0 : Nat) (l0 : List Int) (a1 : Int) (A2_0 : Option Addr) (c2_0 : Nat) (l2_0 : List Int) (A2_1 : Option Addr) (c2_1 : Nat) (l2_1 : List Int) (r1 : Int) (r2 : Int) (r3 : Int) (r4 : Int) (w : World) (hr0 : Kd.C (Kd.int .u64) w A0 l0.length l0) (hc0 : l0.length ≤ c0) (hr2_0 : Kd.C (Kd.int .u64) w A2_0 l2_0.length l2_0) (hc2_0 : l2_0.length ≤ c2_0) (hr2_1 : Kd.C (Kd.int .u64) w A2_1 l2_1.length l2_1) (hc2_1 : l2_1.length ≤ c2_1) (h : mask_Of.f k l0 a1 l2_0 l2_1 = some (r1, r2, r3, r4)) :
  Calls Try.prog 38 #[.slice A0 l0.length c0, .int .i64 a1, .agg #[.slice A2_0 l2_0.length c2_0, .slice A2_1 l2_1.length c2_1]] w fun e w' => e = .returned (.tuple #[.agg #[.int .i64 r1, .int .i64 r2, .int .i64 r3], .int .i64 r4]) ∧ Below w.heap.size w w' := by
 have hu32 := Try.underlying32
 have hu52 := Try.underlying52
 have hu107 := Try.underlying107
 have HR := Aside0.mk hr0
 have HC := Aside0.mk hc0
 have HR0 := Aside0.mk hr2_0
 have HC0 := Aside0.mk hc2_0
 have HR1 := Aside0.mk hr2_1
 have HC1 := Aside0.mk hc2_1
 obtain ⟨ec, he, H1⟩ := Option.bind_eq_some_iff.mp h
 have HE := Aside0.mk he
 have H := Aside0.mk H1
 clear hr0 hc0 hr2_0 hc2_0 hr2_1 hc2_1 h he H1
 by_cases hz : ec = 0
 ·subst hz
  have H0 := H.out
  rw [if_pos rfl] at H0
  have H' := Aside0.mk H0
  clear H H0
  go_enter Try.func38, Try.ntmps38
  go_wp2_with (first | ((with_reducible refine gate_dst (N := 5) rfl ?_); refine box_event ?hg (N := 5) ?hd (cs := #[.slice A2_0 l2_0.length c2_0, .slice A2_1 l2_1.length c2_1]) (t := 32) ?hr ?_; (case hd => rfl); (case hg => rfl); (case hr => first | (go_simp; done) | (go_simp; rfl)); intro gb hg w1 hbox hb; have HB := Aside0.mk hb; have BKB := Aside0.mk hbox; clear hb hbox hg) | ((with_reducible refine gate_dst (N := 6) rfl ?_); refine box_event ?hg (N := 6) ?hd (cs := #[.int .i64 0, .int .i64 0, .int .i64 0]) (t := 52) ?hr ?_; (case hd => rfl); (case hg => rfl); (case hr => first | (go_simp; done) | (go_simp; rfl)); intro g6 hg w2 hbox hb; have n0_ := Aside0.mk (below_step HB.out hb); have n1_ := Aside0.mk (blk_below BKB.out hb); have HG6 := Aside0.mk (show w.heap.size ≤ g6 by rw [hg]; exact HB.out.size); clear HB BKB; have HB := n0_; have BKB := n1_; have BK6 := Aside0.mk hbox; clear n0_ n1_ hb hbox hg; have hb20 := (blk_cell BKB.out 0).trans rfl; have hb21 := (blk_cell BKB.out 1).trans rfl) | (go_at_call 82; refine (mask_check.calls k A0 c0 l0 a1 0 A2_0 c2_0 l2_0 A2_1 c2_1 l2_1 _ _ (Kd.C_below HR.out HB.out) HC.out (Kd.C_below HR0.out HB.out) HC0.out (Kd.C_below HR1.out HB.out) HC1.out HE.out).mono ?_; rintro e w3 ⟨rfl, hb⟩; have n0_ := Aside0.mk (below_step HB.out hb); have n1_ := Aside0.mk (blk_below BKB.out hb); have n2_ := Aside0.mk (blk_below BK6.out hb); clear HB BKB BK6 hb; have HB := n0_; have BKB := n1_; have BK6 := n2_; clear n0_ n1_ n2_; have h60 := (blk_cell BK6.out 0).trans rfl; have h61 := (blk_cell BK6.out 1).trans rfl; have h62 := (blk_cell BK6.out 2).trans rfl; have f60 := blk_frozen BK6.out 0; have f61 := blk_frozen BK6.out 1; have f62 := blk_frozen BK6.out 2) | ((with_reducible refine gate_dst (N := 9) rfl ?_); refine box_event ?hg (N := 9) ?hd (cs := #[.int .i64 0, .int .i64 0, .int .i64 0]) (t := 52) ?hr ?_; (case hd => rfl); (case hg => rfl); (case hr => first | (go_simp; done) | (go_simp; rfl)); intro g9 hg w4 hbox hb; have n0_ := Aside0.mk (below_step HB.out hb); have n1_ := Aside0.mk (blk_below BKB.out hb); have n2_ := Aside0.mk (blk_below BK6.out hb); have HG9 := Aside0.mk (show w.heap.size ≤ g9 by rw [hg]; exact HB.out.size); have HN9 := Aside0.mk (show gb ≠ g9 ∧ g6 ≠ g9 by rw [hg]; exact ⟨Nat.ne_of_lt (blk_lt BKB.out), Nat.ne_of_lt (blk_lt BK6.out)⟩); clear HB BKB BK6; have HB := n0_; have BKB := n1_; have BK6 := n2_; have BK9 := Aside0.mk hbox; clear n0_ n1_ n2_ hb hbox hg h60 h61 h62 f60 f61 f62; have h90 := (blk_cell BK9.out 0).trans rfl; have h91 := (blk_cell BK9.out 1).trans rfl; have h92 := (blk_cell BK9.out 2).trans rfl; have f90 := blk_frozen BK9.out 0; have f91 := blk_frozen BK9.out 1; have f92 := blk_frozen BK9.out 2))
  have n0_ := Aside0.mk (blk_put (blk_put (blk_put BK9.out 0 (.int .i64 (l0.length : Int)) rfl) 1 (.int .i64 0) rfl) 2 (.int .i64 0) rfl)
  have n1_ := Aside0.mk (((HB.out.setCell (p := ⟨g9, 0, none⟩) HG9.out (.int .i64 (l0.length : Int))).setCell (p := ⟨g9, 1, none⟩) HG9.out (.int .i64 0)).setCell (p := ⟨g9, 2, none⟩) HG9.out (.int .i64 0))
  have n2_ := Aside0.mk (blk_far (p := ⟨g9, 2, none⟩) (blk_far (p := ⟨g9, 1, none⟩) (blk_far (p := ⟨g9, 0, none⟩) BKB.out HN9.out.1 (.int .i64 (l0.length : Int))) HN9.out.1 (.int .i64 0)) HN9.out.1 (.int .i64 0))
  have n3_ := Aside0.mk (blk_far (p := ⟨g9, 2, none⟩) (blk_far (p := ⟨g9, 1, none⟩) (blk_far (p := ⟨g9, 0, none⟩) BK6.out HN9.out.2 (.int .i64 (l0.length : Int))) HN9.out.2 (.int .i64 0)) HN9.out.2 (.int .i64 0))
  clear HB BKB BK6 BK9 h90 h91 h92 f90 f91 f92
  generalize ((w4.setCell ⟨g9, 0, none⟩ (.int .i64 (l0.length : Int))).setCell ⟨g9, 1, none⟩ (.int .i64 0)).setCell ⟨g9, 2, none⟩ (.int .i64 0) = w1 at n0_ n1_ n2_ n3_ ⊢
  go_loopg [27] k (fun kq v27 w' => ∃ x lw hw : Int, v27 = .int .i64 x ∧ Aside0 (mask_Of.l0 kq a1 l0 (l0.length : Int) x l2_0 l2_1 (l0.length : Int) lw hw = some (r1, r2, r3, r4)) ∧ Aside0 (kq ≤ k) ∧ Aside0 (w'.heap[gb]? = some (.cells #[.slice A2_0 l2_0.length c2_0, .slice A2_1 l2_1.length c2_1] 32 (0, 0))) ∧ Aside0 (w'.heap[g6]? = some (.cells #[.int .i64 0, .int .i64 0, .int .i64 0] 52 (0, 0))) ∧ Aside0 (w'.heap[g9]? = some (.cells #[.int .i64 (l0.length : Int), .int .i64 lw, .int .i64 hw] 52 (0, 0))) ∧ Aside0 (Below w.heap.size w w'))
  case atStart => exact ⟨0, 0, 0, rfl, H', ⟨Nat.le_refl _⟩, n2_, n3_, n0_, n1_⟩
  case round =>
   clear H' n0_ n1_ n2_ n3_
   obtain ⟨x, lw, hw, rfl, HA, HK, BKB, BK6, BK9, HB⟩ := hrel
   cases gk with
   | zero => exact absurd HA.out (by simp [mask_Of.l0])
   | succ k1 =>
    have H := HA.out
    clear HA
    simp only [mask_Of.l0] at H
    by_cases c1 : x < (l0.length : Int)
    ·rw [if_pos c1] at H
     by_cases c2 : 0 ≤ x
     ·rw [if_pos c2] at H
      rw [if_pos c1] at H
      obtain ⟨⟨t0, t1, t2, t3⟩, hh, H⟩ := Option.bind_eq_some_iff.mp H
      have HH := Aside0.mk hh
      dsimp only at H
      by_cases c3 : x < (l2_0.length : Int)
      ·rw [if_pos c3] at H
       by_cases c4 : x < (l2_1.length : Int)
       ·rw [if_pos c4] at H
        obtain ⟨tz, hz, H⟩ := Option.bind_eq_some_iff.mp H
        have HZ := Aside0.mk hz
        have HL := Aside0.mk H
        clear hh hz H
        obtain ⟨adp, ep, hxp⟩ := Kd.at_int HR.out x c2 c1
        subst ep
        have HXP := Aside0.mk hxp
        have hxp' := (HB.out.cell (World.block_lt_of_cell? w _ hxp)).trans hxp
        obtain ⟨ad0, e0, hx0⟩ := Kd.at_int HR0.out x c2 c3
        subst e0
        have HX0 := Aside0.mk hx0
        obtain ⟨ad1, e1, hx1⟩ := Kd.at_int HR1.out x c2 c4
        subst e1
        have HX1 := Aside0.mk hx1
        clear hxp hx0 hx1
        have d1 := decide_eq_true c1
        have p1 := eq_true c1
        have p2 := eq_true c2
        have p3 := eq_true c3
        have p4 := eq_true c4
        clear c1 c2 c3 c4
        go_wp2_with (first | (go_at_call 83; refine (mask_halves.calls (rd l0 x) a1 t0 t1 t2 t3 _ HH.out).mono ?_; rintro e w2 ⟨rfl, hb⟩; have n0_ := Aside0.mk (below_step HB.out hb); have n1_ := Aside0.mk (blk_below BKB.out hb); have n2_ := Aside0.mk (blk_below BK6.out hb); have n3_ := Aside0.mk (blk_below BK9.out hb); clear HB BKB BK6 BK9 hb; have HB := n0_; have BKB := n1_; have BK6 := n2_; have BK9 := n3_; clear n0_ n1_ n2_ n3_) | ((with_reducible refine gate_dst (N := 12) rfl ?_); refine box_event ?hg (N := 12) ?hd (cs := #[.int .u64 0, .int .u64 0]) (t := 107) ?hr ?_; (case hd => rfl); (case hg => rfl); (case hr => first | (go_simp; done) | (go_simp; rfl)); intro gz hg w3 hbox hb; have n0_ := Aside0.mk (below_step HB.out hb); have n1_ := Aside0.mk (blk_below BKB.out hb); have n2_ := Aside0.mk (blk_below BK6.out hb); have n3_ := Aside0.mk (blk_below BK9.out hb); have HGZ := Aside0.mk (show w.heap.size ≤ gz by rw [hg]; exact HB.out.size); have HNZ := Aside0.mk (show gb ≠ gz ∧ g6 ≠ gz ∧ gz ≠ g9 by rw [hg]; exact ⟨Nat.ne_of_lt (blk_lt BKB.out), Nat.ne_of_lt (blk_lt BK6.out), Nat.ne_of_gt (blk_lt BK9.out)⟩); clear HB BKB BK6 BK9; have HB := n0_; have BKB := n1_; have BK6 := n2_; have BK9 := n3_; have BKZ := Aside0.mk hbox; clear n0_ n1_ n2_ n3_ hb hbox hg) | ((with_reducible refine gate_dst (N := 13) rfl ?_); refine box_event ?hg (N := 13) ?hd (cs := #[.int .u64 0, .int .u64 0]) (t := 107) ?hr ?_; (case hd => rfl); (case hg => rfl); (case hr => first | (go_simp; done) | (go_simp; rfl)); intro go hg w4 hbox hb; have HS0 := Aside0.mk (mask_Of.St.mk (lw := lw) (hw := hw) (gz := gz) (g9 := g9) (go := go) (blk_below BKB.out hb) (blk_below BK6.out hb) (blk_below BK9.out hb) (blk_below BKZ.out hb) hbox (below_step HB.out hb) ⟨HG9.out, HGZ.out, by rw [hg]; exact HB.out.size⟩ (by rw [hg]; exact ⟨HN9.out.1, HN9.out.2, HNZ.out.2.2, Nat.ne_of_gt (blk_lt BK9.out), HNZ.out.1, HNZ.out.2.1, Nat.ne_of_lt (blk_lt BKB.out), Nat.ne_of_lt (blk_lt BK6.out), Nat.ne_of_lt (blk_lt BKZ.out)⟩)); clear hb hbox hg HB BKB BK6 BK9 BKZ; have z0 := (blk_cell HS0.out.z 0).trans rfl; have z1 := (blk_cell HS0.out.z 1).trans rfl; have fz0 := blk_frozen HS0.out.z 0; have fz1 := blk_frozen HS0.out.z 1; have hzo := HS0.out.ne.2.2.2.2.2.2.2.2; have hzo2 := Ne.symm hzo; have hz9 := HS0.out.ne.2.2.1; have hz92 := Ne.symm hz9; have ho9 := HS0.out.ne.2.2.2.1; have ho92 := Ne.symm ho9; have o0 := (blk_cell HS0.out.o 0).trans rfl; have o1 := (blk_cell HS0.out.o 1).trans rfl; have fo0 := blk_frozen HS0.out.o 0; have fo1 := blk_frozen HS0.out.o 1; have m0 := (blk_cell HS0.out.m 0).trans rfl; have m1 := (blk_cell HS0.out.m 1).trans rfl; have m2 := (blk_cell HS0.out.m 2).trans rfl; have fm1 := blk_frozen HS0.out.m 1; have fm2 := blk_frozen HS0.out.m 2))
        have n0_ := Aside0.mk (((HS0.out.halves (c0 := .int .u64 t0) (c1 := .int .u64 t1) (d0 := .int .u64 t2) (d1 := .int .u64 t3)).set1 (wrap64 (lw * 2))).set2 (wrap64 (hw * 2)))
        clear HS0 z0 z1 fz0 fz1 o0 o1 fo0 fo1 m0 m1 m2 fm1 fm2 hzo hzo2 hz9 hz92 ho9 ho92
        generalize (((((w4.setCell ⟨gz, 0, none⟩ (.int .u64 t0)).setCell ⟨gz, 1, none⟩ (.int .u64 t1)).setCell ⟨go, 0, none⟩ (.int .u64 t2)).setCell ⟨go, 1, none⟩ (.int .u64 t3)).setCell ⟨g9, 1, none⟩ (.int .i64 (wrap64 (lw * 2)))).setCell ⟨g9, 2, none⟩ (.int .i64 (wrap64 (hw * 2))) = w5 at n0_ ⊢
        have HS := n0_
        clear n0_
        refine start_ (n := 13) (S := fun w' => w'.cell? ⟨gz, 0, none⟩ = some (.int .u64 t0) ∧ w'.cell? ⟨gz, 1, none⟩ = some (.int .u64 t1) ∧ w'.cell? ⟨gb, 0, none⟩ = some (.slice (some ad0) l2_0.length c2_0) ∧ w'.cell? ⟨gb, 1, none⟩ = some (.slice (some ad1) l2_1.length c2_1) ∧ w'.cell? (ad0.add x.toNat) = some (.int .u64 (rd l2_0 x)) ∧ w'.cell? (ad1.add x.toNat) = some (.int .u64 (rd l2_1 x))) (ds := []) #[O,O,O,O,O,O,O,O,O,O,O,O,O] (by kernel_rfl) rfl rfl ⟨(blk_cell (HS.out.z) 0).trans rfl, (blk_cell (HS.out.z) 1).trans rfl, (blk_cell HS.out.box 0).trans rfl, (blk_cell HS.out.box 1).trans rfl, (HS.out.below.cell (World.block_lt_of_cell? w _ HX0.out)).trans HX0.out, (HS.out.below.cell (World.block_lt_of_cell? w _ HX1.out)).trans HX1.out⟩ (fun hHeld => ?_)
        have n0_ := Aside0.mk (HS.out.mv (below_drew (Below.refl _ _)))
        clear HS
        generalize w5.drew = w6 at n0_ hHeld ⊢
        have HS := n0_
        clear n0_
        refine pure_ (i := 1) (N := some 47) (v := ?_) (a' := ?_) #[O,Y,O,O,O,O,O,O,O,O,O,O,O] rfl rfl (by kernel_rfl) (fun _ _ _ h => h) (Or.inl ⟨by rfl, ?_⟩) ?_ ?_
        rotate_left
        ·intro w'
         go_simp
         with_reducible rfl
        rotate_left
        ·simp only [Act.put, lsA, ls0, ls1, i64_w, i32_w]
         rfl
        refine pure_ (i := 3) (N := some 49) (v := ?_) (a' := ?_) #[O,Y,O,Y,O,O,O,O,O,O,O,O,O] rfl rfl (by kernel_rfl) (fun _ _ _ h => h) (Or.inl ⟨by rfl, ?_⟩) ?_ ?_
        rotate_left
        ·intro w'
         go_simp
         with_reducible rfl
        rotate_left
        ·simp only [Act.put, lsA, ls0, ls1, i64_w, i32_w]
         rfl
        refine pure_ (i := 6) (N := some 52) (v := ?_) (a' := ?_) #[O,Y,O,Y,O,O,Y,O,O,O,O,O,O] rfl rfl (by kernel_rfl) (fun _ _ _ h => h) (Or.inl ⟨by rfl, ?_⟩) ?_ ?_
        rotate_left
        ·intro w'
         go_simp
         with_reducible rfl
        rotate_left
        ·simp only [Act.put, lsA, ls0, ls1, i64_w, i32_w]
         rfl
        refine pure_ (i := 8) (N := some 54) (v := ?_) (a' := ?_) #[O,Y,O,Y,O,O,Y,O,Y,O,O,O,O] rfl rfl (by kernel_rfl) (fun _ _ _ h => h) (Or.inl ⟨by rfl, ?_⟩) ?_ ?_
        rotate_left
        ·intro w'
         go_simp
         with_reducible rfl
        rotate_left
        ·simp only [Act.put, lsA, ls0, ls1, i64_w, i32_w]
         rfl
        refine take_ (i := 0) (N := some 46) (v := ?_) (a' := ?_) #[Y,Y,O,Y,O,O,Y,O,Y,O,O,O,O] rfl rfl (by kernel_rfl) (fun _ _ _ h => h) (Or.inl ⟨by rfl, ?_⟩) hHeld ?_ ?_
        rotate_left
        ·rintro w' ⟨s0, s1, s2, s3, s4, s5⟩
         go_simp
         with_reducible rfl
        rotate_left
        ·simp only [Act.put, lsA, ls0, ls1, i64_w, i32_w]
         rfl
        refine take_ (i := 2) (N := some 48) (v := ?_) (a' := ?_) #[Y,Y,Y,Y,O,O,Y,O,Y,O,O,O,O] rfl rfl (by kernel_rfl) (fun _ _ _ h => h) (Or.inl ⟨by rfl, ?_⟩) hHeld ?_ ?_
        rotate_left
        ·rintro w' ⟨s0, s1, s2, s3, s4, s5⟩
         go_simp
         with_reducible rfl
        rotate_left
        ·simp only [Act.put, lsA, ls0, ls1, i64_w, i32_w]
         rfl
        refine pure_ (i := 4) (N := some 50) (v := ?_) (a' := ?_) #[Y,Y,Y,Y,Y,O,Y,O,Y,O,O,O,O] rfl rfl (by kernel_rfl) (fun _ _ _ h => h) (Or.inl ⟨by rfl, ?_⟩) ?_ ?_
        rotate_left
        ·intro w'
         go_simp
         with_reducible rfl
        rotate_left
        ·simp only [Act.put, lsA, ls0, ls1, i64_w, i32_w]
         rfl
        refine take_ (i := 5) (N := some 51) (v := ?_) (a' := ?_) #[Y,Y,Y,Y,Y,Y,Y,O,Y,O,O,O,O] rfl rfl (by kernel_rfl) (fun _ _ _ h => h) (Or.inl ⟨by rfl, ?_⟩) hHeld ?_ ?_
        rotate_left
        ·rintro w' ⟨s0, s1, s2, s3, s4, s5⟩
         go_simp
         with_reducible rfl
        rotate_left
        ·simp only [Act.put, lsA, ls0, ls1, i64_w, i32_w]
         rfl
        refine take_ (i := 7) (N := some 53) (v := ?_) (a' := ?_) #[Y,Y,Y,Y,Y,Y,Y,Y,Y,O,O,O,O] rfl rfl (by kernel_rfl) (fun _ _ _ h => h) (Or.inl ⟨by rfl, ?_⟩) hHeld ?_ ?_
        rotate_left
        ·rintro w' ⟨s0, s1, s2, s3, s4, s5⟩
         go_simp
         with_reducible rfl
        rotate_left
        ·simp only [Act.put, lsA, ls0, ls1, i64_w, i32_w]
         rfl
        refine pure_ (i := 9) (N := some 55) (v := ?_) (a' := ?_) #[Y,Y,Y,Y,Y,Y,Y,Y,Y,Y,O,O,O] rfl rfl (by kernel_rfl) (fun _ _ _ h => h) (Or.inl ⟨by rfl, ?_⟩) ?_ ?_
        rotate_left
        ·intro w'
         go_simp
         with_reducible rfl
        rotate_left
        ·simp only [Act.put, lsA, ls0, ls1, i64_w, i32_w]
         rfl
        refine take_ (i := 10) (N := some 56) (v := ?_) (a' := ?_) #[Y,Y,Y,Y,Y,Y,Y,Y,Y,Y,Y,O,O] rfl rfl (by kernel_rfl) (fun _ _ _ h => h) (Or.inl ⟨by rfl, ?_⟩) hHeld ?_ ?_
        rotate_left
        ·rintro w' ⟨s0, s1, s2, s3, s4, s5⟩
         go_simp
         with_reducible rfl
        rotate_left
        ·simp only [Act.put, lsA, ls0, ls1, i64_w, i32_w]
         rfl
        refine one_ (i := 11) (N := some 57) #[Y,Y,Y,Y,Y,Y,Y,Y,Y,Y,Y,Y,O] rfl rfl (by kernel_rfl) (by decide) (fun K hK => ?_)
        refine goes_ Try.func84 (by kernel_rfl) rfl #[.agg #[.int .u64 t0, .int .u64 t1], .int .u64 (rd l2_0 x), .int .u64 (rd l2_1 x)] (by rfl) rfl rfl (by (try simp only [List.map_toArray, List.map_cons, List.map_nil]); rfl) ?_
        refine (mask_leaves.calls t0 t1 (rd l2_0 x) (rd l2_1 x) _ _ HZ.out).mono ?_
        rintro e w7 ⟨rfl, hb⟩
        have n0_ := Aside0.mk (HS.out.mv hb)
        clear HS hb
        have HS := n0_
        clear n0_
        refine ⟨_, rfl, hK.out _ _ ⟨(blk_cell (HS.out.z) 0).trans rfl, (blk_cell (HS.out.z) 1).trans rfl, (blk_cell HS.out.box 0).trans rfl, (blk_cell HS.out.box 1).trans rfl, (HS.out.below.cell (World.block_lt_of_cell? w _ HX0.out)).trans HX0.out, (HS.out.below.cell (World.block_lt_of_cell? w _ HX1.out)).trans HX1.out⟩ (fun hHeld => ?_)⟩
        clear hK K
        refine norm_ (a' := ?_) ?_ ?_
        rotate_left
        ·show Act.put _ (some 57) _ = _
         simp only [Act.put, lsA, ls0, ls1, i64_w, i32_w]
         rfl
        refine pure_ (i := 12) (N := some 58) (v := ?_) (a' := ?_) #[Y,Y,Y,Y,Y,Y,Y,Y,Y,Y,Y,Y,Y] rfl rfl (by kernel_rfl) (fun _ _ _ h => h) (Or.inl ⟨by rfl, ?_⟩) ?_ ?_
        rotate_left
        ·intro w'
         go_simp
         with_reducible rfl
        rotate_left
        ·simp only [Act.put, lsA, ls0, ls1, i64_w, i32_w]
         rfl
        refine done_ (by kernel_rfl) ?_
        by_cases htz : tz = true
        case' pos =>
         subst htz
         have H := HL.out
         rw [if_pos rfl] at H
         obtain ⟨tq, ho, H⟩ := Option.bind_eq_some_iff.mp H
         have HO1 := Aside0.mk ho
         have HL2 := Aside0.mk H
         clear HL H ho
         go_wp2
         revert HS
         generalize w7 = w8
         intro HS
        case' neg =>
         replace htz := Bool.eq_false_iff.mpr htz
         subst htz
         have H := HL.out
         rw [if_neg (by simp)] at H
         obtain ⟨tq, ho, H⟩ := Option.bind_eq_some_iff.mp H
         have HO1 := Aside0.mk ho
         have HL2 := Aside0.mk H
         clear HL H ho
         have m1 := (blk_cell HS.out.m 1).trans rfl
         have fm1 := blk_frozen HS.out.m 1
         go_wp2
         have n0_ := Aside0.mk (HS.out.set1 (Go.bits .or .i64 (wrap64 (lw * 2)) 1))
         clear HS m1 fm1
         generalize w7.setCell ⟨g9, 1, none⟩ (.int .i64 (Go.bits .or .i64 (wrap64 (lw * 2)) 1)) = w8 at n0_ ⊢
         have HS := n0_
         clear n0_
        all_goals
         refine start_ (n := 12) (S := fun w' => w'.cell? ⟨go, 0, none⟩ = some (.int .u64 t2) ∧ w'.cell? ⟨go, 1, none⟩ = some (.int .u64 t3) ∧ w'.cell? ⟨gb, 0, none⟩ = some (.slice (some ad0) l2_0.length c2_0) ∧ w'.cell? ⟨gb, 1, none⟩ = some (.slice (some ad1) l2_1.length c2_1) ∧ w'.cell? (ad0.add x.toNat) = some (.int .u64 (rd l2_0 x)) ∧ w'.cell? (ad1.add x.toNat) = some (.int .u64 (rd l2_1 x))) (ds := []) #[O,O,O,O,O,O,O,O,O,O,O,O] (by kernel_rfl) rfl rfl ⟨(blk_cell (HS.out.o) 0).trans rfl, (blk_cell (HS.out.o) 1).trans rfl, (blk_cell HS.out.box 0).trans rfl, (blk_cell HS.out.box 1).trans rfl, (HS.out.below.cell (World.block_lt_of_cell? w _ HX0.out)).trans HX0.out, (HS.out.below.cell (World.block_lt_of_cell? w _ HX1.out)).trans HX1.out⟩ (fun hHeld => ?_)
         have n0_ := Aside0.mk (HS.out.mv (below_drew (Below.refl _ _)))
         clear HS
         generalize w8.drew = w9 at n0_ hHeld ⊢
         have HS := n0_
         clear n0_
         refine pure_ (i := 1) (N := some 64) (v := ?_) (a' := ?_) #[O,Y,O,O,O,O,O,O,O,O,O,O] rfl rfl (by kernel_rfl) (fun _ _ _ h => h) (Or.inl ⟨by rfl, ?_⟩) ?_ ?_
         rotate_left
         ·intro w'
          go_simp
          with_reducible rfl
         rotate_left
         ·simp only [Act.put, lsA, ls0, ls1, i64_w, i32_w]
          rfl
         refine pure_ (i := 3) (N := some 66) (v := ?_) (a' := ?_) #[O,Y,O,Y,O,O,O,O,O,O,O,O] rfl rfl (by kernel_rfl) (fun _ _ _ h => h) (Or.inl ⟨by rfl, ?_⟩) ?_ ?_
         rotate_left
         ·intro w'
          go_simp
          with_reducible rfl
         rotate_left
         ·simp only [Act.put, lsA, ls0, ls1, i64_w, i32_w]
          rfl
         refine pure_ (i := 6) (N := some 69) (v := ?_) (a' := ?_) #[O,Y,O,Y,O,O,Y,O,O,O,O,O] rfl rfl (by kernel_rfl) (fun _ _ _ h => h) (Or.inl ⟨by rfl, ?_⟩) ?_ ?_
         rotate_left
         ·intro w'
          go_simp
          with_reducible rfl
         rotate_left
         ·simp only [Act.put, lsA, ls0, ls1, i64_w, i32_w]
          rfl
         refine pure_ (i := 8) (N := some 71) (v := ?_) (a' := ?_) #[O,Y,O,Y,O,O,Y,O,Y,O,O,O] rfl rfl (by kernel_rfl) (fun _ _ _ h => h) (Or.inl ⟨by rfl, ?_⟩) ?_ ?_
         rotate_left
         ·intro w'
          go_simp
          with_reducible rfl
         rotate_left
         ·simp only [Act.put, lsA, ls0, ls1, i64_w, i32_w]
          rfl
         refine take_ (i := 0) (N := some 63) (v := ?_) (a' := ?_) #[Y,Y,O,Y,O,O,Y,O,Y,O,O,O] rfl rfl (by kernel_rfl) (fun _ _ _ h => h) (Or.inl ⟨by rfl, ?_⟩) hHeld ?_ ?_
         rotate_left
         ·rintro w' ⟨s0, s1, s2, s3, s4, s5⟩
          go_simp
          with_reducible rfl
         rotate_left
         ·simp only [Act.put, lsA, ls0, ls1, i64_w, i32_w]
          rfl
         refine take_ (i := 2) (N := some 65) (v := ?_) (a' := ?_) #[Y,Y,Y,Y,O,O,Y,O,Y,O,O,O] rfl rfl (by kernel_rfl) (fun _ _ _ h => h) (Or.inl ⟨by rfl, ?_⟩) hHeld ?_ ?_
         rotate_left
         ·rintro w' ⟨s0, s1, s2, s3, s4, s5⟩
          go_simp
          with_reducible rfl
         rotate_left
         ·simp only [Act.put, lsA, ls0, ls1, i64_w, i32_w]
          rfl
         refine pure_ (i := 4) (N := some 67) (v := ?_) (a' := ?_) #[Y,Y,Y,Y,Y,O,Y,O,Y,O,O,O] rfl rfl (by kernel_rfl) (fun _ _ _ h => h) (Or.inl ⟨by rfl, ?_⟩) ?_ ?_
         rotate_left
         ·intro w'
          go_simp
          with_reducible rfl
         rotate_left
         ·simp only [Act.put, lsA, ls0, ls1, i64_w, i32_w]
          rfl
         refine take_ (i := 5) (N := some 68) (v := ?_) (a' := ?_) #[Y,Y,Y,Y,Y,Y,Y,O,Y,O,O,O] rfl rfl (by kernel_rfl) (fun _ _ _ h => h) (Or.inl ⟨by rfl, ?_⟩) hHeld ?_ ?_
         rotate_left
         ·rintro w' ⟨s0, s1, s2, s3, s4, s5⟩
          go_simp
          with_reducible rfl
         rotate_left
         ·simp only [Act.put, lsA, ls0, ls1, i64_w, i32_w]
          rfl
         refine take_ (i := 7) (N := some 70) (v := ?_) (a' := ?_) #[Y,Y,Y,Y,Y,Y,Y,Y,Y,O,O,O] rfl rfl (by kernel_rfl) (fun _ _ _ h => h) (Or.inl ⟨by rfl, ?_⟩) hHeld ?_ ?_
         rotate_left
         ·rintro w' ⟨s0, s1, s2, s3, s4, s5⟩
          go_simp
          with_reducible rfl
         rotate_left
         ·simp only [Act.put, lsA, ls0, ls1, i64_w, i32_w]
          rfl
         refine pure_ (i := 9) (N := some 72) (v := ?_) (a' := ?_) #[Y,Y,Y,Y,Y,Y,Y,Y,Y,Y,O,O] rfl rfl (by kernel_rfl) (fun _ _ _ h => h) (Or.inl ⟨by rfl, ?_⟩) ?_ ?_
         rotate_left
         ·intro w'
          go_simp
          with_reducible rfl
         rotate_left
         ·simp only [Act.put, lsA, ls0, ls1, i64_w, i32_w]
          rfl
         refine take_ (i := 10) (N := some 73) (v := ?_) (a' := ?_) #[Y,Y,Y,Y,Y,Y,Y,Y,Y,Y,Y,O] rfl rfl (by kernel_rfl) (fun _ _ _ h => h) (Or.inl ⟨by rfl, ?_⟩) hHeld ?_ ?_
         rotate_left
         ·rintro w' ⟨s0, s1, s2, s3, s4, s5⟩
          go_simp
          with_reducible rfl
         rotate_left
         ·simp only [Act.put, lsA, ls0, ls1, i64_w, i32_w]
          rfl
         refine one_ (i := 11) (N := some 74) #[Y,Y,Y,Y,Y,Y,Y,Y,Y,Y,Y,Y] rfl rfl (by kernel_rfl) (by decide) (fun K hK => ?_)
         refine goes_ Try.func84 (by kernel_rfl) rfl #[.agg #[.int .u64 t2, .int .u64 t3], .int .u64 (rd l2_0 x), .int .u64 (rd l2_1 x)] (by rfl) rfl rfl (by (try simp only [List.map_toArray, List.map_cons, List.map_nil]); rfl) ?_
         refine (mask_leaves.calls t2 t3 (rd l2_0 x) (rd l2_1 x) _ _ HO1.out).mono ?_
         rintro e w10 ⟨rfl, hb⟩
         have n0_ := Aside0.mk (HS.out.mv hb)
         clear HS hb
         have HS := n0_
         clear n0_
         refine ⟨_, rfl, hK.out _ _ ⟨(blk_cell (HS.out.o) 0).trans rfl, (blk_cell (HS.out.o) 1).trans rfl, (blk_cell HS.out.box 0).trans rfl, (blk_cell HS.out.box 1).trans rfl, (HS.out.below.cell (World.block_lt_of_cell? w _ HX0.out)).trans HX0.out, (HS.out.below.cell (World.block_lt_of_cell? w _ HX1.out)).trans HX1.out⟩ (fun hHeld => ?_)⟩
         clear hK K
         refine norm_ (a' := ?_) ?_ ?_
         rotate_left
         ·show Act.put _ (some 74) _ = _
          simp only [Act.put, lsA, ls0, ls1, i64_w, i32_w]
          rfl
         refine done_ (by kernel_rfl) ?_
         have m2 := (blk_cell HS.out.m 2).trans rfl
         have fm2 := blk_frozen HS.out.m 2
         have H := HL2.out
         by_cases hto : tq = true
         ·subst hto
          rw [if_pos rfl] at H
          have HH2 := Aside0.mk H
          clear H HL2
          go_wp2
          go_roundg k1
          case measure => have := HK.out; omega
          case rel => exact ⟨_, _, _, rfl, HH2, ⟨by have := HK.out; omega⟩, ⟨(HS.out.set2 _).box⟩, ⟨(HS.out.set2 _).res⟩, ⟨(HS.out.set2 _).m⟩, ⟨(HS.out.set2 _).below⟩⟩
         ·rw [if_neg hto] at H
          replace hto := Bool.eq_false_iff.mpr hto
          subst hto
          have HH2 := Aside0.mk H
          clear H HL2
          go_wp2
          go_roundg k1
          case measure => have := HK.out; omega
          case rel => exact ⟨_, _, _, rfl, HH2, ⟨by have := HK.out; omega⟩, ⟨HS.out.box⟩, ⟨HS.out.res⟩, ⟨HS.out.m⟩, ⟨HS.out.below⟩⟩
       ·rw [if_neg c4] at H
        exact absurd H (by simp)
      ·rw [if_neg c3] at H
       exact absurd H (by simp)
     ·rw [if_neg c2] at H
      exact absurd H (by simp)
    ·rw [if_neg c1] at H
     simp only [Option.some.injEq, Prod.mk.injEq] at H
     obtain ⟨rfl, rfl, rfl, rfl⟩ := H
     have d1 := decide_eq_false c1
     have hne := Ne.symm HN9.out.2
     have hne2 := HN9.out.2
     have m0 := (blk_cell BK9.out 0).trans rfl
     have m1 := (blk_cell BK9.out 1).trans rfl
     have m2 := (blk_cell BK9.out 2).trans rfl
     have h60 := (blk_cell BK6.out 0).trans rfl
     have h61 := (blk_cell BK6.out 1).trans rfl
     have h62 := (blk_cell BK6.out 2).trans rfl
     have f60 := blk_frozen BK6.out 0
     have f61 := blk_frozen BK6.out 1
     have f62 := blk_frozen BK6.out 2
     clear c1
     go_wp2
     refine bodyPost_ret (results_ct rfl _ _ g6 52 #[.int .i64 (l0.length : Int), .int .i64 lw, .int .i64 hw] (0, 0) _ rfl (blk_put (cs := #[.int .i64 (l0.length : Int), .int .i64 lw, .int .i64 0]) (blk_put (cs := #[.int .i64 (l0.length : Int), .int .i64 0, .int .i64 0]) (blk_put (cs := #[.int .i64 0, .int .i64 0, .int .i64 0]) BK6.out 0 _ rfl) 1 _ rfl) 2 _ rfl) Try.underlying52 rfl (by kernel_rfl)) rfl ?_
     exact ⟨rfl, ((HB.out.setCell (p := ⟨g6, 0, none⟩) HG6.out _).setCell (p := ⟨g6, 1, none⟩) HG6.out _).setCell (p := ⟨g6, 2, none⟩) HG6.out _⟩
 ·have H1 := H.out
  rw [if_neg hz] at H1
  simp only [Option.some.injEq, Prod.mk.injEq] at H1
  obtain ⟨rfl, rfl, rfl, rfl⟩ := H1
  have hd := bne_iff_ne.mpr hz
  clear hz
  go_enter Try.func38, Try.ntmps38
  go_wp2_with (first | ((with_reducible refine gate_dst (N := 5) rfl ?_); refine box_event ?hg (N := 5) ?hd (cs := #[.slice A2_0 l2_0.length c2_0, .slice A2_1 l2_1.length c2_1]) (t := 32) ?hr ?_; (case hd => rfl); (case hg => rfl); (case hr => first | (go_simp; done) | (go_simp; rfl)); intro gb hg w1 hbox hb; have HB := Aside0.mk hb; have BKB := Aside0.mk hbox; clear hb hbox hg) | ((with_reducible refine gate_dst (N := 6) rfl ?_); refine box_event ?hg (N := 6) ?hd (cs := #[.int .i64 0, .int .i64 0, .int .i64 0]) (t := 52) ?hr ?_; (case hd => rfl); (case hg => rfl); (case hr => first | (go_simp; done) | (go_simp; rfl)); intro g6 hg w2 hbox hb; have n0_ := Aside0.mk (below_step HB.out hb); have n1_ := Aside0.mk (blk_below BKB.out hb); have HG6 := Aside0.mk (show w.heap.size ≤ g6 by rw [hg]; exact HB.out.size); clear HB BKB; have HB := n0_; have BKB := n1_; have BK6 := Aside0.mk hbox; clear n0_ n1_ hb hbox hg; have hb20 := (blk_cell BKB.out 0).trans rfl; have hb21 := (blk_cell BKB.out 1).trans rfl) | (go_at_call 82; refine (mask_check.calls k A0 c0 l0 a1 0 A2_0 c2_0 l2_0 A2_1 c2_1 l2_1 _ _ (Kd.C_below HR.out HB.out) HC.out (Kd.C_below HR0.out HB.out) HC0.out (Kd.C_below HR1.out HB.out) HC1.out HE.out).mono ?_; rintro e w3 ⟨rfl, hb⟩; have n0_ := Aside0.mk (below_step HB.out hb); have n1_ := Aside0.mk (blk_below BKB.out hb); have n2_ := Aside0.mk (blk_below BK6.out hb); clear HB BKB BK6 hb; have HB := n0_; have BKB := n1_; have BK6 := n2_; clear n0_ n1_ n2_; have h60 := (blk_cell BK6.out 0).trans rfl; have h61 := (blk_cell BK6.out 1).trans rfl; have h62 := (blk_cell BK6.out 2).trans rfl; have f60 := blk_frozen BK6.out 0; have f61 := blk_frozen BK6.out 1; have f62 := blk_frozen BK6.out 2))
  refine bodyPost_ret (results_ct rfl _ _ g6 52 #[.int .i64 0, .int .i64 0, .int .i64 0] (0, 0) _ rfl (blk_put (cs := #[.int .i64 0, .int .i64 0, .int .i64 0]) (blk_put (cs := #[.int .i64 0, .int .i64 0, .int .i64 0]) (blk_put (cs := #[.int .i64 0, .int .i64 0, .int .i64 0]) BK6.out 0 _ rfl) 1 _ rfl) 2 _ rfl) Try.underlying52 rfl (by kernel_rfl)) rfl ?_
  exact ⟨rfl, ((HB.out.setCell (p := ⟨g6, 0, none⟩) HG6.out _).setCell (p := ⟨g6, 1, none⟩) HG6.out _).setCell (p := ⟨g6, 2, none⟩) HG6.out _⟩

/-! ### zbits_Place: function 44 -/
mutual
def zbits_Place.j0 : Nat → List Int → Int → Int → Bool → Option (List Int × Int)
  | 0, _, _, _, _ => none
  | k + 1, x0, x1, x2, x27 => if x27 = true then (some (([] : List Int), 3)) else ((zbits_Cut.f k x0 x1).bind fun bt184 => (zbits_Place.l0 k x1 x2 bt184.1 (wrap64 ((bt184.1.length : Int) - 1))))
def zbits_Place.l0 : Nat → Int → Int → List Int → Int → Option (List Int × Int)
  | 0, _, _, _, _ => none
  | k + 1, x1, x2, x8, x10 => if x10 ≥ 0 then (if 0 ≤ x10 then (if x10 < (x8.length : Int) then (if 0 ≤ x1 then (zbits_Place.l0 k x1 (x2 / 2) (x8.set (x10 : Int).toNat (Go.bits .or .u64 (rd x8 x10) (shl .u64 (IntKind.u64.wrap (Go.bits .and .i64 x2 1)) x1))) (wrap64 (x10 - 1))) else (none)) else (none)) else (none)) else (some (x8, 0))
end
def zbits_Place.f (k : Nat) (l0 : List Int) (a1 : Int) (a2 : Int) : Option (List Int × Int) := (zbits_Right.f l0).bind fun t182 => (if t182 = true then ((zbits_level.f a1).bind fun t183 => (if t183 = true then (if a2 < 0 then (zbits_Place.j0 k l0 a1 a2 true) else (zbits_Place.j0 k l0 a1 a2 (decide (a2 ≥ (shl .i64 1 (l0.length : Int)))))) else (zbits_Place.j0 k l0 a1 a2 true))) else (some (([] : List Int), 2)))
theorem zbits_Place.mono_l : ∀ k, (∀ y0 y1 y2 y3, LeO (zbits_Place.j0 k y0 y1 y2 y3) (zbits_Place.j0 (k + 1) y0 y1 y2 y3)) ∧ (∀ y0 y1 y2 y3, LeO (zbits_Place.l0 k y0 y1 y2 y3) (zbits_Place.l0 (k + 1) y0 y1 y2 y3))
  | 0 => ⟨fun _ _ _ _ r h => by simp [zbits_Place.j0] at h, fun _ _ _ _ r h => by simp [zbits_Place.l0] at h⟩
  | k + 1 => by
    obtain ⟨ih0, ih1⟩ := zbits_Place.mono_l k
    refine ⟨?_, ?_⟩
    · intro y0 y1 y2 y3
      unfold zbits_Place.j0
      repeat' first
      | (with_reducible exact ih0 _ _ _ _)
      | (with_reducible exact ih1 _ _ _ _)
      | (with_reducible exact zbits_Cut.mono _ _ _)
      | (with_reducible exact LeO.refl _)
      | (with_reducible exact LeO.none _)
      | (with_reducible refine LeO.ite ?_ ?_)
      | (with_reducible refine LeO.bind ?_ (fun _ => ?_))
      | exact ih0 _ _ _ _
      | exact ih1 _ _ _ _
      | exact zbits_Cut.mono _ _ _
      | exact LeO.none _
      | refine LeO.ite ?_ ?_
      | refine LeO.bind ?_ (fun _ => ?_)
    · intro y0 y1 y2 y3
      unfold zbits_Place.l0
      repeat' first
      | (with_reducible exact ih0 _ _ _ _)
      | (with_reducible exact ih1 _ _ _ _)
      | (with_reducible exact zbits_Cut.mono _ _ _)
      | (with_reducible exact LeO.refl _)
      | (with_reducible exact LeO.none _)
      | (with_reducible refine LeO.ite ?_ ?_)
      | (with_reducible refine LeO.bind ?_ (fun _ => ?_))
      | exact ih0 _ _ _ _
      | exact ih1 _ _ _ _
      | exact zbits_Cut.mono _ _ _
      | exact LeO.none _
      | refine LeO.ite ?_ ?_
      | refine LeO.bind ?_ (fun _ => ?_)
theorem zbits_Place.mono : ∀ a0 a1 a2 k, LeO (zbits_Place.f k a0 a1 a2) (zbits_Place.f (k + 1) a0 a1 a2) := by
  intro a0 a1 a2 k
  obtain ⟨ih0, ih1⟩ := zbits_Place.mono_l k
  unfold zbits_Place.f
  repeat' first
      | (with_reducible exact ih0 _ _ _ _)
      | (with_reducible exact ih1 _ _ _ _)
      | (with_reducible exact zbits_Cut.mono _ _ _)
      | (with_reducible exact LeO.refl _)
      | (with_reducible exact LeO.none _)
      | (with_reducible refine LeO.ite ?_ ?_)
      | (with_reducible refine LeO.bind ?_ (fun _ => ?_))
      | exact ih0 _ _ _ _
      | exact ih1 _ _ _ _
      | exact zbits_Cut.mono _ _ _
      | exact LeO.none _
      | refine LeO.ite ?_ ?_
      | refine LeO.bind ?_ (fun _ => ?_)
def zbits_Place.T9 : Bool × List (List Nat × List Nat) := (true, [([], []), ([], []), ([0, 1], [0, 1]), ([2], [2]), ([], []), ([4], [4]), ([5], [5]), ([], []), ([6, 7], [6, 7]), ([3, 8], [3, 8]), ([0, 1, 0, 1, 2, 3, 4, 5, 6, 7, 8, 9], [0, 1]), ([10, 9, 0, 1, 2, 3, 4, 5, 6, 7, 8, 9], [9, 10])])
def zbits_Place.B9 : List Nat := [0, 0, 3, 7, 0, 16, 48, 0, 240, 511, 1023, 2047]
theorem zbits_Place.tab9 : rtab .any (opsOf Try.f44 9) = zbits_Place.T9 := by kernel_rfl
theorem zbits_Place.bits9 : waitsOk zbits_Place.T9.2 zbits_Place.B9 = true := by kernel_rfl
set_option maxHeartbeats 8000000 in
set_option maxRecDepth 100000 in
theorem zbits_Place.calls (k : Nat) (A0 : Option Addr) (c0 : Nat) (l0 : List Int) (a1 : Int) (a2 : Int) (r1 : List Int) (r2 : Int) (w : World) (hr0 : Kd.C (Kd.int .u64) w A0 l0.length l0) (hc0 : l0.length ≤ c0) (h : zbits_Place.f k l0 a1 a2 = some (r1, r2)) :
  Calls Try.prog 44 #[.slice A0 l0.length c0, .int .i64 a1, .int .i64 a2] w fun e w' => ∃ v0_ : Value, e = .returned (.tuple #[v0_, .int .i64 r2]) ∧ Kd.R (Kd.int .u64) 30 w' w.heap.size (fun _ => True) v0_ r1 ∧ Below w.heap.size w w' := by
 have HR0 := Aside0.mk hr0
 have HC0 := Aside0.mk hc0
 clear hr0 hc0
 have HB := Aside0.mk (Below.refl w.heap.size w)
 have H : ((zbits_Right.f l0).bind fun t182 => (if t182 = true then ((zbits_level.f a1).bind fun t183 => (if t183 = true then (if a2 < 0 then (zbits_Place.j0 k l0 a1 a2 true) else (zbits_Place.j0 k l0 a1 a2 (decide (a2 ≥ (shl .i64 1 (l0.length : Int)))))) else (zbits_Place.j0 k l0 a1 a2 true))) else (some (([] : List Int), 2)))) = some (r1, r2) := h
 clear h
 replace H := Option.bind_eq_some_iff.mp H
 obtain ⟨t182, A40, H⟩ := H
 replace H : (if t182 = true then ((zbits_level.f a1).bind fun t183 => (if t183 = true then (if a2 < 0 then (zbits_Place.j0 k l0 a1 a2 true) else (zbits_Place.j0 k l0 a1 a2 (decide (a2 ≥ (shl .i64 1 (l0.length : Int)))))) else (zbits_Place.j0 k l0 a1 a2 true))) else (some (([] : List Int), 2))) = some (r1, r2) := H
 have A4 := Aside0.mk A40
 clear A40
 by_cases c5 : t182 = true
 ·subst c5
  have H1 : ((zbits_level.f a1).bind fun t183 => (if t183 = true then (if a2 < 0 then (zbits_Place.j0 k l0 a1 a2 true) else (zbits_Place.j0 k l0 a1 a2 (decide (a2 ≥ (shl .i64 1 (l0.length : Int)))))) else (zbits_Place.j0 k l0 a1 a2 true))) = some (r1, r2) := by rw [if_pos rfl] at H; exact H
  clear H
  have H := H1
  clear H1
  have HC6 := Aside0.mk H
  clear H
  go_enter Try.func44, Try.ntmps44
  go_upto_region 3 with (first | ((with_reducible refine gate_callee (f := 45) rfl ?_); refine goesL_ (some 12) rfl rfl Try.func45 (by kernel_rfl) rfl #[.slice A0 l0.length c0] rfl (by (try simp only [List.map_toArray, List.map_cons, List.map_nil]); first | done | rfl | (simp only [List.length_drop, List.length_take]; rfl)) ?_; (with_reducible refine (zbits_Right.calls _ _ l0 true _ ?side1 ?side2 A4.out).mono ?_); (case side1 => repeat (first | exact HR0.out | (with_reducible refine Kd.C_alloc ?_ _) | (with_reducible refine Kd.C_drewN ?_ _) | (with_reducible refine Kd.C_drew ?_))); (case side2 => exact HC0.out); rintro e w' ⟨rfl, ⟨nd, rfl⟩⟩; refine ⟨_, rfl, ?_⟩))
  (try simp only [Act.put, lsA, ls0, ls1])
  go_cut [27] (fun v27 wc => ∃ (kq : Nat) (x27_5 : Bool), v27 = .bool x27_5 ∧ Aside0 (zbits_Place.j0 kq l0 a1 a2 x27_5 = some (r1, r2)) ∧ Aside0 (kq ≤ k) ∧ Aside0 (Below w.heap.size w wc))
  case first =>
   have H := HC6.out
   clear HC6
   replace H := Option.bind_eq_some_iff.mp H
   obtain ⟨t183, A70, H⟩ := H
   replace H : (if t183 = true then (if a2 < 0 then (zbits_Place.j0 k l0 a1 a2 true) else (zbits_Place.j0 k l0 a1 a2 (decide (a2 ≥ (shl .i64 1 (l0.length : Int)))))) else (zbits_Place.j0 k l0 a1 a2 true)) = some (r1, r2) := H
   have A7 := Aside0.mk A70
   clear A70
   by_cases c8 : t183 = true
   ·subst c8
    have H1 : (if a2 < 0 then (zbits_Place.j0 k l0 a1 a2 true) else (zbits_Place.j0 k l0 a1 a2 (decide (a2 ≥ (shl .i64 1 (l0.length : Int)))))) = some (r1, r2) := by rw [if_pos rfl] at H; exact H
    clear H
    have H := H1
    clear H1
    by_cases c9 : a2 < 0
    ·rw [if_pos c9] at H
     have c9b0 : decide (a2 < 0) = true := decide_eq_true c9
     clear c9
     (first | rw [c9b0] | (simp only [i64_w, i32_w]; rw [c9b0]) | skip)
     have H' := Aside0.mk H
     clear H
     go_wp2_with (first | ((with_reducible refine gate_callee (f := 79) rfl ?_); refine goesL_ (some 15) rfl rfl Try.func79 (by kernel_rfl) rfl #[.int .i64 a1] rfl (by (try simp only [List.map_toArray, List.map_cons, List.map_nil]); first | done | rfl | (simp only [List.length_drop, List.length_take]; rfl)) ?_; (with_reducible refine (zbits_level.calls a1 true _ A7.out).mono ?_); rintro e w' ⟨rfl, ⟨nd, rfl⟩⟩; refine ⟨_, rfl, ?_⟩))
     go_meet
     case rel => exact ⟨_, (true), (by first | rfl | (simp; done) | (simp [*]; done)), H', ⟨by first | omega | exact Nat.le_refl _⟩, ⟨by repeat (first | (with_reducible first | exact HB.out | apply below_alloc | apply pw_below_drewN | apply below_drew1) | exact HB.out)⟩⟩
    ·rw [if_neg c9] at H
     have c9b0 : decide (a2 < 0) = false := decide_eq_false c9
     clear c9
     (first | rw [c9b0] | (simp only [i64_w, i32_w]; rw [c9b0]) | skip)
     obtain ⟨ji10, hji10⟩ : ∃ j_ : Int, (shl .i64 1 (l0.length : Int)) = j_ := ⟨_, rfl⟩
     replace H : (zbits_Place.j0 k l0 a1 a2 (decide (a2 ≥ (ji10)))) = some (r1, r2) := by first | (rw [hji10] at H; exact H) | (simp only [hji10] at H ⊢; exact H)
     (try rw [hji10] at A7)
     have hji10_ : (IntKind.i64.wrap (1 * 2 ^ min (l0.length : Int).toNat 64)) = ji10 := hji10
     have hji10z : (l0.length : Int) ≤ 64 → (IntKind.i64.wrap (1 * 2 ^ (l0.length : Int).toNat)) = ji10 := shl_small hji10
     have hji10p : (IntKind.i64.wrap (1 * 2 ^ min l0.length 64)) = ji10 := hji10_
     have hji10q : (l0.length : Int) ≤ 64 → (IntKind.i64.wrap (1 * 2 ^ l0.length)) = ji10 := hji10z
     have hji10r : (IntKind.i64.wrap (2 ^ min l0.length 64)) = ji10 := by have h_ := hji10p; rw [Int.one_mul] at h_; exact h_
     have hji10s : (l0.length : Int) ≤ 64 → (IntKind.i64.wrap (2 ^ l0.length)) = ji10 := fun hle_ => by have h_ := hji10q hle_; rw [Int.one_mul] at h_; exact h_
     have hji10u : (IntKind.i64.wrap (2 ^ min (l0.length : Int).toNat 64)) = ji10 := by have h_ := hji10_; rw [Int.one_mul] at h_; exact h_
     have hji10v : (l0.length : Int) ≤ 64 → (IntKind.i64.wrap (2 ^ (l0.length : Int).toNat)) = ji10 := fun hle_ => by have h_ := hji10z hle_; rw [Int.one_mul] at h_; exact h_
     have hji10y : (wrap64 (1 * 2 ^ min (l0.length : Int).toNat 64)) = ji10 := (i64_w _).symm.trans hji10_
     have hji10x : (l0.length : Int) ≤ 64 → (wrap64 (1 * 2 ^ (l0.length : Int).toNat)) = ji10 := fun h_ => (i64_w _).symm.trans (hji10z h_)
     have H' := Aside0.mk H
     clear H
     go_wp2_with (first | ((with_reducible refine gate_callee (f := 79) rfl ?_); refine goesL_ (some 15) rfl rfl Try.func79 (by kernel_rfl) rfl #[.int .i64 a1] rfl (by (try simp only [List.map_toArray, List.map_cons, List.map_nil]); first | done | rfl | (simp only [List.length_drop, List.length_take]; rfl)) ?_; (with_reducible refine (zbits_level.calls a1 true _ A7.out).mono ?_); rintro e w' ⟨rfl, ⟨nd, rfl⟩⟩; refine ⟨_, rfl, ?_⟩))
     go_meet
     case rel => exact ⟨_, (decide (a2 ≥ (ji10))), (by first | rfl | (simp; done) | (simp only [← hji10] <;> (first | rfl | simp)) | (simp [*]; done)), H', ⟨by first | omega | exact Nat.le_refl _⟩, ⟨by repeat (first | (with_reducible first | exact HB.out | apply below_alloc | apply pw_below_drewN | apply below_drew1) | exact HB.out)⟩⟩
   ·replace c8 := Bool.eq_false_iff.mpr c8
    subst c8
    have H1 : (zbits_Place.j0 k l0 a1 a2 true) = some (r1, r2) := by rw [if_neg (show ¬ (false = true) by decide)] at H; exact H
    clear H
    have H := H1
    clear H1
    have H' := Aside0.mk H
    clear H
    go_wp2_with (first | ((with_reducible refine gate_callee (f := 79) rfl ?_); refine goesL_ (some 15) rfl rfl Try.func79 (by kernel_rfl) rfl #[.int .i64 a1] rfl (by (try simp only [List.map_toArray, List.map_cons, List.map_nil]); first | done | rfl | (simp only [List.length_drop, List.length_take]; rfl)) ?_; (with_reducible refine (zbits_level.calls a1 false _ A7.out).mono ?_); rintro e w' ⟨rfl, ⟨nd, rfl⟩⟩; refine ⟨_, rfl, ?_⟩))
    go_meet
    case rel => exact ⟨_, (true), (by first | rfl | (simp; done) | (simp [*]; done)), H', ⟨by first | omega | exact Nat.le_refl _⟩, ⟨by repeat (first | (with_reducible first | exact HB.out | apply below_alloc | apply pw_below_drewN | apply below_drew1) | exact HB.out)⟩⟩
  case rest =>
   clear HC6
   try clear p2; try clear c4; try clear c5; try clear p6; try clear c7; try clear c8; try clear c9; try clear c9b0
   obtain ⟨kq, x27_5, rfl, HA, HJ5, HB⟩ := hcut
   cases kq with
   | zero => exact absurd HA.out (by simp [zbits_Place.j0])
   | succ kj5 =>
    have H := HA.out
    clear HA
    simp only [zbits_Place.j0] at H
    by_cases c11 : x27_5 = true
    ·subst c11
     have H1 : (some (([] : List Int), 3)) = some (r1, r2) := by rw [if_pos rfl] at H; exact H
     clear H
     have H := H1
     clear H1
     simp only [Option.some.injEq, Prod.mk.injEq] at H
     obtain ⟨rfl, rfl⟩ := H
     go_wp2
     go_ret2
     exact ⟨_, by first | rfl | (simp [errW_none, errW_some] <;> rfl) | (simp [*, errW_none, errW_some] <;> rfl), by first | exact Kd.R_nil _ _ _ _ _ | exact Kd.N_nil _ _ _ _ _ | exact Kd.V_nil _ _ _ _ _ | exact Kd.Q_nil _ _ _ _ _ | exact Kd.S_nil _ _ _ _ _, by repeat (first | (with_reducible first | exact HB.out | apply below_alloc | apply pw_below_drewN | apply below_drew1) | exact HB.out)⟩
    ·replace c11 := Bool.eq_false_iff.mpr c11
     subst c11
     have H1 : ((zbits_Cut.f kj5 l0 a1).bind fun bt184 => (zbits_Place.l0 kj5 a1 a2 bt184.1 (wrap64 ((bt184.1.length : Int) - 1)))) = some (r1, r2) := by rw [if_neg (show ¬ (false = true) by decide)] at H; exact H
     clear H
     have H := H1
     clear H1
     replace H := Option.bind_eq_some_iff.mp H
     obtain ⟨⟨t184, t185⟩, A120, H⟩ := H
     replace H : (zbits_Place.l0 kj5 a1 a2 t184 (wrap64 ((t184.length : Int) - 1))) = some (r1, r2) := H
     have A12 := Aside0.mk A120
     clear A120
     have H' := Aside0.mk H
     clear H
     go_wp2_with (first | ((with_reducible refine gate_callee (f := 34) rfl ?_); refine goesL_ (some 31) rfl rfl Try.func34 (by kernel_rfl) rfl #[.slice A0 l0.length c0, .int .i64 a1] rfl (by (try simp only [List.map_toArray, List.map_cons, List.map_nil]); first | done | rfl | (simp only [List.length_drop, List.length_take]; rfl)) ?_; (with_reducible refine (zbits_Cut.calls kj5 _ _ l0 a1 t184 t185 _ ?side1 ?side2 A12.out).mono ?_); (case side1 => repeat (first | exact (Kd.C_below HR0.out HB.out) | (with_reducible refine Kd.C_alloc ?_ _) | (with_reducible refine Kd.C_drewN ?_ _) | (with_reducible refine Kd.C_drew ?_))); (case side2 => exact HC0.out); rintro e w13 ⟨v186, rfl, ho0, hb⟩; refine ⟨_, rfl, ?_⟩; have n0_ := Aside0.mk (Kd.R_lower ho0 (below_size (by repeat (first | (with_reducible first | exact HB.out | apply below_alloc | apply pw_below_drewN | apply below_drew1) | exact HB.out)))); have n1_ := Aside0.mk (below_step (by repeat (first | (with_reducible first | exact HB.out | apply below_alloc | apply pw_below_drewN | apply below_drew1) | exact HB.out)) hb); clear HB; have HO187 := n0_; have HB := n1_; clear n0_ n1_; (try clear hb); (try clear hb2); (try clear hk); (try clear hi); (try clear ho0); obtain ⟨Ao14, co14, eo14⟩ := Kd.R_slice HO187.out; subst eo14))
     go_loopg [2, 10] kj5 (fun kq v2 v10 w' => ∃ (x2_2 : Int) (x8_2 : List Int) (x10_2 : Int), v2 = .int .i64 x2_2 ∧ v10 = .int .i64 x10_2 ∧ Aside0 (zbits_Place.l0 kq a1 x2_2 x8_2 x10_2 = some (r1, r2)) ∧ Aside0 (kq ≤ kj5) ∧ Aside0 (Kd.R (Kd.int .u64) 30 w' w.heap.size (fun _ => True) (.slice Ao14 t184.length co14) x8_2) ∧ Aside0 (Below w.heap.size w w'))
     case atStart => exact ⟨(a2), (t184), (wrap64 ((t184.length : Int) - 1)), (by first | rfl | (simp; done) | (simp [*]; done)), (by first | rfl | (simp; done) | (simp [*]; done)), H', ⟨Nat.le_refl _⟩, ⟨by (with_reducible repeat (first | apply Kd.R_alloc | apply Kd.R_drewN | apply Kd.R_drew)); exact HO187.out⟩, ⟨by repeat (first | (with_reducible first | exact HB.out | apply below_alloc | apply pw_below_drewN | apply below_drew1) | exact HB.out)⟩⟩
     case round =>
      clear H'
      try clear c1; try clear p2; try clear c3; try clear c4; try clear c5; try clear p6; try clear c7; try clear c8; try clear c9; try clear c9b0; try clear c11; try clear p2; try clear p6
      obtain ⟨x2_2, x8_2, x10_2, rfl, rfl, HA, HK2, HO_8, HB⟩ := hrel
      have hl8_2 := (Kd.R_reads' HO_8.out).1
      rw [hl8_2] at HO_8
      (try simp only [hl8_2])
      cases gk with
      | zero => exact absurd HA.out (by simp [zbits_Place.l0])
      | succ k2 =>
       have H := HA.out
       clear HA
       simp only [zbits_Place.l0] at H
       by_cases c15 : x10_2 ≥ 0
       ·rw [if_pos c15] at H
        have c15b0 : decide (0 ≤ x10_2) = true := decide_eq_true c15
        clear c15
        by_cases c16 : 0 ≤ x10_2
        ·rw [if_pos c16] at H
         have c16b0 : decide (0 ≤ x10_2) = true := decide_eq_true c16
         clear c16
         by_cases c17 : x10_2 < (x8_2.length : Int)
         ·rw [if_pos c17] at H
          have c17b0 : decide (x10_2 < (x8_2.length : Int)) = true := decide_eq_true c17
          clear c17
          by_cases c18 : 0 ≤ a1
          ·rw [if_pos c18] at H
           have c18b0 := eq_true c18
           have c18b1 : decide (0 ≤ a1) = true := decide_eq_true c18
           clear c18
           obtain ⟨ji19, hji19⟩ : ∃ j_ : Int, (shl .u64 (IntKind.u64.wrap (Go.bits .and .i64 x2_2 1)) a1) = j_ := ⟨_, rfl⟩
           replace H : (zbits_Place.l0 k2 a1 (x2_2 / 2) (x8_2.set (x10_2 : Int).toNat (Go.bits .or .u64 (rd x8_2 x10_2) (ji19))) (wrap64 (x10_2 - 1))) = some (r1, r2) := by first | (rw [hji19] at H; exact H) | (simp only [hji19] at H ⊢; exact H)
           have hji19_ : (IntKind.u64.wrap ((IntKind.u64.wrap (Go.bits .and .i64 x2_2 1)) * 2 ^ min a1.toNat 64)) = ji19 := hji19
           have hji19z : a1 ≤ 64 → (IntKind.u64.wrap ((IntKind.u64.wrap (Go.bits .and .i64 x2_2 1)) * 2 ^ a1.toNat)) = ji19 := shl_small hji19
           obtain ⟨y189, hy189⟩ : ∃ y_ : List Int, y_ = (x8_2.set (x10_2 : Int).toNat (Go.bits .or .u64 (rd x8_2 x10_2) (ji19))) := ⟨_, rfl⟩
           replace H : (zbits_Place.l0 k2 a1 (x2_2 / 2) y189 (wrap64 (x10_2 - 1))) = some (r1, r2) := by first | (rw [hy189]; with_reducible exact H) | (have H2_ := (Option.bind_some _ _).symm.trans H; rw [hy189]; with_reducible exact H2_) | (have H2_ := (Option.bind_some _ _).symm.trans H; with_reducible exact H2_) | with_reducible exact H | (rw [hy189]; exact H) | exact H
           have Ny189 := Aside0.mk hy189
           clear hy189
           have H' := Aside0.mk H
           clear H
           try go_wp2
           have n0_ := Aside0.mk (Kd.R_drew HO_8.out)
           have n1_ := Aside0.mk (below_drew1 HB.out)
           clear HO_8
           clear HB
           have HO_8 := n0_
           have HB := n1_
           clear n0_ n1_
           have p188 : 0 ≤ (x10_2 : Int) := of_decide_eq_true (by first | (with_reducible assumption) | assumption)
           have q188 : x10_2 < (x8_2.length : Int) := of_decide_eq_true (by first | (with_reducible assumption) | assumption)
           obtain ⟨ad188, e188, hx188_0⟩ := Kd.at_int (Kd.R_reads' HO_8.out).2.2 x10_2 p188 q188
           cases e188
           replace p188 := eq_true p188
           replace q188 := eq_true q188
           have p20 : 0 ≤ (x10_2 : Int) := of_decide_eq_true (by first | (with_reducible assumption) | assumption)
           have q20 : (x10_2 : Int) < ((x8_2.length : Int) : Int) := of_decide_eq_true (by first | (with_reducible assumption) | assumption)
           obtain ⟨go20, co20, eo20, gb20, gl20, cl20, HG20⟩ := Kd.R_form HO_8.out (by omega)
           (first | cases eo20 | (injection eo20 with ea_ en_ ec_; (first | subst ea_ | (injection ea_ with ea_; subst ea_)); subst ec_; clear en_))
           have GB20 := Aside0.mk gb20
           have GG20 := Aside0.mk HG20
           clear gb20 gl20 HG20
           (first | simp only [add_plain] at hx188_0 | skip)
           obtain ⟨hx20_0, hf20_0⟩ := Kd.R_celln 0 HO_8.out (x10_2 : Int) p20 q20
           replace p20 := eq_true p20
           replace q20 := eq_true q20
           have HP22 := Kd.R_putn HO_8.out (x10_2 : Int) (Go.bits .or .u64 (rd x8_2 x10_2) (ji19))
           rw [← Ny189.out] at HP22
           have HQ22 := Aside0.mk HP22
           clear HP22
           refine start_ (n := 12) (S := fun w' => w'.cell? ⟨go20, (x10_2).toNat, none⟩ = some (.int .u64 (rd x8_2 x10_2))) (ds := [11]) #[O,O,O,O,O,O,O,O,O,O,O,O] (by kernel_rfl) rfl rfl (hx188_0) (fun hHeld => ?_); refine with_tabW zbits_Place.tab9 zbits_Place.bits9 (fun HT_ HW_ => ?_)
           generalize wr.drew = w21 at HO_8 HB GG20 HQ22 hf20_0 hx188_0 hx20_0 hHeld ⊢
           refine pure_ (i := 0) (N := some 41) (v := ?_) (a' := ?_) #[Y,O,O,O,O,O,O,O,O,O,O,O] rfl rfl (any_of HT_.out (by kernel_rfl)) (fun _ _ _ h => h) (Or.inl ⟨by rfl, ?_⟩) ?_ ?_
           rotate_left
           ·intro w'
            go_simp
            with_reducible rfl
           rotate_left
           ·simp only [Act.put, lsA, ls0, ls1, i64_w, i32_w]
            rfl
           refine pure_ (i := 1) (N := some 42) (v := ?_) (a' := ?_) #[Y,Y,O,O,O,O,O,O,O,O,O,O] rfl rfl (any_of HT_.out (by kernel_rfl)) (fun _ _ _ h => h) (Or.inl ⟨by rfl, ?_⟩) ?_ ?_
           rotate_left
           ·intro w'
            go_simp
            with_reducible rfl
           rotate_left
           ·simp only [Act.put, lsA, ls0, ls1, i64_w, i32_w]
            rfl
           refine pure_ (i := 2) (N := some 43) (v := ?_) (a' := ?_) #[Y,Y,Y,O,O,O,O,O,O,O,O,O] rfl rfl (any_of HT_.out (by kernel_rfl)) (fun _ _ _ h => h) (Or.inl ⟨by rfl, ?_⟩) ?_ ?_
           rotate_left
           ·intro w'
            go_simp
            with_reducible rfl
           rotate_left
           ·simp only [Act.put, lsA, ls0, ls1, i64_w, i32_w]
            rfl
           refine pure_ (i := 4) (N := some 45) (v := ?_) (a' := ?_) #[Y,Y,Y,O,Y,O,O,O,O,O,O,O] rfl rfl (any_of HT_.out (by kernel_rfl)) (fun _ _ _ h => h) (Or.inl ⟨by rfl, ?_⟩) ?_ ?_
           rotate_left
           ·intro w'
            go_simp
            with_reducible rfl
           rotate_left
           ·simp only [Act.put, lsA, ls0, ls1, i64_w, i32_w]
            rfl
           refine pure_ (i := 5) (N := some 46) (v := ?_) (a' := ?_) #[Y,Y,Y,O,Y,Y,O,O,O,O,O,O] rfl rfl (any_of HT_.out (by kernel_rfl)) (fun _ _ _ h => h) (Or.inl ⟨by rfl, ?_⟩) ?_ ?_
           rotate_left
           ·intro w'
            go_simp
            with_reducible rfl
           rotate_left
           ·simp only [Act.put, lsA, ls0, ls1, i64_w, i32_w]
            rfl
           refine pure_ (i := 6) (N := some 47) (v := ?_) (a' := ?_) #[Y,Y,Y,O,Y,Y,Y,O,O,O,O,O] rfl rfl (any_of HT_.out (by kernel_rfl)) (fun _ _ _ h => h) (Or.inl ⟨by rfl, ?_⟩) ?_ ?_
           rotate_left
           ·intro w'
            go_simp
            with_reducible rfl
           rotate_left
           ·simp only [Act.put, lsA, ls0, ls1, i64_w, i32_w]
            rfl
           refine pure_ (i := 7) (N := some 48) (v := ?_) (a' := ?_) #[Y,Y,Y,O,Y,Y,Y,Y,O,O,O,O] rfl rfl (any_of HT_.out (by kernel_rfl)) (fun _ _ _ h => h) (Or.inl ⟨by rfl, ?_⟩) ?_ ?_
           rotate_left
           ·intro w'
            go_simp
            with_reducible rfl
           rotate_left
           ·simp only [Act.put, lsA, ls0, ls1, i64_w, i32_w]
            rfl
           refine pure_ (i := 8) (N := some 49) (v := ?_) (a' := ?_) #[Y,Y,Y,O,Y,Y,Y,Y,Y,O,O,O] rfl rfl (any_of HT_.out (by kernel_rfl)) (fun _ _ _ h => h) (Or.inl ⟨by rfl, ?_⟩) ?_ ?_
           rotate_left
           ·intro w'
            go_simp
            with_reducible rfl
           rotate_left
           ·simp only [Act.put, lsA, ls0, ls1, i64_w, i32_w]
            rfl
           refine take_ (i := 3) (N := some 44) (v := ?_) (a' := ?_) #[Y,Y,Y,Y,Y,Y,Y,Y,Y,O,O,O] rfl rfl (take_ofW HT_.out HW_.out (by kernel_rfl)) (fun _ _ _ h => h) (Or.inl ⟨by rfl, ?_⟩) hHeld ?_ ?_
           rotate_left
           ·intro w' s0
            go_simp
            with_reducible rfl
           rotate_left
           ·simp only [Act.put, lsA, ls0, ls1, i64_w, i32_w]
            rfl
           refine pure_ (i := 9) (N := some 50) (v := ?_) (a' := ?_) #[Y,Y,Y,Y,Y,Y,Y,Y,Y,Y,O,O] rfl rfl (any_of HT_.out (by kernel_rfl)) (fun _ _ _ h => h) (Or.inl ⟨by rfl, ?_⟩) ?_ ?_
           rotate_left
           ·intro w'
            go_simp
            with_reducible rfl
           rotate_left
           ·simp only [Act.put, lsA, ls0, ls1, i64_w, i32_w]
            rfl
           refine pure_ (i := 10) (N := some 51) (v := ?_) (a' := ?_) #[Y,Y,Y,Y,Y,Y,Y,Y,Y,Y,Y,O] rfl rfl (any_of HT_.out (by kernel_rfl)) (fun _ _ _ h => h) (Or.inl ⟨by rfl, ?_⟩) ?_ ?_
           rotate_left
           ·intro w'
            go_simp
            with_reducible rfl
           rotate_left
           ·simp only [Act.put, lsA, ls0, ls1, i64_w, i32_w]
            rfl
           refine last_ (i := 11) (N := none) #[Y,Y,Y,Y,Y,Y,Y,Y,Y,Y,Y,Y] rfl rfl (one_of HT_.out (by kernel_rfl)) (by decide) (fun K hK => ?_)
           refine skip_ (w1 := ?_) (by rfl) rfl ?_ ?_
           rotate_left
           ·go_simp
            rfl
           refine hK.out _ _ ?_
           clear hK K
           refine done_ (done_of HT_.out (by kernel_rfl)) ?_
           try go_wp2
           (try simp only [← hl8_2])
           go_roundg k2
           case measure => have := HJ5.out; have := HK2.out; omega
           case rel => exact ⟨(x2_2 / 2), (y189), (wrap64 (x10_2 - 1)), (by first | rfl | (simp; done) | (simp [*]; done)), (by first | rfl | (simp; done) | (simp [*]; done)), H', ⟨by have := HJ5.out; have := HK2.out; omega⟩, ⟨by (try simp only [hl8_2]); (with_reducible repeat (first | apply Kd.R_alloc | apply Kd.R_drewN | apply Kd.R_drew)); exact HQ22.out⟩, ⟨by repeat (first | (with_reducible first | exact HB.out | apply below_alloc | apply pw_below_drewN | apply below_drew1 | refine below_set ?_ GB20.out) | exact HB.out)⟩⟩
          ·rw [if_neg c18] at H
           exact absurd H (by simp)
         ·rw [if_neg c17] at H
          exact absurd H (by simp)
        ·rw [if_neg c16] at H
         exact absurd H (by simp)
       ·rw [if_neg c15] at H
        have c15b0 : decide (0 ≤ x10_2) = false := decide_eq_false c15
        clear c15
        simp only [Option.some.injEq, Prod.mk.injEq] at H
        obtain ⟨rfl, rfl⟩ := H
        go_wp2
        go_ret2
        exact ⟨_, by first | rfl | (simp [errW_none, errW_some] <;> rfl) | (simp [*, errW_none, errW_some] <;> rfl), by (with_reducible repeat (first | apply Kd.R_alloc | apply Kd.R_drewN | apply Kd.R_drew)); exact HO_8.out, by repeat (first | (with_reducible first | exact HB.out | apply below_alloc | apply pw_below_drewN | apply below_drew1) | exact HB.out)⟩
 ·replace c5 := Bool.eq_false_iff.mpr c5
  subst c5
  have H1 : (some (([] : List Int), 2)) = some (r1, r2) := by rw [if_neg (show ¬ (false = true) by decide)] at H; exact H
  clear H
  have H := H1
  clear H1
  simp only [Option.some.injEq, Prod.mk.injEq] at H
  obtain ⟨rfl, rfl⟩ := H
  go_enter Try.func44, Try.ntmps44
  go_wp2_with (first | ((with_reducible refine gate_callee (f := 45) rfl ?_); refine goesL_ (some 12) rfl rfl Try.func45 (by kernel_rfl) rfl #[.slice A0 l0.length c0] rfl (by (try simp only [List.map_toArray, List.map_cons, List.map_nil]); first | done | rfl | (simp only [List.length_drop, List.length_take]; rfl)) ?_; (with_reducible refine (zbits_Right.calls _ _ l0 false _ ?side1 ?side2 A4.out).mono ?_); (case side1 => repeat (first | exact HR0.out | (with_reducible refine Kd.C_alloc ?_ _) | (with_reducible refine Kd.C_drewN ?_ _) | (with_reducible refine Kd.C_drew ?_))); (case side2 => exact HC0.out); rintro e w' ⟨rfl, ⟨nd, rfl⟩⟩; refine ⟨_, rfl, ?_⟩))
  go_ret2
  exact ⟨_, by first | rfl | (simp [errW_none, errW_some] <;> rfl) | (simp [*, errW_none, errW_some] <;> rfl), by first | exact Kd.R_nil _ _ _ _ _ | exact Kd.N_nil _ _ _ _ _ | exact Kd.V_nil _ _ _ _ _ | exact Kd.Q_nil _ _ _ _ _ | exact Kd.S_nil _ _ _ _ _, by repeat (first | (with_reducible first | exact HB.out | apply below_alloc | apply pw_below_drewN | apply below_drew1) | exact HB.out)⟩

end Go.Proofs.Ythdphjbecibeaaa.PCoverCells
