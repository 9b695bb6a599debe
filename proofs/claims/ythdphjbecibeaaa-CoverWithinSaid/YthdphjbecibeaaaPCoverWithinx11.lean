-- Written by wip/tools/print2.py, a program of this session, over the kit's print of the program. Lean checks it.
import Derived.Test.YthdphjbecibeaaaPCoverWithinx0
import Derived.Test.YthdphjbecibeaaaPCoverWithinx1
import Derived.Test.YthdphjbecibeaaaPCoverWithinx9
import Derived.Test.YthdphjbecibeaaaPCoverWithinx10
namespace Go.Proofs.Ythdphjbecibeaaa.PCoverWithin
open Go.RowKit Go.Proofs.YthdphjbecibeaaaW.PrintWords Go.Proofs.YthdphjbecibeaaaW.PrintLast Go.Proofs.YthdphjbecibeaaaW.PrintMore
attribute [local go_sem] max2_int min2_int max_two min_two max_three min_three max_four min_four   -- for this text's walks alone
set_option linter.unusedVariables false
set_option linter.unusedSimpArgs false

/-! ### pantilelaw33_CoverWithin: function 16 -/
mutual
def pantilelaw33_CoverWithin.j0 : Nat → Bool → List Int → Int → List Int → Int → Option (Bool)
  | 0, _, _, _, _, _ => none
  | k + 1, x25, x258000, x258001, x259000, x259001 => if x25 = true then (some true) else ((cover_Range.f k x258000 x258001).bind fun bt260 => ((cover_Within.f k x258000 x258001 x259000 x259001).bind fun bt267 => ((pantileref33_Check.f k x258000 x258001).bind fun t269 => ((pantileref33_Check.f k x259000 x259001).bind fun t270 => (if t269 = 0 then ((pantileref03_Cell.f k x258000 x258001).bind fun bt271 => (if bt260.2.2 = 0 then ((pantileref01_Same.f k bt260.1 bt271.1).bind fun t278 => (if t278 = true then ((pantileref01_Same.f k bt260.2.1 bt271.2).bind fun t279 => (pantilelaw33_CoverWithin.j1 k bt267.1 bt267.2 t270 (!t279) x258000 x258001 x259000 x259001 bt271.1 bt271.2)) else (pantilelaw33_CoverWithin.j1 k bt267.1 bt267.2 t270 true x258000 x258001 x259000 x259001 bt271.1 bt271.2))) else (pantilelaw33_CoverWithin.j1 k bt267.1 bt267.2 t270 true x258000 x258001 x259000 x259001 bt271.1 bt271.2))) else (if (bt260.1.length : Int) = 0 then (if (bt260.2.1.length : Int) = 0 then (if bt260.2.2 = t269 then (if bt267.1 = true then (some false) else (some (bt267.2 == t269))) else (some false)) else (some false)) else (some false)))))))
def pantilelaw33_CoverWithin.j1 : Nat → Bool → Int → Int → Bool → List Int → Int → List Int → Int → List Int → List Int → Option (Bool)
  | 0, _, _, _, _, _, _, _, _, _, _ => none
  | k + 1, x8, x9, x11, x94, x258000, x258001, x259000, x259001, x278000, x278001 => if x94 = true then (some false) else (if x11 = 0 then (if (x258000.length : Int) = (x259000.length : Int) then ((pantileref03_Cell.f k x259000 x259001).bind fun bt280 => (if x9 = 0 then ((pantileref03_In.f k bt280.1 bt280.2 x278000).bind fun t287 => (if t287 = true then ((pantileref03_In.f k bt280.1 bt280.2 x278001).bind fun t288 => (some (x8 == t288))) else (some (x8 == false)))) else (some false))) else (if x8 = true then (some false) else (some (x9 == 2)))) else (if x8 = true then (some false) else (some (x9 == x11))))
end
def pantilelaw33_CoverWithin.f (k : Nat) (l0_0 : List Int) (a0_1 : Int) (l1_0 : List Int) (a1_1 : Int) : Option (Bool) := (pantilelaw33_awake.f k).bind fun t259 => (if t259 = true then (if (l0_0.length : Int) > 40 then (pantilelaw33_CoverWithin.j0 k true l0_0 a0_1 l1_0 a1_1) else (pantilelaw33_CoverWithin.j0 k (decide ((l1_0.length : Int) > 40)) l0_0 a0_1 l1_0 a1_1)) else (some false))
theorem pantilelaw33_CoverWithin.mono_l : ∀ k, (∀ y0 y1 y2 y3 y4, LeO (pantilelaw33_CoverWithin.j0 k y0 y1 y2 y3 y4) (pantilelaw33_CoverWithin.j0 (k + 1) y0 y1 y2 y3 y4)) ∧ (∀ y0 y1 y2 y3 y4 y5 y6 y7 y8 y9, LeO (pantilelaw33_CoverWithin.j1 k y0 y1 y2 y3 y4 y5 y6 y7 y8 y9) (pantilelaw33_CoverWithin.j1 (k + 1) y0 y1 y2 y3 y4 y5 y6 y7 y8 y9))
  | 0 => ⟨fun _ _ _ _ _ r h => by simp [pantilelaw33_CoverWithin.j0] at h, fun _ _ _ _ _ _ _ _ _ _ r h => by simp [pantilelaw33_CoverWithin.j1] at h⟩
  | k + 1 => by
    obtain ⟨ih0, ih1⟩ := pantilelaw33_CoverWithin.mono_l k
    refine ⟨?_, ?_⟩
    · intro y0 y1 y2 y3 y4
      unfold pantilelaw33_CoverWithin.j0
      repeat' first
      | (with_reducible exact ih0 _ _ _ _ _)
      | (with_reducible exact ih1 _ _ _ _ _ _ _ _ _ _)
      | (with_reducible exact cover_Range.mono _ _ _)
      | (with_reducible exact cover_Within.mono _ _ _ _ _)
      | (with_reducible exact pantilelaw33_awake.mono _)
      | (with_reducible exact pantileref01_Same.mono _ _ _)
      | (with_reducible exact pantileref03_Cell.mono _ _ _)
      | (with_reducible exact pantileref03_In.mono _ _ _ _)
      | (with_reducible exact pantileref33_Check.mono _ _ _)
      | (with_reducible exact LeO.refl _)
      | (with_reducible exact LeO.none _)
      | (with_reducible refine LeO.ite ?_ ?_)
      | (with_reducible refine LeO.bind ?_ (fun _ => ?_))
      | exact ih0 _ _ _ _ _
      | exact ih1 _ _ _ _ _ _ _ _ _ _
      | exact cover_Range.mono _ _ _
      | exact cover_Within.mono _ _ _ _ _
      | exact pantilelaw33_awake.mono _
      | exact pantileref01_Same.mono _ _ _
      | exact pantileref03_Cell.mono _ _ _
      | exact pantileref03_In.mono _ _ _ _
      | exact pantileref33_Check.mono _ _ _
      | exact LeO.none _
      | refine LeO.ite ?_ ?_
      | refine LeO.bind ?_ (fun _ => ?_)
    · intro y0 y1 y2 y3 y4 y5 y6 y7 y8 y9
      unfold pantilelaw33_CoverWithin.j1
      repeat' first
      | (with_reducible exact ih0 _ _ _ _ _)
      | (with_reducible exact ih1 _ _ _ _ _ _ _ _ _ _)
      | (with_reducible exact cover_Range.mono _ _ _)
      | (with_reducible exact cover_Within.mono _ _ _ _ _)
      | (with_reducible exact pantilelaw33_awake.mono _)
      | (with_reducible exact pantileref01_Same.mono _ _ _)
      | (with_reducible exact pantileref03_Cell.mono _ _ _)
      | (with_reducible exact pantileref03_In.mono _ _ _ _)
      | (with_reducible exact pantileref33_Check.mono _ _ _)
      | (with_reducible exact LeO.refl _)
      | (with_reducible exact LeO.none _)
      | (with_reducible refine LeO.ite ?_ ?_)
      | (with_reducible refine LeO.bind ?_ (fun _ => ?_))
      | exact ih0 _ _ _ _ _
      | exact ih1 _ _ _ _ _ _ _ _ _ _
      | exact cover_Range.mono _ _ _
      | exact cover_Within.mono _ _ _ _ _
      | exact pantilelaw33_awake.mono _
      | exact pantileref01_Same.mono _ _ _
      | exact pantileref03_Cell.mono _ _ _
      | exact pantileref03_In.mono _ _ _ _
      | exact pantileref33_Check.mono _ _ _
      | exact LeO.none _
      | refine LeO.ite ?_ ?_
      | refine LeO.bind ?_ (fun _ => ?_)
theorem pantilelaw33_CoverWithin.mono : ∀ a0 a1 a2 a3 k, LeO (pantilelaw33_CoverWithin.f k a0 a1 a2 a3) (pantilelaw33_CoverWithin.f (k + 1) a0 a1 a2 a3) := by
  intro a0 a1 a2 a3 k
  obtain ⟨ih0, ih1⟩ := pantilelaw33_CoverWithin.mono_l k
  unfold pantilelaw33_CoverWithin.f
  repeat' first
      | (with_reducible exact ih0 _ _ _ _ _)
      | (with_reducible exact ih1 _ _ _ _ _ _ _ _ _ _)
      | (with_reducible exact cover_Range.mono _ _ _)
      | (with_reducible exact cover_Within.mono _ _ _ _ _)
      | (with_reducible exact pantilelaw33_awake.mono _)
      | (with_reducible exact pantileref01_Same.mono _ _ _)
      | (with_reducible exact pantileref03_Cell.mono _ _ _)
      | (with_reducible exact pantileref03_In.mono _ _ _ _)
      | (with_reducible exact pantileref33_Check.mono _ _ _)
      | (with_reducible exact LeO.refl _)
      | (with_reducible exact LeO.none _)
      | (with_reducible refine LeO.ite ?_ ?_)
      | (with_reducible refine LeO.bind ?_ (fun _ => ?_))
      | exact ih0 _ _ _ _ _
      | exact ih1 _ _ _ _ _ _ _ _ _ _
      | exact cover_Range.mono _ _ _
      | exact cover_Within.mono _ _ _ _ _
      | exact pantilelaw33_awake.mono _
      | exact pantileref01_Same.mono _ _ _
      | exact pantileref03_Cell.mono _ _ _
      | exact pantileref03_In.mono _ _ _ _
      | exact pantileref33_Check.mono _ _ _
      | exact LeO.none _
      | refine LeO.ite ?_ ?_
      | refine LeO.bind ?_ (fun _ => ?_)
def pantilelaw33_CoverWithin.T7 : Bool × List (List Nat × List Nat) := (true, [([], []), ([0], [0]), ([], []), ([2], [2]), ([1, 3], [1, 3]), ([4], [4]), ([], []), ([6], [6]), ([], []), ([8], [8]), ([7, 9], [7, 9]), ([10, 5], [10]), ([5, 11, 0, 1, 2, 3, 4, 5], [5]), ([11, 12, 0, 1, 2, 3, 4, 5, 6, 7, 8, 9, 10, 11, 12], [11])])
def pantilelaw33_CoverWithin.B7 : List Nat := [0, 1, 0, 4, 15, 31, 0, 64, 0, 256, 960, 2047, 4095, 8191]
theorem pantilelaw33_CoverWithin.tab7 : rtab .any (opsOf Try.f16 7) = pantilelaw33_CoverWithin.T7 := by kernel_rfl
theorem pantilelaw33_CoverWithin.bits7 : waitsOk pantilelaw33_CoverWithin.T7.2 pantilelaw33_CoverWithin.B7 = true := by kernel_rfl
set_option maxHeartbeats 8000000 in
set_option maxRecDepth 100000 in
theorem pantilelaw33_CoverWithin.calls (k : Nat) (A0_0 : Option Addr) (c0_0 : Nat) (l0_0 : List Int) (a0_1 : Int) (A1_0 : Option Addr) (c1_0 : Nat) (l1_0 : List Int) (a1_1 : Int) (r : Bool) (w : World) (hr0_0 : Kd.C (Kd.int .u64) w A0_0 l0_0.length l0_0) (hc0_0 : l0_0.length ≤ c0_0) (hr1_0 : Kd.C (Kd.int .u64) w A1_0 l1_0.length l1_0) (hc1_0 : l1_0.length ≤ c1_0) (hrt : r = true) (h : pantilelaw33_CoverWithin.f k l0_0 a0_1 l1_0 a1_1 = some r) :
    Calls Try.prog 16 #[.agg #[.slice A0_0 l0_0.length c0_0, .int .i64 a0_1], .agg #[.slice A1_0 l1_0.length c1_0, .int .i64 a1_1]] w fun e w' => e = .returned (.bool r) ∧ Below w.heap.size w w' := by
  have hu89 := Try.underlying89
  have hu94 := Try.underlying94
  have hu32 := Try.underlying32
  have HRT := Aside0.mk hrt
  clear hrt
  have HR0_0 := Aside0.mk hr0_0
  have HC0_0 := Aside0.mk hc0_0
  clear hr0_0 hc0_0
  have HR1_0 := Aside0.mk hr1_0
  have HC1_0 := Aside0.mk hc1_0
  clear hr1_0 hc1_0
  have HB := Aside0.mk (Below.refl w.heap.size w)
  have H : ((pantilelaw33_awake.f k).bind fun t259 => (if t259 = true then (if (l0_0.length : Int) > 40 then (pantilelaw33_CoverWithin.j0 k true l0_0 a0_1 l1_0 a1_1) else (pantilelaw33_CoverWithin.j0 k (decide ((l1_0.length : Int) > 40)) l0_0 a0_1 l1_0 a1_1)) else (some false))) = some r := h
  clear h
  replace H := Option.bind_eq_some_iff.mp H
  obtain ⟨t259, A30, H⟩ := H
  replace H : (if t259 = true then (if (l0_0.length : Int) > 40 then (pantilelaw33_CoverWithin.j0 k true l0_0 a0_1 l1_0 a1_1) else (pantilelaw33_CoverWithin.j0 k (decide ((l1_0.length : Int) > 40)) l0_0 a0_1 l1_0 a1_1)) else (some false)) = some r := H
  have A3 := Aside0.mk A30
  clear A30
  by_cases c4 : t259 = true
  · subst c4
    have H1 : (if (l0_0.length : Int) > 40 then (pantilelaw33_CoverWithin.j0 k true l0_0 a0_1 l1_0 a1_1) else (pantilelaw33_CoverWithin.j0 k (decide ((l1_0.length : Int) > 40)) l0_0 a0_1 l1_0 a1_1)) = some r := by rw [if_pos rfl] at H; exact H
    clear H
    have H := H1
    clear H1
    have HC5 := Aside0.mk H
    clear H
    go_enter Try.func16, Try.ntmps16
    go_upto_region 3 with (first | ((with_reducible refine gate_dst (N := 2) rfl ?_); (try (refine gate_guard (by rfl) ?_; dsimp only)); refine box_event ?hg (N := 2) ?hd (cs := #[.slice A0_0 l0_0.length c0_0, .int .i64 a0_1]) (t := 89) ?hr ?_; (case hd => rfl); (case hg => rfl); (case hr => first | (go_simp; done) | (go_simp; rfl)); intro gb257 hg w6 hbox hb; have n0_ := Aside0.mk (below_step (by repeat (first | (with_reducible first | exact HB.out | apply below_alloc | apply pw_below_drewN | apply below_drew1) | exact HB.out)) hb); have n1_ := Aside0.mk (hbox); have n2_ := Aside0.mk ((by rw [hg]; exact (below_size (by repeat (first | (with_reducible first | exact HB.out | apply below_alloc | apply pw_below_drewN | apply below_drew1) | exact HB.out))) : w.heap.size ≤ gb257)); have n3_ := Aside0.mk ((by rw [hg]; exact (below_size (by repeat (first | (with_reducible first | exact HB.out | apply below_alloc | apply pw_below_drewN | apply below_drew1) | exact HB.out))) : w.heap.size ≤ gb257)); clear HB; have HB := n0_; have BK257 := n1_; have GW257 := n2_; have GE257 := n3_; clear n0_ n1_ n2_ n3_; clear hb hbox hg) | ((with_reducible refine gate_dst (N := 3) rfl ?_); (try (refine gate_guard (by rfl) ?_; dsimp only)); refine box_event ?hg (N := 3) ?hd (cs := #[.slice A1_0 l1_0.length c1_0, .int .i64 a1_1]) (t := 89) ?hr ?_; (case hd => rfl); (case hg => rfl); (case hr => first | (go_simp; done) | (go_simp; rfl)); intro gb258 hg w7 hbox hb; have n0_ := Aside0.mk (blk_below (g := gb257) (o := .cells #[.slice A0_0 l0_0.length c0_0, .int .i64 a0_1] 89 (0, 0)) (by (with_reducible repeat (first | refine blk_drewN ?_ _ | refine blk_drew ?_ | refine blk_alloc ?_ _)); exact BK257.out) hb); have n1_ := Aside0.mk (below_step (by repeat (first | (with_reducible first | exact HB.out | apply below_alloc | apply pw_below_drewN | apply below_drew1 | refine below_set ?_ GE257.out) | exact HB.out)) hb); have n2_ := Aside0.mk (hbox); have n3_ := Aside0.mk ((by rw [hg]; exact (below_size (by repeat (first | (with_reducible first | exact HB.out | apply below_alloc | apply pw_below_drewN | apply below_drew1 | refine below_set ?_ GE257.out) | exact HB.out))) : w.heap.size ≤ gb258)); have n4_ := Aside0.mk ((by rw [hg]; exact (below_size (by repeat (first | (with_reducible first | exact HB.out | apply below_alloc | apply pw_below_drewN | apply below_drew1 | refine below_set ?_ GE257.out) | exact HB.out))) : w.heap.size ≤ gb258)); have n5_ := Aside0.mk ((by rw [hg]; exact Nat.ne_of_lt (blk_lt (g := gb257) (o := .cells #[.slice A0_0 l0_0.length c0_0, .int .i64 a0_1] 89 (0, 0)) (by (with_reducible repeat (first | refine blk_drewN ?_ _ | refine blk_drew ?_ | refine blk_alloc ?_ _)); exact BK257.out)) : gb257 ≠ gb258)); have n6_ := Aside0.mk ((by rw [hg]; exact Nat.ne_of_gt (blk_lt (g := gb257) (o := .cells #[.slice A0_0 l0_0.length c0_0, .int .i64 a0_1] 89 (0, 0)) (by (with_reducible repeat (first | refine blk_drewN ?_ _ | refine blk_drew ?_ | refine blk_alloc ?_ _)); exact BK257.out)) : gb258 ≠ gb257)); clear BK257; clear HB; have BK257 := n0_; have HB := n1_; have BK258 := n2_; have GW258 := n3_; have GE258 := n4_; have NB257_258 := n5_; have NB258_257 := n6_; clear n0_ n1_ n2_ n3_ n4_ n5_ n6_; clear hb hbox hg) | ((with_reducible refine gate_callee (f := 66) rfl ?_); refine goesL_ (some 14) rfl rfl Try.func66 (by kernel_rfl) rfl #[] rfl (by (try simp only [List.map_toArray, List.map_cons, List.map_nil]); first | done | rfl | (simp only [List.length_drop, List.length_take]; rfl)) ?_; (with_reducible refine (pantilelaw33_awake.calls k  true _ A3.out).mono ?_); rintro e w8 ⟨rfl, hb⟩; refine ⟨_, rfl, ?_⟩; have n0_ := Aside0.mk (blk_below (g := gb257) (o := .cells #[.slice A0_0 l0_0.length c0_0, .int .i64 a0_1] 89 (0, 0)) (by (with_reducible repeat (first | refine blk_drewN ?_ _ | refine blk_drew ?_ | refine blk_alloc ?_ _)); exact BK257.out) hb); have n1_ := Aside0.mk (blk_below (g := gb258) (o := .cells #[.slice A1_0 l1_0.length c1_0, .int .i64 a1_1] 89 (0, 0)) (by (with_reducible repeat (first | refine blk_drewN ?_ _ | refine blk_drew ?_ | refine blk_alloc ?_ _)); exact BK258.out) hb); have n2_ := Aside0.mk (below_step (by repeat (first | (with_reducible first | exact HB.out | apply below_alloc | apply pw_below_drewN | apply below_drew1 | refine below_set ?_ GE257.out | refine below_set ?_ GE258.out) | exact HB.out)) hb); clear BK257; clear BK258; clear HB; have BK257 := n0_; have BK258 := n1_; have HB := n2_; clear n0_ n1_ n2_; (try clear hb); (try clear hb2); (try clear hk); (try clear hi)))
    (try simp only [Act.put, List.setIfInBounds_toArray, List.set_cons_zero, List.set_cons_succ])
    go_cut [25] (fun v25 wc => ∃ (kq : Nat) (x25_4 : Bool), v25 = .bool x25_4 ∧ Aside0 (pantilelaw33_CoverWithin.j0 kq x25_4 l0_0 a0_1 l1_0 a1_1 = some r) ∧ Aside0 (kq ≤ k) ∧ Aside0 (wc.heap[gb257]? = some (.cells #[(.slice A0_0 l0_0.length c0_0), .int .i64 a0_1] 89 (0, 0))) ∧ Aside0 (wc.heap[gb258]? = some (.cells #[(.slice A1_0 l1_0.length c1_0), .int .i64 a1_1] 89 (0, 0))) ∧ Aside0 (Below w.heap.size w wc))
    case first =>
      have H := HC5.out
      clear HC5
      by_cases c9 : (l0_0.length : Int) > 40
      · rw [if_pos c9] at H
        have c9b0 : decide (40 < (l0_0.length : Int)) = true := decide_eq_true c9
        have c9b1 : decide (40 < l0_0.length) = true := decide_eq_true (by omega)
        clear c9
        (first | rw [c9b0] | (simp only [i64_w, i32_w]; rw [c9b0]) | skip)
        have H' := Aside0.mk H
        clear H
        have hnb10 := NB257_258.out
        have hnc10 := NB258_257.out
        have hcz11_0 : w8.cell? ⟨gb257, 0, none⟩ = some (.slice A0_0 l0_0.length c0_0) := (blk_cell BK257.out 0).trans rfl
        have hcz11_1 : w8.cell? ⟨gb257, 1, none⟩ = some (.int .i64 a0_1) := (blk_cell BK257.out 1).trans rfl
        have hfz11_0 := blk_frozen BK257.out 0
        have hfz11_1 := blk_frozen BK257.out 1
        go_wp2
        go_meet
        case rel => exact ⟨_, (true), (by first | rfl | (simp; done) | (simp [*]; done)), H', ⟨by first | omega | exact Nat.le_refl _⟩, ⟨by (with_reducible repeat (first | refine blk_drewN ?_ _ | refine blk_drew ?_ | refine blk_alloc ?_ _)); exact BK257.out⟩, ⟨by (with_reducible repeat (first | refine blk_drewN ?_ _ | refine blk_drew ?_ | refine blk_alloc ?_ _)); exact BK258.out⟩, ⟨by repeat (first | (with_reducible first | exact HB.out | apply below_alloc | apply pw_below_drewN | apply below_drew1 | refine below_set ?_ GE257.out | refine below_set ?_ GE258.out) | exact HB.out)⟩⟩
      · rw [if_neg c9] at H
        have c9b0 : decide (40 < (l0_0.length : Int)) = false := decide_eq_false c9
        have c9b1 : decide (40 < l0_0.length) = false := decide_eq_false (by omega)
        clear c9
        (first | rw [c9b0] | (simp only [i64_w, i32_w]; rw [c9b0]) | skip)
        have H' := Aside0.mk H
        clear H
        have hnb12 := NB257_258.out
        have hnc12 := NB258_257.out
        have hcz13_0 : w8.cell? ⟨gb257, 0, none⟩ = some (.slice A0_0 l0_0.length c0_0) := (blk_cell BK257.out 0).trans rfl
        have hcz13_1 : w8.cell? ⟨gb257, 1, none⟩ = some (.int .i64 a0_1) := (blk_cell BK257.out 1).trans rfl
        have hfz13_0 := blk_frozen BK257.out 0
        have hfz13_1 := blk_frozen BK257.out 1
        have hcz14_0 : w8.cell? ⟨gb258, 0, none⟩ = some (.slice A1_0 l1_0.length c1_0) := (blk_cell BK258.out 0).trans rfl
        have hcz14_1 : w8.cell? ⟨gb258, 1, none⟩ = some (.int .i64 a1_1) := (blk_cell BK258.out 1).trans rfl
        have hfz14_0 := blk_frozen BK258.out 0
        have hfz14_1 := blk_frozen BK258.out 1
        go_wp2
        go_meet
        case rel => exact ⟨_, (decide ((l1_0.length : Int) > 40)), (by first | rfl | (simp; done) | (simp [*]; done)), H', ⟨by first | omega | exact Nat.le_refl _⟩, ⟨by (with_reducible repeat (first | refine blk_drewN ?_ _ | refine blk_drew ?_ | refine blk_alloc ?_ _)); exact BK257.out⟩, ⟨by (with_reducible repeat (first | refine blk_drewN ?_ _ | refine blk_drew ?_ | refine blk_alloc ?_ _)); exact BK258.out⟩, ⟨by repeat (first | (with_reducible first | exact HB.out | apply below_alloc | apply pw_below_drewN | apply below_drew1 | refine below_set ?_ GE257.out | refine below_set ?_ GE258.out) | exact HB.out)⟩⟩
    case rest =>
      clear HC5
      try clear c1
      try clear p2
      try clear c4
      try clear c6
      try clear c9
      try clear c9b0
      try clear c9b1
      try clear c10
      try clear c12
      try clear hcz11_0
      try clear hcz11_1
      try clear hcz13_0
      try clear hcz13_1
      try clear hcz14_0
      try clear hcz14_1
      try clear hfz11_0
      try clear hfz11_1
      try clear hfz13_0
      try clear hfz13_1
      try clear hfz14_0
      try clear hfz14_1
      obtain ⟨kq, x25_4, rfl, HA, HJ4, BK257, BK258, HB⟩ := hcut
      cases kq with
      | zero => exact absurd HA.out (by simp [pantilelaw33_CoverWithin.j0])
      | succ kj4 =>
        have H := HA.out
        clear HA
        simp only [pantilelaw33_CoverWithin.j0] at H
        by_cases c15 : x25_4 = true
        · subst c15
          have H1 : (some true) = some r := by rw [if_pos rfl] at H; exact H
          clear H
          have H := H1
          clear H1
          obtain rfl := Option.some.inj H
          go_wp2
          go_ret
          exact ⟨by first | rfl | (simp [errW_none, errW_some] <;> rfl) | (simp [*, errW_none, errW_some] <;> rfl), by repeat (first | (with_reducible first | exact HB.out | apply below_alloc | apply pw_below_drewN | apply below_drew1 | refine below_set ?_ GE257.out | refine below_set ?_ GE258.out) | exact HB.out)⟩
        · replace c15 := Bool.eq_false_iff.mpr c15
          subst c15
          have H1 : ((cover_Range.f kj4 l0_0 a0_1).bind fun bt260 => ((cover_Within.f kj4 l0_0 a0_1 l1_0 a1_1).bind fun bt267 => ((pantileref33_Check.f kj4 l0_0 a0_1).bind fun t269 => ((pantileref33_Check.f kj4 l1_0 a1_1).bind fun t270 => (if t269 = 0 then ((pantileref03_Cell.f kj4 l0_0 a0_1).bind fun bt271 => (if bt260.2.2 = 0 then ((pantileref01_Same.f kj4 bt260.1 bt271.1).bind fun t278 => (if t278 = true then ((pantileref01_Same.f kj4 bt260.2.1 bt271.2).bind fun t279 => (pantilelaw33_CoverWithin.j1 kj4 bt267.1 bt267.2 t270 (!t279) l0_0 a0_1 l1_0 a1_1 bt271.1 bt271.2)) else (pantilelaw33_CoverWithin.j1 kj4 bt267.1 bt267.2 t270 true l0_0 a0_1 l1_0 a1_1 bt271.1 bt271.2))) else (pantilelaw33_CoverWithin.j1 kj4 bt267.1 bt267.2 t270 true l0_0 a0_1 l1_0 a1_1 bt271.1 bt271.2))) else (if (bt260.1.length : Int) = 0 then (if (bt260.2.1.length : Int) = 0 then (if bt260.2.2 = t269 then (if bt267.1 = true then (some false) else (some (bt267.2 == t269))) else (some false)) else (some false)) else (some false))))))) = some r := by rw [if_neg (show ¬ (false = true) by decide)] at H; exact H
          clear H
          have H := H1
          clear H1
          replace H := Option.bind_eq_some_iff.mp H
          obtain ⟨⟨t260, t263, t266⟩, A160, H⟩ := H
          replace H : ((cover_Within.f kj4 l0_0 a0_1 l1_0 a1_1).bind fun bt267 => ((pantileref33_Check.f kj4 l0_0 a0_1).bind fun t269 => ((pantileref33_Check.f kj4 l1_0 a1_1).bind fun t270 => (if t269 = 0 then ((pantileref03_Cell.f kj4 l0_0 a0_1).bind fun bt271 => (if t266 = 0 then ((pantileref01_Same.f kj4 t260 bt271.1).bind fun t278 => (if t278 = true then ((pantileref01_Same.f kj4 t263 bt271.2).bind fun t279 => (pantilelaw33_CoverWithin.j1 kj4 bt267.1 bt267.2 t270 (!t279) l0_0 a0_1 l1_0 a1_1 bt271.1 bt271.2)) else (pantilelaw33_CoverWithin.j1 kj4 bt267.1 bt267.2 t270 true l0_0 a0_1 l1_0 a1_1 bt271.1 bt271.2))) else (pantilelaw33_CoverWithin.j1 kj4 bt267.1 bt267.2 t270 true l0_0 a0_1 l1_0 a1_1 bt271.1 bt271.2))) else (if (t260.length : Int) = 0 then (if (t263.length : Int) = 0 then (if t266 = t269 then (if bt267.1 = true then (some false) else (some (bt267.2 == t269))) else (some false)) else (some false)) else (some false)))))) = some r := H
          have A16 := Aside0.mk A160
          clear A160
          replace H := Option.bind_eq_some_iff.mp H
          obtain ⟨⟨t267, t268⟩, A170, H⟩ := H
          replace H : ((pantileref33_Check.f kj4 l0_0 a0_1).bind fun t269 => ((pantileref33_Check.f kj4 l1_0 a1_1).bind fun t270 => (if t269 = 0 then ((pantileref03_Cell.f kj4 l0_0 a0_1).bind fun bt271 => (if t266 = 0 then ((pantileref01_Same.f kj4 t260 bt271.1).bind fun t278 => (if t278 = true then ((pantileref01_Same.f kj4 t263 bt271.2).bind fun t279 => (pantilelaw33_CoverWithin.j1 kj4 t267 t268 t270 (!t279) l0_0 a0_1 l1_0 a1_1 bt271.1 bt271.2)) else (pantilelaw33_CoverWithin.j1 kj4 t267 t268 t270 true l0_0 a0_1 l1_0 a1_1 bt271.1 bt271.2))) else (pantilelaw33_CoverWithin.j1 kj4 t267 t268 t270 true l0_0 a0_1 l1_0 a1_1 bt271.1 bt271.2))) else (if (t260.length : Int) = 0 then (if (t263.length : Int) = 0 then (if t266 = t269 then (if t267 = true then (some false) else (some (t268 == t269))) else (some false)) else (some false)) else (some false))))) = some r := H
          have A17 := Aside0.mk A170
          clear A170
          replace H := Option.bind_eq_some_iff.mp H
          obtain ⟨t269, A180, H⟩ := H
          replace H : ((pantileref33_Check.f kj4 l1_0 a1_1).bind fun t270 => (if t269 = 0 then ((pantileref03_Cell.f kj4 l0_0 a0_1).bind fun bt271 => (if t266 = 0 then ((pantileref01_Same.f kj4 t260 bt271.1).bind fun t278 => (if t278 = true then ((pantileref01_Same.f kj4 t263 bt271.2).bind fun t279 => (pantilelaw33_CoverWithin.j1 kj4 t267 t268 t270 (!t279) l0_0 a0_1 l1_0 a1_1 bt271.1 bt271.2)) else (pantilelaw33_CoverWithin.j1 kj4 t267 t268 t270 true l0_0 a0_1 l1_0 a1_1 bt271.1 bt271.2))) else (pantilelaw33_CoverWithin.j1 kj4 t267 t268 t270 true l0_0 a0_1 l1_0 a1_1 bt271.1 bt271.2))) else (if (t260.length : Int) = 0 then (if (t263.length : Int) = 0 then (if t266 = t269 then (if t267 = true then (some false) else (some (t268 == t269))) else (some false)) else (some false)) else (some false)))) = some r := H
          have A18 := Aside0.mk A180
          clear A180
          replace H := Option.bind_eq_some_iff.mp H
          obtain ⟨t270, A190, H⟩ := H
          replace H : (if t269 = 0 then ((pantileref03_Cell.f kj4 l0_0 a0_1).bind fun bt271 => (if t266 = 0 then ((pantileref01_Same.f kj4 t260 bt271.1).bind fun t278 => (if t278 = true then ((pantileref01_Same.f kj4 t263 bt271.2).bind fun t279 => (pantilelaw33_CoverWithin.j1 kj4 t267 t268 t270 (!t279) l0_0 a0_1 l1_0 a1_1 bt271.1 bt271.2)) else (pantilelaw33_CoverWithin.j1 kj4 t267 t268 t270 true l0_0 a0_1 l1_0 a1_1 bt271.1 bt271.2))) else (pantilelaw33_CoverWithin.j1 kj4 t267 t268 t270 true l0_0 a0_1 l1_0 a1_1 bt271.1 bt271.2))) else (if (t260.length : Int) = 0 then (if (t263.length : Int) = 0 then (if t266 = t269 then (if t267 = true then (some false) else (some (t268 == t269))) else (some false)) else (some false)) else (some false))) = some r := H
          have A19 := Aside0.mk A190
          clear A190
          by_cases c20 : t269 = 0
          · rw [if_pos c20] at H
            have c20b0 : (t269 == 0) = true := beq_iff_eq.mpr c20
            have c20b1 : (t269 != 0) = false := bne_eq_false_iff_eq.mpr c20
            clear c20
            replace H := Option.bind_eq_some_iff.mp H
            obtain ⟨⟨t271, t274⟩, A210, H⟩ := H
            replace H : (if t266 = 0 then ((pantileref01_Same.f kj4 t260 t271).bind fun t278 => (if t278 = true then ((pantileref01_Same.f kj4 t263 t274).bind fun t279 => (pantilelaw33_CoverWithin.j1 kj4 t267 t268 t270 (!t279) l0_0 a0_1 l1_0 a1_1 t271 t274)) else (pantilelaw33_CoverWithin.j1 kj4 t267 t268 t270 true l0_0 a0_1 l1_0 a1_1 t271 t274))) else (pantilelaw33_CoverWithin.j1 kj4 t267 t268 t270 true l0_0 a0_1 l1_0 a1_1 t271 t274)) = some r := H
            have A21 := Aside0.mk A210
            clear A210
            have HC22 := Aside0.mk H
            clear H
            have hnb23 := NB257_258.out
            have hnc23 := NB258_257.out
            have hcz24_0 : wc.cell? ⟨gb257, 0, none⟩ = some (.slice A0_0 l0_0.length c0_0) := (blk_cell BK257.out 0).trans rfl
            have hcz24_1 : wc.cell? ⟨gb257, 1, none⟩ = some (.int .i64 a0_1) := (blk_cell BK257.out 1).trans rfl
            have hfz24_0 := blk_frozen BK257.out 0
            have hfz24_1 := blk_frozen BK257.out 1
            try go_wp2_with (first | ((with_reducible refine gate_callee (f := 70) rfl ?_); refine goesL_ (some 28) rfl rfl Try.func70 (by kernel_rfl) rfl #[.agg #[.slice A0_0 l0_0.length c0_0, .int .i64 a0_1]] rfl (by (try simp only [List.map_toArray, List.map_cons, List.map_nil]); first | done | rfl | (simp only [List.length_drop, List.length_take]; rfl)) ?_; (with_reducible refine (cover_Range.calls kj4 _ _ l0_0 a0_1 t260 t263 t266 _ ?side1 ?side2 A16.out).mono ?_); (case side1 => repeat (first | exact (Kd.C_below HR0_0.out HB.out) | (with_reducible refine Kd.C_alloc ?_ _) | (with_reducible refine Kd.C_drewN ?_ _) | (with_reducible refine Kd.C_drew ?_))); (case side2 => exact HC0_0.out); rintro e w25 ⟨v261, v264, rfl, ho0, ho1, hb⟩; refine ⟨_, rfl, ?_⟩; have n0_ := Aside0.mk (Kd.R_lower ho0 (below_size (by repeat (first | (with_reducible first | exact HB.out | apply below_alloc | apply pw_below_drewN | apply below_drew1 | refine below_set ?_ GE257.out | refine below_set ?_ GE258.out) | exact HB.out)))); have n1_ := Aside0.mk (Kd.R_lower ho1 (below_size (by repeat (first | (with_reducible first | exact HB.out | apply below_alloc | apply pw_below_drewN | apply below_drew1 | refine below_set ?_ GE257.out | refine below_set ?_ GE258.out) | exact HB.out)))); have n2_ := Aside0.mk (blk_below (g := gb257) (o := .cells #[.slice A0_0 l0_0.length c0_0, .int .i64 a0_1] 89 (0, 0)) (by (with_reducible repeat (first | refine blk_drewN ?_ _ | refine blk_drew ?_ | refine blk_alloc ?_ _)); exact BK257.out) hb); have n3_ := Aside0.mk (blk_below (g := gb258) (o := .cells #[.slice A1_0 l1_0.length c1_0, .int .i64 a1_1] 89 (0, 0)) (by (with_reducible repeat (first | refine blk_drewN ?_ _ | refine blk_drew ?_ | refine blk_alloc ?_ _)); exact BK258.out) hb); have n4_ := Aside0.mk (below_step (by repeat (first | (with_reducible first | exact HB.out | apply below_alloc | apply pw_below_drewN | apply below_drew1 | refine below_set ?_ GE257.out | refine below_set ?_ GE258.out) | exact HB.out)) hb); clear BK257; clear BK258; clear HB; have HO262 := n0_; have HO265 := n1_; have BK257 := n2_; have BK258 := n3_; have HB := n4_; clear n0_ n1_ n2_ n3_ n4_; (try clear hb); (try clear hb2); (try clear hk); (try clear hi); (try clear ho0); (try clear ho1); have hcz26_0 : w25.cell? ⟨gb257, 0, none⟩ = some (.slice A0_0 l0_0.length c0_0) := (blk_cell BK257.out 0).trans rfl; have hcz26_1 : w25.cell? ⟨gb257, 1, none⟩ = some (.int .i64 a0_1) := (blk_cell BK257.out 1).trans rfl; have hfz26_0 := blk_frozen BK257.out 0; have hfz26_1 := blk_frozen BK257.out 1; have hcz27_0 : w25.cell? ⟨gb258, 0, none⟩ = some (.slice A1_0 l1_0.length c1_0) := (blk_cell BK258.out 0).trans rfl; have hcz27_1 : w25.cell? ⟨gb258, 1, none⟩ = some (.int .i64 a1_1) := (blk_cell BK258.out 1).trans rfl; have hfz27_0 := blk_frozen BK258.out 0; have hfz27_1 := blk_frozen BK258.out 1) | ((with_reducible refine gate_callee (f := 71) rfl ?_); refine goesL_ (some 35) rfl rfl Try.func71 (by kernel_rfl) rfl #[.agg #[.slice A0_0 l0_0.length c0_0, .int .i64 a0_1], .agg #[.slice A1_0 l1_0.length c1_0, .int .i64 a1_1]] rfl (by (try simp only [List.map_toArray, List.map_cons, List.map_nil]); first | done | rfl | (simp only [List.length_drop, List.length_take]; rfl)) ?_; (with_reducible refine (cover_Within.calls kj4 _ _ l0_0 a0_1 _ _ l1_0 a1_1 t267 t268 _ ?side1 ?side2 ?side3 ?side4 A17.out).mono ?_); (case side1 => repeat (first | exact (Kd.C_below HR0_0.out HB.out) | (with_reducible refine Kd.C_alloc ?_ _) | (with_reducible refine Kd.C_drewN ?_ _) | (with_reducible refine Kd.C_drew ?_))); (case side2 => exact HC0_0.out); (case side3 => repeat (first | exact (Kd.C_below HR1_0.out HB.out) | (with_reducible refine Kd.C_alloc ?_ _) | (with_reducible refine Kd.C_drewN ?_ _) | (with_reducible refine Kd.C_drew ?_))); (case side4 => exact HC1_0.out); rintro e w28 ⟨rfl, hb⟩; refine ⟨_, rfl, ?_⟩; have n0_ := Aside0.mk (Kd.R_below (by (with_reducible repeat (first | apply Kd.R_alloc | apply Kd.R_drewN | apply Kd.R_drew)); exact HO262.out) hb); have n1_ := Aside0.mk (Kd.R_below (by (with_reducible repeat (first | apply Kd.R_alloc | apply Kd.R_drewN | apply Kd.R_drew)); exact HO265.out) hb); have n2_ := Aside0.mk (blk_below (g := gb257) (o := .cells #[.slice A0_0 l0_0.length c0_0, .int .i64 a0_1] 89 (0, 0)) (by (with_reducible repeat (first | refine blk_drewN ?_ _ | refine blk_drew ?_ | refine blk_alloc ?_ _)); exact BK257.out) hb); have n3_ := Aside0.mk (blk_below (g := gb258) (o := .cells #[.slice A1_0 l1_0.length c1_0, .int .i64 a1_1] 89 (0, 0)) (by (with_reducible repeat (first | refine blk_drewN ?_ _ | refine blk_drew ?_ | refine blk_alloc ?_ _)); exact BK258.out) hb); have n4_ := Aside0.mk (below_step (by repeat (first | (with_reducible first | exact HB.out | apply below_alloc | apply pw_below_drewN | apply below_drew1 | refine below_set ?_ GE257.out | refine below_set ?_ GE258.out) | exact HB.out)) hb); clear HO262; clear HO265; clear BK257; clear BK258; clear HB; have HO262 := n0_; have HO265 := n1_; have BK257 := n2_; have BK258 := n3_; have HB := n4_; clear n0_ n1_ n2_ n3_ n4_; (try clear hb); (try clear hb2); (try clear hk); (try clear hi)))
            have n0_ := Aside0.mk (Kd.R_drew HO262.out)
            have n1_ := Aside0.mk (Kd.R_drew HO265.out)
            have n2_ := Aside0.mk (blk_drew BK257.out)
            have n3_ := Aside0.mk (blk_drew BK258.out)
            have n4_ := Aside0.mk (below_drew1 HB.out)
            clear HO262
            clear HO265
            clear BK257
            clear BK258
            clear HB
            have HO262 := n0_
            have HO265 := n1_
            have BK257 := n2_
            have BK258 := n3_
            have HB := n4_
            clear n0_ n1_ n2_ n3_ n4_
            refine start_ (n := 14) (S := fun w' => w'.cell? ⟨gb257, 0, none⟩ = some (.slice A0_0 l0_0.length c0_0) ∧ w'.cell? ⟨gb257, 1, none⟩ = some (.int .i64 a0_1) ∧ w'.cell? ⟨gb258, 0, none⟩ = some (.slice A1_0 l1_0.length c1_0) ∧ w'.cell? ⟨gb258, 1, none⟩ = some (.int .i64 a1_1)) (ds := []) #[false, false, false, false, false, false, false, false, false, false, false, false, false, false] (by kernel_rfl) rfl rfl ⟨(blk_cell BK257.out 0).trans rfl, (blk_cell BK257.out 1).trans rfl, (blk_cell BK258.out 0).trans rfl, (blk_cell BK258.out 1).trans rfl⟩ (fun hHeld => ?_); refine with_tabW pantilelaw33_CoverWithin.tab7 pantilelaw33_CoverWithin.bits7 (fun HT_ HW_ => ?_)
            generalize w28.drew = w29 at HO262 HO265 BK257 BK258 HB hHeld ⊢
            refine pure_ (i := 0) (N := some 38) (v := ?_) (a' := ?_) #[true, false, false, false, false, false, false, false, false, false, false, false, false, false] rfl rfl (any_of HT_.out (by kernel_rfl)) (fun _ _ _ h => h) (Or.inl ⟨by rfl, ?_⟩) ?_ ?_
            rotate_left
            · intro w'
              go_simp
              with_reducible rfl
            rotate_left
            · simp only [Act.put, List.setIfInBounds_toArray, List.set_cons_zero, List.set_cons_succ, i64_w, i32_w]
              rfl
            refine pure_ (i := 2) (N := some 40) (v := ?_) (a' := ?_) #[true, false, true, false, false, false, false, false, false, false, false, false, false, false] rfl rfl (any_of HT_.out (by kernel_rfl)) (fun _ _ _ h => h) (Or.inl ⟨by rfl, ?_⟩) ?_ ?_
            rotate_left
            · intro w'
              go_simp
              with_reducible rfl
            rotate_left
            · simp only [Act.put, List.setIfInBounds_toArray, List.set_cons_zero, List.set_cons_succ, i64_w, i32_w]
              rfl
            refine pure_ (i := 6) (N := some 44) (v := ?_) (a' := ?_) #[true, false, true, false, false, false, true, false, false, false, false, false, false, false] rfl rfl (any_of HT_.out (by kernel_rfl)) (fun _ _ _ h => h) (Or.inl ⟨by rfl, ?_⟩) ?_ ?_
            rotate_left
            · intro w'
              go_simp
              with_reducible rfl
            rotate_left
            · simp only [Act.put, List.setIfInBounds_toArray, List.set_cons_zero, List.set_cons_succ, i64_w, i32_w]
              rfl
            refine pure_ (i := 8) (N := some 46) (v := ?_) (a' := ?_) #[true, false, true, false, false, false, true, false, true, false, false, false, false, false] rfl rfl (any_of HT_.out (by kernel_rfl)) (fun _ _ _ h => h) (Or.inl ⟨by rfl, ?_⟩) ?_ ?_
            rotate_left
            · intro w'
              go_simp
              with_reducible rfl
            rotate_left
            · simp only [Act.put, List.setIfInBounds_toArray, List.set_cons_zero, List.set_cons_succ, i64_w, i32_w]
              rfl
            refine take_ (i := 1) (N := some 39) (v := ?_) (a' := ?_) #[true, true, true, false, false, false, true, false, true, false, false, false, false, false] rfl rfl (take_ofW HT_.out HW_.out (by kernel_rfl)) (fun _ _ _ h => h) (Or.inl ⟨by rfl, ?_⟩) hHeld ?_ ?_
            rotate_left
            · rintro w' ⟨s0, s1, s2, s3⟩
              go_simp
              with_reducible rfl
            rotate_left
            · simp only [Act.put, List.setIfInBounds_toArray, List.set_cons_zero, List.set_cons_succ, i64_w, i32_w]
              rfl
            refine take_ (i := 3) (N := some 41) (v := ?_) (a' := ?_) #[true, true, true, true, false, false, true, false, true, false, false, false, false, false] rfl rfl (take_ofW HT_.out HW_.out (by kernel_rfl)) (fun _ _ _ h => h) (Or.inl ⟨by rfl, ?_⟩) hHeld ?_ ?_
            rotate_left
            · rintro w' ⟨s0, s1, s2, s3⟩
              go_simp
              with_reducible rfl
            rotate_left
            · simp only [Act.put, List.setIfInBounds_toArray, List.set_cons_zero, List.set_cons_succ, i64_w, i32_w]
              rfl
            refine pure_ (i := 4) (N := some 42) (v := ?_) (a' := ?_) #[true, true, true, true, true, false, true, false, true, false, false, false, false, false] rfl rfl (any_of HT_.out (by kernel_rfl)) (fun _ _ _ h => h) (Or.inl ⟨by rfl, ?_⟩) ?_ ?_
            rotate_left
            · intro w'
              go_simp
              with_reducible rfl
            rotate_left
            · simp only [Act.put, List.setIfInBounds_toArray, List.set_cons_zero, List.set_cons_succ, i64_w, i32_w]
              rfl
            refine take_ (i := 7) (N := some 45) (v := ?_) (a' := ?_) #[true, true, true, true, true, false, true, true, true, false, false, false, false, false] rfl rfl (take_ofW HT_.out HW_.out (by kernel_rfl)) (fun _ _ _ h => h) (Or.inl ⟨by rfl, ?_⟩) hHeld ?_ ?_
            rotate_left
            · rintro w' ⟨s0, s1, s2, s3⟩
              go_simp
              with_reducible rfl
            rotate_left
            · simp only [Act.put, List.setIfInBounds_toArray, List.set_cons_zero, List.set_cons_succ, i64_w, i32_w]
              rfl
            refine take_ (i := 9) (N := some 47) (v := ?_) (a' := ?_) #[true, true, true, true, true, false, true, true, true, true, false, false, false, false] rfl rfl (take_ofW HT_.out HW_.out (by kernel_rfl)) (fun _ _ _ h => h) (Or.inl ⟨by rfl, ?_⟩) hHeld ?_ ?_
            rotate_left
            · rintro w' ⟨s0, s1, s2, s3⟩
              go_simp
              with_reducible rfl
            rotate_left
            · simp only [Act.put, List.setIfInBounds_toArray, List.set_cons_zero, List.set_cons_succ, i64_w, i32_w]
              rfl
            refine pure_ (i := 10) (N := some 48) (v := ?_) (a' := ?_) #[true, true, true, true, true, false, true, true, true, true, true, false, false, false] rfl rfl (any_of HT_.out (by kernel_rfl)) (fun _ _ _ h => h) (Or.inl ⟨by rfl, ?_⟩) ?_ ?_
            rotate_left
            · intro w'
              go_simp
              with_reducible rfl
            rotate_left
            · simp only [Act.put, List.setIfInBounds_toArray, List.set_cons_zero, List.set_cons_succ, i64_w, i32_w]
              rfl
            refine one_ (i := 5) (N := some 43) #[true, true, true, true, true, true, true, true, true, true, true, false, false, false] rfl rfl (one_of HT_.out (by kernel_rfl)) (by decide) (fun K hK => ?_)
            refine goes_ Try.func72 (by kernel_rfl) rfl #[.agg #[.slice A0_0 l0_0.length c0_0, .int .i64 a0_1]] (by rfl) rfl rfl (by (try simp only [List.map_toArray, List.map_cons, List.map_nil]); first | done | rfl | (simp only [List.length_drop, List.length_take]; rfl)) ?_
            with_reducible refine (pantileref33_Check.calls kj4 _ _ l0_0 a0_1 t269 _ ?side1 ?side2 A18.out).mono ?_
            (case side1 => repeat (first | exact (Kd.C_below HR0_0.out HB.out) | (with_reducible refine Kd.C_alloc ?_ _) | (with_reducible refine Kd.C_drewN ?_ _) | (with_reducible refine Kd.C_drew ?_)))
            (case side2 => exact HC0_0.out)
            rintro e w30 ⟨rfl, hb⟩
            refine ⟨_, rfl, ?_⟩
            have n0_ := Aside0.mk (Kd.R_below (by (with_reducible repeat (first | apply Kd.R_alloc | apply Kd.R_drewN | apply Kd.R_drew)); exact HO262.out) hb)
            have n1_ := Aside0.mk (Kd.R_below (by (with_reducible repeat (first | apply Kd.R_alloc | apply Kd.R_drewN | apply Kd.R_drew)); exact HO265.out) hb)
            have n2_ := Aside0.mk (blk_below (g := gb257) (o := .cells #[.slice A0_0 l0_0.length c0_0, .int .i64 a0_1] 89 (0, 0)) (by (with_reducible repeat (first | refine blk_drewN ?_ _ | refine blk_drew ?_ | refine blk_alloc ?_ _)); exact BK257.out) hb)
            have n3_ := Aside0.mk (blk_below (g := gb258) (o := .cells #[.slice A1_0 l1_0.length c1_0, .int .i64 a1_1] 89 (0, 0)) (by (with_reducible repeat (first | refine blk_drewN ?_ _ | refine blk_drew ?_ | refine blk_alloc ?_ _)); exact BK258.out) hb)
            have n4_ := Aside0.mk (below_step (by repeat (first | (with_reducible first | exact HB.out | apply below_alloc | apply pw_below_drewN | apply below_drew1 | refine below_set ?_ GE257.out | refine below_set ?_ GE258.out) | exact HB.out)) hb)
            clear HO262
            clear HO265
            clear BK257
            clear BK258
            clear HB
            have HO262 := n0_
            have HO265 := n1_
            have BK257 := n2_
            have BK258 := n3_
            have HB := n4_
            clear n0_ n1_ n2_ n3_ n4_
            (try clear hb)
            (try clear hb2)
            (try clear hk)
            (try clear hi)
            refine hK.out _ _ ⟨(blk_cell BK257.out 0).trans rfl, (blk_cell BK257.out 1).trans rfl, (blk_cell BK258.out 0).trans rfl, (blk_cell BK258.out 1).trans rfl⟩ (fun hHeld => ?_)
            clear hK K
            refine norm_ (a' := ?_) ?_ ?_
            rotate_left
            · show Act.put _ (some 43) _ = _
              simp only [Act.put, List.setIfInBounds_toArray, List.set_cons_zero, List.set_cons_succ, i64_w, i32_w]
              rfl
            refine one_ (i := 11) (N := some 49) #[true, true, true, true, true, true, true, true, true, true, true, true, false, false] rfl rfl (one_of HT_.out (by kernel_rfl)) (by decide) (fun K hK => ?_)
            refine goes_ Try.func72 (by kernel_rfl) rfl #[.agg #[.slice A1_0 l1_0.length c1_0, .int .i64 a1_1]] (by rfl) rfl rfl (by (try simp only [List.map_toArray, List.map_cons, List.map_nil]); first | done | rfl | (simp only [List.length_drop, List.length_take]; rfl)) ?_
            with_reducible refine (pantileref33_Check.calls kj4 _ _ l1_0 a1_1 t270 _ ?side1 ?side2 A19.out).mono ?_
            (case side1 => repeat (first | exact (Kd.C_below HR1_0.out HB.out) | (with_reducible refine Kd.C_alloc ?_ _) | (with_reducible refine Kd.C_drewN ?_ _) | (with_reducible refine Kd.C_drew ?_)))
            (case side2 => exact HC1_0.out)
            rintro e w31 ⟨rfl, hb⟩
            refine ⟨_, rfl, ?_⟩
            have n0_ := Aside0.mk (Kd.R_below (by (with_reducible repeat (first | apply Kd.R_alloc | apply Kd.R_drewN | apply Kd.R_drew)); exact HO262.out) hb)
            have n1_ := Aside0.mk (Kd.R_below (by (with_reducible repeat (first | apply Kd.R_alloc | apply Kd.R_drewN | apply Kd.R_drew)); exact HO265.out) hb)
            have n2_ := Aside0.mk (blk_below (g := gb257) (o := .cells #[.slice A0_0 l0_0.length c0_0, .int .i64 a0_1] 89 (0, 0)) (by (with_reducible repeat (first | refine blk_drewN ?_ _ | refine blk_drew ?_ | refine blk_alloc ?_ _)); exact BK257.out) hb)
            have n3_ := Aside0.mk (blk_below (g := gb258) (o := .cells #[.slice A1_0 l1_0.length c1_0, .int .i64 a1_1] 89 (0, 0)) (by (with_reducible repeat (first | refine blk_drewN ?_ _ | refine blk_drew ?_ | refine blk_alloc ?_ _)); exact BK258.out) hb)
            have n4_ := Aside0.mk (below_step (by repeat (first | (with_reducible first | exact HB.out | apply below_alloc | apply pw_below_drewN | apply below_drew1 | refine below_set ?_ GE257.out | refine below_set ?_ GE258.out) | exact HB.out)) hb)
            clear HO262
            clear HO265
            clear BK257
            clear BK258
            clear HB
            have HO262 := n0_
            have HO265 := n1_
            have BK257 := n2_
            have BK258 := n3_
            have HB := n4_
            clear n0_ n1_ n2_ n3_ n4_
            (try clear hb)
            (try clear hb2)
            (try clear hk)
            (try clear hi)
            refine hK.out _ _ ⟨(blk_cell BK257.out 0).trans rfl, (blk_cell BK257.out 1).trans rfl, (blk_cell BK258.out 0).trans rfl, (blk_cell BK258.out 1).trans rfl⟩ (fun hHeld => ?_)
            clear hK K
            refine norm_ (a' := ?_) ?_ ?_
            rotate_left
            · show Act.put _ (some 49) _ = _
              simp only [Act.put, List.setIfInBounds_toArray, List.set_cons_zero, List.set_cons_succ, i64_w, i32_w]
              rfl
            refine pure_ (i := 12) (N := some 10) (v := ?_) (a' := ?_) #[true, true, true, true, true, true, true, true, true, true, true, true, true, false] rfl rfl (any_of HT_.out (by kernel_rfl)) (fun _ _ _ h => h) (Or.inl ⟨by rfl, ?_⟩) ?_ ?_
            rotate_left
            · intro w'
              go_simp
              with_reducible rfl
            rotate_left
            · simp only [Act.put, List.setIfInBounds_toArray, List.set_cons_zero, List.set_cons_succ, i64_w, i32_w]
              rfl
            refine pure_ (i := 13) (N := some 11) (v := ?_) (a' := ?_) #[true, true, true, true, true, true, true, true, true, true, true, true, true, true] rfl rfl (any_of HT_.out (by kernel_rfl)) (fun _ _ _ h => h) (Or.inl ⟨by rfl, ?_⟩) ?_ ?_
            rotate_left
            · intro w'
              go_simp
              with_reducible rfl
            rotate_left
            · simp only [Act.put, List.setIfInBounds_toArray, List.set_cons_zero, List.set_cons_succ, i64_w, i32_w]
              rfl
            refine done_ (done_of HT_.out (by kernel_rfl)) ?_
            have hcz32_0 : w31.cell? ⟨gb257, 0, none⟩ = some (.slice A0_0 l0_0.length c0_0) := (blk_cell BK257.out 0).trans rfl
            have hcz32_1 : w31.cell? ⟨gb257, 1, none⟩ = some (.int .i64 a0_1) := (blk_cell BK257.out 1).trans rfl
            have hfz32_0 := blk_frozen BK257.out 0
            have hfz32_1 := blk_frozen BK257.out 1
            go_upto_region 11 with (first | ((with_reducible refine gate_callee (f := 31) rfl ?_); refine goesL_ (some 78) rfl rfl Try.func31 (by kernel_rfl) rfl #[.slice A0_0 l0_0.length c0_0, .int .i64 a0_1] rfl (by (try simp only [List.map_toArray, List.map_cons, List.map_nil]); first | done | rfl | (simp only [List.length_drop, List.length_take]; rfl)) ?_; (with_reducible refine (pantileref03_Cell.calls kj4 _ _ l0_0 a0_1 t271 t274 _ ?side1 ?side2 A21.out).mono ?_); (case side1 => repeat (first | exact (Kd.C_below HR0_0.out HB.out) | (with_reducible refine Kd.C_alloc ?_ _) | (with_reducible refine Kd.C_drewN ?_ _) | (with_reducible refine Kd.C_drew ?_))); (case side2 => exact HC0_0.out); rintro e w33 ⟨v272, v275, rfl, ho0, ho1, hb⟩; refine ⟨_, rfl, ?_⟩; have n0_ := Aside0.mk (Kd.R_mono (Kd.R_told (Kd.R_told (Kd.R_old (by (with_reducible repeat (first | apply Kd.R_alloc | apply Kd.R_drewN | apply Kd.R_drew)); exact HO262.out) hb) (Kd.R_base ho0)) (Kd.R_base ho1)) (fun _ h_ => h_.1)); have n1_ := Aside0.mk (Kd.R_mono (Kd.R_told (Kd.R_told (Kd.R_old (by (with_reducible repeat (first | apply Kd.R_alloc | apply Kd.R_drewN | apply Kd.R_drew)); exact HO265.out) hb) (Kd.R_base ho0)) (Kd.R_base ho1)) (fun _ h_ => h_.1)); have n2_ := Aside0.mk (Kd.R_lower (Kd.R_new' (Kd.R_new' ho0 (Kd.R_lt (by (with_reducible repeat (first | apply Kd.R_alloc | apply Kd.R_drewN | apply Kd.R_drew)); exact HO262.out))) (Kd.R_lt (by (with_reducible repeat (first | apply Kd.R_alloc | apply Kd.R_drewN | apply Kd.R_drew)); exact HO265.out))) (below_size (by repeat (first | (with_reducible first | exact HB.out | apply below_alloc | apply pw_below_drewN | apply below_drew1 | refine below_set ?_ GE257.out | refine below_set ?_ GE258.out) | exact HB.out)))); have n3_ := Aside0.mk (Kd.R_lower (Kd.R_new' (Kd.R_new' ho1 (Kd.R_lt (by (with_reducible repeat (first | apply Kd.R_alloc | apply Kd.R_drewN | apply Kd.R_drew)); exact HO262.out))) (Kd.R_lt (by (with_reducible repeat (first | apply Kd.R_alloc | apply Kd.R_drewN | apply Kd.R_drew)); exact HO265.out))) (below_size (by repeat (first | (with_reducible first | exact HB.out | apply below_alloc | apply pw_below_drewN | apply below_drew1 | refine below_set ?_ GE257.out | refine below_set ?_ GE258.out) | exact HB.out)))); have n4_ := Aside0.mk (blk_below (g := gb257) (o := .cells #[.slice A0_0 l0_0.length c0_0, .int .i64 a0_1] 89 (0, 0)) (by (with_reducible repeat (first | refine blk_drewN ?_ _ | refine blk_drew ?_ | refine blk_alloc ?_ _)); exact BK257.out) hb); have n5_ := Aside0.mk (blk_below (g := gb258) (o := .cells #[.slice A1_0 l1_0.length c1_0, .int .i64 a1_1] 89 (0, 0)) (by (with_reducible repeat (first | refine blk_drewN ?_ _ | refine blk_drew ?_ | refine blk_alloc ?_ _)); exact BK258.out) hb); have n6_ := Aside0.mk (below_step (by repeat (first | (with_reducible first | exact HB.out | apply below_alloc | apply pw_below_drewN | apply below_drew1 | refine below_set ?_ GE257.out | refine below_set ?_ GE258.out) | exact HB.out)) hb); clear HO262; clear HO265; clear BK257; clear BK258; clear HB; have HO262 := n0_; have HO265 := n1_; have HO273 := n2_; have HO276 := n3_; have BK257 := n4_; have BK258 := n5_; have HB := n6_; clear n0_ n1_ n2_ n3_ n4_ n5_ n6_; (try clear hb); (try clear hb2); (try clear hk); (try clear hi); (try clear ho0); (try clear ho1)) | ((with_reducible refine gate_dst (N := 12) rfl ?_); (try (refine gate_guard (by rfl) ?_; dsimp only)); refine box_event ?hg (N := 12) ?hd (cs := #[.slice none 0 0, .slice none 0 0]) (t := 32) ?hr ?_; (case hd => rfl); (case hg => rfl); (case hr => first | (go_simp; done) | (go_simp; rfl)); intro gb277 hg w34 hbox hb; have n0_ := Aside0.mk (Kd.R_below (by (with_reducible repeat (first | apply Kd.R_alloc | apply Kd.R_drewN | apply Kd.R_drew)); exact HO262.out) hb); have n1_ := Aside0.mk (Kd.R_below (by (with_reducible repeat (first | apply Kd.R_alloc | apply Kd.R_drewN | apply Kd.R_drew)); exact HO265.out) hb); have n2_ := Aside0.mk (Kd.R_below (by (with_reducible repeat (first | apply Kd.R_alloc | apply Kd.R_drewN | apply Kd.R_drew)); exact HO273.out) hb); have n3_ := Aside0.mk (Kd.R_below (by (with_reducible repeat (first | apply Kd.R_alloc | apply Kd.R_drewN | apply Kd.R_drew)); exact HO276.out) hb); have n4_ := Aside0.mk (blk_below (g := gb257) (o := .cells #[.slice A0_0 l0_0.length c0_0, .int .i64 a0_1] 89 (0, 0)) (by (with_reducible repeat (first | refine blk_drewN ?_ _ | refine blk_drew ?_ | refine blk_alloc ?_ _)); exact BK257.out) hb); have n5_ := Aside0.mk (blk_below (g := gb258) (o := .cells #[.slice A1_0 l1_0.length c1_0, .int .i64 a1_1] 89 (0, 0)) (by (with_reducible repeat (first | refine blk_drewN ?_ _ | refine blk_drew ?_ | refine blk_alloc ?_ _)); exact BK258.out) hb); have n6_ := Aside0.mk (below_step (by repeat (first | (with_reducible first | exact HB.out | apply below_alloc | apply pw_below_drewN | apply below_drew1 | refine below_set ?_ GE257.out | refine below_set ?_ GE258.out) | exact HB.out)) hb); have n7_ := Aside0.mk (hbox); have n8_ := Aside0.mk ((by rw [hg]; exact (below_size (by repeat (first | (with_reducible first | exact HB.out | apply below_alloc | apply pw_below_drewN | apply below_drew1 | refine below_set ?_ GE257.out | refine below_set ?_ GE258.out) | exact HB.out))) : w.heap.size ≤ gb277)); have n9_ := Aside0.mk ((by rw [hg]; exact (below_size (by repeat (first | (with_reducible first | exact HB.out | apply below_alloc | apply pw_below_drewN | apply below_drew1 | refine below_set ?_ GE257.out | refine below_set ?_ GE258.out) | exact HB.out))) : w.heap.size ≤ gb277)); have n10_ := Aside0.mk ((by rw [hg]; exact Nat.ne_of_lt (blk_lt (g := gb257) (o := .cells #[.slice A0_0 l0_0.length c0_0, .int .i64 a0_1] 89 (0, 0)) (by (with_reducible repeat (first | refine blk_drewN ?_ _ | refine blk_drew ?_ | refine blk_alloc ?_ _)); exact BK257.out)) : gb257 ≠ gb277)); have n11_ := Aside0.mk ((by rw [hg]; exact Nat.ne_of_gt (blk_lt (g := gb257) (o := .cells #[.slice A0_0 l0_0.length c0_0, .int .i64 a0_1] 89 (0, 0)) (by (with_reducible repeat (first | refine blk_drewN ?_ _ | refine blk_drew ?_ | refine blk_alloc ?_ _)); exact BK257.out)) : gb277 ≠ gb257)); have n12_ := Aside0.mk ((by rw [hg]; exact Nat.ne_of_lt (blk_lt (g := gb258) (o := .cells #[.slice A1_0 l1_0.length c1_0, .int .i64 a1_1] 89 (0, 0)) (by (with_reducible repeat (first | refine blk_drewN ?_ _ | refine blk_drew ?_ | refine blk_alloc ?_ _)); exact BK258.out)) : gb258 ≠ gb277)); have n13_ := Aside0.mk ((by rw [hg]; exact Nat.ne_of_gt (blk_lt (g := gb258) (o := .cells #[.slice A1_0 l1_0.length c1_0, .int .i64 a1_1] 89 (0, 0)) (by (with_reducible repeat (first | refine blk_drewN ?_ _ | refine blk_drew ?_ | refine blk_alloc ?_ _)); exact BK258.out)) : gb277 ≠ gb258)); clear HO262; clear HO265; clear HO273; clear HO276; clear BK257; clear BK258; clear HB; have HO262 := n0_; have HO265 := n1_; have HO273 := n2_; have HO276 := n3_; have BK257 := n4_; have BK258 := n5_; have HB := n6_; have BK277 := n7_; have GW277 := n8_; have GE277 := n9_; have NB257_277 := n10_; have NB277_257 := n11_; have NB258_277 := n12_; have NB277_258 := n13_; clear n0_ n1_ n2_ n3_ n4_ n5_ n6_ n7_ n8_ n9_ n10_ n11_ n12_ n13_; clear hb hbox hg; obtain ⟨Ao35, co35, eo35⟩ := Kd.R_slice HO273.out; subst eo35; have hnb36 := NB277_257.out; have hnc36 := NB257_277.out; have hnb37 := NB277_258.out; have hnc37 := NB258_277.out; have hcz38_0 : w34.cell? ⟨gb277, 0, none⟩ = some (.slice none 0 0) := (blk_cell BK277.out 0).trans rfl; have hcz38_1 : w34.cell? ⟨gb277, 1, none⟩ = some (.slice none 0 0) := (blk_cell BK277.out 1).trans rfl; have hfz38_0 := blk_frozen BK277.out 0; have hfz38_1 := blk_frozen BK277.out 1; obtain ⟨Ao39, co39, eo39⟩ := Kd.R_slice HO276.out; subst eo39))
            (try simp only [Act.put, List.setIfInBounds_toArray, List.set_cons_zero, List.set_cons_succ])
            go_cut [94] (fun v94 wc => ∃ (kq : Nat) (x94_21 : Bool), v94 = .bool x94_21 ∧ Aside0 (pantilelaw33_CoverWithin.j1 kq t267 t268 t270 x94_21 l0_0 a0_1 l1_0 a1_1 t271 t274 = some r) ∧ Aside0 (kq ≤ kj4) ∧ Aside0 (Kd.R (Kd.int .u64) 30 wc w.heap.size (fun k_ => some k_ ≠ ((.slice Ao39 t274.length co39) : Value).ownBlock) (.slice Ao35 t271.length co35) t271) ∧ Aside0 (Kd.R (Kd.int .u64) 30 wc w.heap.size (fun k_ => some k_ ≠ ((.slice Ao35 t271.length co35) : Value).ownBlock) (.slice Ao39 t274.length co39) t274) ∧ Aside0 (wc.heap[gb257]? = some (.cells #[(.slice A0_0 l0_0.length c0_0), .int .i64 a0_1] 89 (0, 0))) ∧ Aside0 (wc.heap[gb258]? = some (.cells #[(.slice A1_0 l1_0.length c1_0), .int .i64 a1_1] 89 (0, 0))) ∧ Aside0 (wc.heap[gb277]? = some (.cells #[(.slice Ao35 t271.length co35), (.slice Ao39 t274.length co39)] 32 (0, 0))) ∧ Aside0 (Below w.heap.size w wc))
            case first =>
              have H := HC22.out
              clear HC22
              by_cases c40 : t266 = 0
              · rw [if_pos c40] at H
                have c40b0 : (t266 == 0) = true := beq_iff_eq.mpr c40
                have c40b1 : (t266 != 0) = false := bne_eq_false_iff_eq.mpr c40
                clear c40
                (first | rw [c40b0] | (simp only [i64_w, i32_w]; rw [c40b0]) | skip)
                replace H := Option.bind_eq_some_iff.mp H
                obtain ⟨t278, A410, H⟩ := H
                replace H : (if t278 = true then ((pantileref01_Same.f kj4 t263 t274).bind fun t279 => (pantilelaw33_CoverWithin.j1 kj4 t267 t268 t270 (!t279) l0_0 a0_1 l1_0 a1_1 t271 t274)) else (pantilelaw33_CoverWithin.j1 kj4 t267 t268 t270 true l0_0 a0_1 l1_0 a1_1 t271 t274)) = some r := H
                have A41 := Aside0.mk A410
                clear A410
                by_cases c42 : t278 = true
                · subst c42
                  have H1 : ((pantileref01_Same.f kj4 t263 t274).bind fun t279 => (pantilelaw33_CoverWithin.j1 kj4 t267 t268 t270 (!t279) l0_0 a0_1 l1_0 a1_1 t271 t274)) = some r := by rw [if_pos rfl] at H; exact H
                  clear H
                  have H := H1
                  clear H1
                  replace H := Option.bind_eq_some_iff.mp H
                  obtain ⟨t279, A430, H⟩ := H
                  replace H : (pantilelaw33_CoverWithin.j1 kj4 t267 t268 t270 (!t279) l0_0 a0_1 l1_0 a1_1 t271 t274) = some r := H
                  have A43 := Aside0.mk A430
                  clear A430
                  have H' := Aside0.mk H
                  clear H
                  have hnb44 := NB277_257.out
                  have hnc44 := NB257_277.out
                  have hnb45 := NB277_258.out
                  have hnc45 := NB258_277.out
                  have hcz46_0 : w34.cell? ⟨gb277, 0, none⟩ = some (.slice none 0 0) := (blk_cell BK277.out 0).trans rfl
                  have hcz46_1 : w34.cell? ⟨gb277, 1, none⟩ = some (.slice none 0 0) := (blk_cell BK277.out 1).trans rfl
                  have hfz46_0 := blk_frozen BK277.out 0
                  have hfz46_1 := blk_frozen BK277.out 1
                  obtain ⟨Ao47, co47, eo47⟩ := Kd.R_slice HO262.out
                  subst eo47
                  go_wp2_with (first | (go_at_call 23; (with_reducible refine (pantileref01_Same.calls kj4 _ _ t260 _ _ t271 true _ ?side1 ?side2 ?side3 ?side4 A41.out).mono ?_); (case side1 => refine (Kd.R_reads' (e := 30) (base := w.heap.size) (ok := fun k_ => ((some k_ ≠ (v264 : Value).ownBlock ∧ some k_ ≠ (.slice Ao35 t271.length co35 : Value).ownBlock) ∧ some k_ ≠ (.slice Ao39 t274.length co39 : Value).ownBlock)) (n := t260.length) (c := co47) ?_).2.2; exact (by (with_reducible repeat (first | apply Kd.R_alloc | apply Kd.R_drewN | apply Kd.R_drew)); exact (Kd.R_mono (Kd.R_far (p := ⟨gb277, 1, none⟩) (Kd.R_far (p := ⟨gb277, 0, none⟩) (Kd.R_types HO262.out BK277.out (by decide)) (fun _ hk => hk.2) (.slice Ao35 t271.length co35)) (fun _ hk => hk.2) (.slice Ao39 t274.length co39)) (fun _ h_ => h_.1)))); (case side2 => exact (Kd.R_reads' HO262.out).2.1); (case side3 => refine (Kd.R_reads' (e := 30) (base := w.heap.size) (ok := fun k_ => ((some k_ ≠ (.slice Ao39 t274.length co39 : Value).ownBlock ∧ some k_ ≠ (.slice Ao47 t260.length co47 : Value).ownBlock) ∧ some k_ ≠ (v264 : Value).ownBlock)) (n := t271.length) (c := co35) ?_).2.2; exact (by (with_reducible repeat (first | apply Kd.R_alloc | apply Kd.R_drewN | apply Kd.R_drew)); exact (Kd.R_mono (Kd.R_far (p := ⟨gb277, 1, none⟩) (Kd.R_far (p := ⟨gb277, 0, none⟩) (Kd.R_types HO273.out BK277.out (by decide)) (fun _ hk => hk.2) (.slice Ao35 t271.length co35)) (fun _ hk => hk.2) (.slice Ao39 t274.length co39)) (fun _ h_ => h_.1)))); (case side4 => exact (Kd.R_reads' HO273.out).2.1); rintro e w' ⟨rfl, ⟨nd, rfl⟩⟩; obtain ⟨Ao48, co48, eo48⟩ := Kd.R_slice HO265.out; subst eo48) | (go_at_call 23; (with_reducible refine (pantileref01_Same.calls kj4 _ _ t263 _ _ t274 t279 _ ?side1 ?side2 ?side3 ?side4 A43.out).mono ?_); (case side1 => refine (Kd.R_reads' (e := 30) (base := w.heap.size) (ok := fun k_ => ((some k_ ≠ (.slice Ao47 t260.length co47 : Value).ownBlock ∧ some k_ ≠ (.slice Ao35 t271.length co35 : Value).ownBlock) ∧ some k_ ≠ (.slice Ao39 t274.length co39 : Value).ownBlock)) (n := t263.length) (c := co48) ?_).2.2; exact (by (with_reducible repeat (first | apply Kd.R_alloc | apply Kd.R_drewN | apply Kd.R_drew)); exact (Kd.R_mono (Kd.R_far (p := ⟨gb277, 1, none⟩) (Kd.R_far (p := ⟨gb277, 0, none⟩) (Kd.R_types HO265.out BK277.out (by decide)) (fun _ hk => hk.2) (.slice Ao35 t271.length co35)) (fun _ hk => hk.2) (.slice Ao39 t274.length co39)) (fun _ h_ => h_.1)))); (case side2 => exact (Kd.R_reads' HO265.out).2.1); (case side3 => refine (Kd.R_reads' (e := 30) (base := w.heap.size) (ok := fun k_ => ((some k_ ≠ (.slice Ao35 t271.length co35 : Value).ownBlock ∧ some k_ ≠ (.slice Ao47 t260.length co47 : Value).ownBlock) ∧ some k_ ≠ (.slice Ao48 t263.length co48 : Value).ownBlock)) (n := t274.length) (c := co39) ?_).2.2; exact (by (with_reducible repeat (first | apply Kd.R_alloc | apply Kd.R_drewN | apply Kd.R_drew)); exact (Kd.R_mono (Kd.R_far (p := ⟨gb277, 1, none⟩) (Kd.R_far (p := ⟨gb277, 0, none⟩) (Kd.R_types HO276.out BK277.out (by decide)) (fun _ hk => hk.2) (.slice Ao35 t271.length co35)) (fun _ hk => hk.2) (.slice Ao39 t274.length co39)) (fun _ h_ => h_.1)))); (case side4 => exact (Kd.R_reads' HO276.out).2.1); rintro e w' ⟨rfl, ⟨nd, rfl⟩⟩))
                  go_meet
                  case rel => exact ⟨_, (!t279), (by first | rfl | (simp; done) | (simp [*]; done)), H', ⟨by have := HJ4.out; first | omega | exact Nat.le_refl _⟩, ⟨by (with_reducible repeat (first | apply Kd.R_alloc | apply Kd.R_drewN | apply Kd.R_drew)); exact Kd.R_mono (Kd.R_far (p := ⟨gb277, 1, none⟩) (Kd.R_far (p := ⟨gb277, 0, none⟩) (Kd.R_types HO273.out BK277.out (by decide)) (fun _ hk => hk.2) (.slice Ao35 t271.length co35)) (fun _ hk => hk.2) (.slice Ao39 t274.length co39)) (fun _ hk => hk.1.1.1)⟩, ⟨by (with_reducible repeat (first | apply Kd.R_alloc | apply Kd.R_drewN | apply Kd.R_drew)); exact Kd.R_mono (Kd.R_far (p := ⟨gb277, 1, none⟩) (Kd.R_far (p := ⟨gb277, 0, none⟩) (Kd.R_types HO276.out BK277.out (by decide)) (fun _ hk => hk.2) (.slice Ao35 t271.length co35)) (fun _ hk => hk.2) (.slice Ao39 t274.length co39)) (fun _ hk => hk.1.1.1)⟩, ⟨by (with_reducible repeat (first | refine blk_drewN ?_ _ | refine blk_drew ?_ | refine blk_alloc ?_ _)); refine blk_far ?_ NB257_277.out _; (with_reducible repeat (first | refine blk_drewN ?_ _ | refine blk_drew ?_ | refine blk_alloc ?_ _)); refine blk_far ?_ NB257_277.out _; (with_reducible repeat (first | refine blk_drewN ?_ _ | refine blk_drew ?_ | refine blk_alloc ?_ _)); exact BK257.out⟩, ⟨by (with_reducible repeat (first | refine blk_drewN ?_ _ | refine blk_drew ?_ | refine blk_alloc ?_ _)); refine blk_far ?_ NB258_277.out _; (with_reducible repeat (first | refine blk_drewN ?_ _ | refine blk_drew ?_ | refine blk_alloc ?_ _)); refine blk_far ?_ NB258_277.out _; (with_reducible repeat (first | refine blk_drewN ?_ _ | refine blk_drew ?_ | refine blk_alloc ?_ _)); exact BK258.out⟩, ⟨by (with_reducible repeat (first | refine blk_drewN ?_ _ | refine blk_drew ?_ | refine blk_alloc ?_ _)); refine blk_put (cs := #[.slice Ao35 t271.length co35, .slice none 0 0]) ?_ 1 _ rfl; (with_reducible repeat (first | refine blk_drewN ?_ _ | refine blk_drew ?_ | refine blk_alloc ?_ _)); refine blk_put (cs := #[.slice none 0 0, .slice none 0 0]) ?_ 0 _ rfl; (with_reducible repeat (first | refine blk_drewN ?_ _ | refine blk_drew ?_ | refine blk_alloc ?_ _)); exact BK277.out⟩, ⟨by repeat (first | (with_reducible first | exact HB.out | apply below_alloc | apply pw_below_drewN | apply below_drew1 | refine below_set ?_ GE257.out | refine below_set ?_ GE258.out | refine below_set ?_ GE277.out) | exact HB.out)⟩⟩
                · replace c42 := Bool.eq_false_iff.mpr c42
                  subst c42
                  have H1 : (pantilelaw33_CoverWithin.j1 kj4 t267 t268 t270 true l0_0 a0_1 l1_0 a1_1 t271 t274) = some r := by rw [if_neg (show ¬ (false = true) by decide)] at H; exact H
                  clear H
                  have H := H1
                  clear H1
                  have H' := Aside0.mk H
                  clear H
                  have hnb49 := NB277_257.out
                  have hnc49 := NB257_277.out
                  have hnb50 := NB277_258.out
                  have hnc50 := NB258_277.out
                  have hcz51_0 : w34.cell? ⟨gb277, 0, none⟩ = some (.slice none 0 0) := (blk_cell BK277.out 0).trans rfl
                  have hcz51_1 : w34.cell? ⟨gb277, 1, none⟩ = some (.slice none 0 0) := (blk_cell BK277.out 1).trans rfl
                  have hfz51_0 := blk_frozen BK277.out 0
                  have hfz51_1 := blk_frozen BK277.out 1
                  obtain ⟨Ao52, co52, eo52⟩ := Kd.R_slice HO262.out
                  subst eo52
                  go_wp2_with (first | (go_at_call 23; (with_reducible refine (pantileref01_Same.calls kj4 _ _ t260 _ _ t271 false _ ?side1 ?side2 ?side3 ?side4 A41.out).mono ?_); (case side1 => refine (Kd.R_reads' (e := 30) (base := w.heap.size) (ok := fun k_ => ((some k_ ≠ (v264 : Value).ownBlock ∧ some k_ ≠ (.slice Ao35 t271.length co35 : Value).ownBlock) ∧ some k_ ≠ (.slice Ao39 t274.length co39 : Value).ownBlock)) (n := t260.length) (c := co52) ?_).2.2; exact (by (with_reducible repeat (first | apply Kd.R_alloc | apply Kd.R_drewN | apply Kd.R_drew)); exact (Kd.R_mono (Kd.R_far (p := ⟨gb277, 1, none⟩) (Kd.R_far (p := ⟨gb277, 0, none⟩) (Kd.R_types HO262.out BK277.out (by decide)) (fun _ hk => hk.2) (.slice Ao35 t271.length co35)) (fun _ hk => hk.2) (.slice Ao39 t274.length co39)) (fun _ h_ => h_.1)))); (case side2 => exact (Kd.R_reads' HO262.out).2.1); (case side3 => refine (Kd.R_reads' (e := 30) (base := w.heap.size) (ok := fun k_ => ((some k_ ≠ (.slice Ao39 t274.length co39 : Value).ownBlock ∧ some k_ ≠ (.slice Ao52 t260.length co52 : Value).ownBlock) ∧ some k_ ≠ (v264 : Value).ownBlock)) (n := t271.length) (c := co35) ?_).2.2; exact (by (with_reducible repeat (first | apply Kd.R_alloc | apply Kd.R_drewN | apply Kd.R_drew)); exact (Kd.R_mono (Kd.R_far (p := ⟨gb277, 1, none⟩) (Kd.R_far (p := ⟨gb277, 0, none⟩) (Kd.R_types HO273.out BK277.out (by decide)) (fun _ hk => hk.2) (.slice Ao35 t271.length co35)) (fun _ hk => hk.2) (.slice Ao39 t274.length co39)) (fun _ h_ => h_.1)))); (case side4 => exact (Kd.R_reads' HO273.out).2.1); rintro e w' ⟨rfl, ⟨nd, rfl⟩⟩))
                  go_meet
                  case rel => exact ⟨_, (true), (by first | rfl | (simp; done) | (simp [*]; done)), H', ⟨by have := HJ4.out; first | omega | exact Nat.le_refl _⟩, ⟨by (with_reducible repeat (first | apply Kd.R_alloc | apply Kd.R_drewN | apply Kd.R_drew)); exact Kd.R_mono (Kd.R_far (p := ⟨gb277, 1, none⟩) (Kd.R_far (p := ⟨gb277, 0, none⟩) (Kd.R_types HO273.out BK277.out (by decide)) (fun _ hk => hk.2) (.slice Ao35 t271.length co35)) (fun _ hk => hk.2) (.slice Ao39 t274.length co39)) (fun _ hk => hk.1.1.1)⟩, ⟨by (with_reducible repeat (first | apply Kd.R_alloc | apply Kd.R_drewN | apply Kd.R_drew)); exact Kd.R_mono (Kd.R_far (p := ⟨gb277, 1, none⟩) (Kd.R_far (p := ⟨gb277, 0, none⟩) (Kd.R_types HO276.out BK277.out (by decide)) (fun _ hk => hk.2) (.slice Ao35 t271.length co35)) (fun _ hk => hk.2) (.slice Ao39 t274.length co39)) (fun _ hk => hk.1.1.1)⟩, ⟨by (with_reducible repeat (first | refine blk_drewN ?_ _ | refine blk_drew ?_ | refine blk_alloc ?_ _)); refine blk_far ?_ NB257_277.out _; (with_reducible repeat (first | refine blk_drewN ?_ _ | refine blk_drew ?_ | refine blk_alloc ?_ _)); refine blk_far ?_ NB257_277.out _; (with_reducible repeat (first | refine blk_drewN ?_ _ | refine blk_drew ?_ | refine blk_alloc ?_ _)); exact BK257.out⟩, ⟨by (with_reducible repeat (first | refine blk_drewN ?_ _ | refine blk_drew ?_ | refine blk_alloc ?_ _)); refine blk_far ?_ NB258_277.out _; (with_reducible repeat (first | refine blk_drewN ?_ _ | refine blk_drew ?_ | refine blk_alloc ?_ _)); refine blk_far ?_ NB258_277.out _; (with_reducible repeat (first | refine blk_drewN ?_ _ | refine blk_drew ?_ | refine blk_alloc ?_ _)); exact BK258.out⟩, ⟨by (with_reducible repeat (first | refine blk_drewN ?_ _ | refine blk_drew ?_ | refine blk_alloc ?_ _)); refine blk_put (cs := #[.slice Ao35 t271.length co35, .slice none 0 0]) ?_ 1 _ rfl; (with_reducible repeat (first | refine blk_drewN ?_ _ | refine blk_drew ?_ | refine blk_alloc ?_ _)); refine blk_put (cs := #[.slice none 0 0, .slice none 0 0]) ?_ 0 _ rfl; (with_reducible repeat (first | refine blk_drewN ?_ _ | refine blk_drew ?_ | refine blk_alloc ?_ _)); exact BK277.out⟩, ⟨by repeat (first | (with_reducible first | exact HB.out | apply below_alloc | apply pw_below_drewN | apply below_drew1 | refine below_set ?_ GE257.out | refine below_set ?_ GE258.out | refine below_set ?_ GE277.out) | exact HB.out)⟩⟩
              · rw [if_neg c40] at H
                have c40b0 : (t266 == 0) = false := beq_eq_false_iff_ne.mpr c40
                have c40b1 : (t266 != 0) = true := bne_iff_ne.mpr c40
                (first | rw [c40b0] | (simp only [i64_w, i32_w]; rw [c40b0]) | skip)
                have H' := Aside0.mk H
                clear H
                go_wp2
                go_meet
                case rel => exact ⟨_, (true), (by first | rfl | (simp; done) | (simp [*]; done)), H', ⟨by have := HJ4.out; first | omega | exact Nat.le_refl _⟩, ⟨by (with_reducible repeat (first | apply Kd.R_alloc | apply Kd.R_drewN | apply Kd.R_drew)); exact Kd.R_mono (Kd.R_far (p := ⟨gb277, 1, none⟩) (Kd.R_far (p := ⟨gb277, 0, none⟩) (Kd.R_types HO273.out BK277.out (by decide)) (fun _ hk => hk.2) (.slice Ao35 t271.length co35)) (fun _ hk => hk.2) (.slice Ao39 t274.length co39)) (fun _ hk => hk.1.1.1)⟩, ⟨by (with_reducible repeat (first | apply Kd.R_alloc | apply Kd.R_drewN | apply Kd.R_drew)); exact Kd.R_mono (Kd.R_far (p := ⟨gb277, 1, none⟩) (Kd.R_far (p := ⟨gb277, 0, none⟩) (Kd.R_types HO276.out BK277.out (by decide)) (fun _ hk => hk.2) (.slice Ao35 t271.length co35)) (fun _ hk => hk.2) (.slice Ao39 t274.length co39)) (fun _ hk => hk.1.1.1)⟩, ⟨by (with_reducible repeat (first | refine blk_drewN ?_ _ | refine blk_drew ?_ | refine blk_alloc ?_ _)); refine blk_far ?_ NB257_277.out _; (with_reducible repeat (first | refine blk_drewN ?_ _ | refine blk_drew ?_ | refine blk_alloc ?_ _)); refine blk_far ?_ NB257_277.out _; (with_reducible repeat (first | refine blk_drewN ?_ _ | refine blk_drew ?_ | refine blk_alloc ?_ _)); exact BK257.out⟩, ⟨by (with_reducible repeat (first | refine blk_drewN ?_ _ | refine blk_drew ?_ | refine blk_alloc ?_ _)); refine blk_far ?_ NB258_277.out _; (with_reducible repeat (first | refine blk_drewN ?_ _ | refine blk_drew ?_ | refine blk_alloc ?_ _)); refine blk_far ?_ NB258_277.out _; (with_reducible repeat (first | refine blk_drewN ?_ _ | refine blk_drew ?_ | refine blk_alloc ?_ _)); exact BK258.out⟩, ⟨by (with_reducible repeat (first | refine blk_drewN ?_ _ | refine blk_drew ?_ | refine blk_alloc ?_ _)); refine blk_put (cs := #[.slice Ao35 t271.length co35, .slice none 0 0]) ?_ 1 _ rfl; (with_reducible repeat (first | refine blk_drewN ?_ _ | refine blk_drew ?_ | refine blk_alloc ?_ _)); refine blk_put (cs := #[.slice none 0 0, .slice none 0 0]) ?_ 0 _ rfl; (with_reducible repeat (first | refine blk_drewN ?_ _ | refine blk_drew ?_ | refine blk_alloc ?_ _)); exact BK277.out⟩, ⟨by repeat (first | (with_reducible first | exact HB.out | apply below_alloc | apply pw_below_drewN | apply below_drew1 | refine below_set ?_ GE257.out | refine below_set ?_ GE258.out | refine below_set ?_ GE277.out) | exact HB.out)⟩⟩
            case rest =>
              clear HC22
              try clear c1
              try clear c2
              try clear p2
              try clear c3
              try clear c4
              try clear c5
              try clear c6
              try clear c7
              try clear c9
              try clear c9b0
              try clear c9b1
              try clear c10
              try clear c12
              try clear c15
              try clear c16
              try clear c20
              try clear c20b0
              try clear c20b1
              try clear c23
              try clear c31
              try clear c36
              try clear c37
              try clear c40
              try clear c40b0
              try clear c40b1
              try clear c42
              try clear c44
              try clear c45
              try clear c49
              try clear c50
              try clear hcz11_0
              try clear hcz11_1
              try clear hcz13_0
              try clear hcz13_1
              try clear hcz14_0
              try clear hcz14_1
              try clear hcz24_0
              try clear hcz24_1
              try clear hcz26_0
              try clear hcz26_1
              try clear hcz27_0
              try clear hcz27_1
              try clear hcz32_0
              try clear hcz32_1
              try clear hcz38_0
              try clear hcz38_1
              try clear hcz46_0
              try clear hcz46_1
              try clear hcz51_0
              try clear hcz51_1
              try clear hfz11_0
              try clear hfz11_1
              try clear hfz13_0
              try clear hfz13_1
              try clear hfz14_0
              try clear hfz14_1
              try clear hfz24_0
              try clear hfz24_1
              try clear hfz26_0
              try clear hfz26_1
              try clear hfz27_0
              try clear hfz27_1
              try clear hfz32_0
              try clear hfz32_1
              try clear hfz38_0
              try clear hfz38_1
              try clear hfz46_0
              try clear hfz46_1
              try clear hfz51_0
              try clear hfz51_1
              try clear p2
              obtain ⟨kq, x94_21, rfl, HA, HJ21, HO_278000, HO_278001, BK257, BK258, BK277, HB⟩ := hcut
              cases kq with
              | zero => exact absurd HA.out (by simp [pantilelaw33_CoverWithin.j1])
              | succ kj21 =>
                have H := HA.out
                clear HA
                simp only [pantilelaw33_CoverWithin.j1] at H
                by_cases c53 : x94_21 = true
                · subst c53
                  have H1 : (some false) = some r := by rw [if_pos rfl] at H; exact H
                  clear H
                  have H := H1
                  clear H1
                  exact Bool.noConfusion ((Option.some.inj H).trans HRT.out)
                · replace c53 := Bool.eq_false_iff.mpr c53
                  subst c53
                  have H1 : (if t270 = 0 then (if (l0_0.length : Int) = (l1_0.length : Int) then ((pantileref03_Cell.f kj21 l1_0 a1_1).bind fun bt280 => (if t268 = 0 then ((pantileref03_In.f kj21 bt280.1 bt280.2 t271).bind fun t287 => (if t287 = true then ((pantileref03_In.f kj21 bt280.1 bt280.2 t274).bind fun t288 => (some (t267 == t288))) else (some (t267 == false)))) else (some false))) else (if t267 = true then (some false) else (some (t268 == 2)))) else (if t267 = true then (some false) else (some (t268 == t270)))) = some r := by rw [if_neg (show ¬ (false = true) by decide)] at H; exact H
                  clear H
                  have H := H1
                  clear H1
                  by_cases c54 : t270 = 0
                  · rw [if_pos c54] at H
                    have c54b0 : (t270 == 0) = true := beq_iff_eq.mpr c54
                    have c54b1 : (t270 != 0) = false := bne_eq_false_iff_eq.mpr c54
                    clear c54
                    by_cases c55 : (l0_0.length : Int) = (l1_0.length : Int)
                    · rw [if_pos c55] at H
                      have c55b0 : ((l0_0.length : Int) == (l1_0.length : Int)) = true := beq_iff_eq.mpr c55
                      have c55b1 : ((l0_0.length : Int) != (l1_0.length : Int)) = false := bne_eq_false_iff_eq.mpr c55
                      have c55b2 : (l0_0.length == l1_0.length) = true := by first | simpa using c55 | (simp at c55 ⊢; omega)
                      clear c55
                      replace H := Option.bind_eq_some_iff.mp H
                      obtain ⟨⟨t280, t283⟩, A560, H⟩ := H
                      replace H : (if t268 = 0 then ((pantileref03_In.f kj21 t280 t283 t271).bind fun t287 => (if t287 = true then ((pantileref03_In.f kj21 t280 t283 t274).bind fun t288 => (some (t267 == t288))) else (some (t267 == false)))) else (some false)) = some r := H
                      have A56 := Aside0.mk A560
                      clear A560
                      by_cases c57 : t268 = 0
                      · rw [if_pos c57] at H
                        have c57b0 : (t268 == 0) = true := beq_iff_eq.mpr c57
                        have c57b1 : (t268 != 0) = false := bne_eq_false_iff_eq.mpr c57
                        clear c57
                        replace H := Option.bind_eq_some_iff.mp H
                        obtain ⟨t287, A580, H⟩ := H
                        replace H : (if t287 = true then ((pantileref03_In.f kj21 t280 t283 t274).bind fun t288 => (some (t267 == t288))) else (some (t267 == false))) = some r := H
                        have A58 := Aside0.mk A580
                        clear A580
                        by_cases c59 : t287 = true
                        · subst c59
                          have H1 : ((pantileref03_In.f kj21 t280 t283 t274).bind fun t288 => (some (t267 == t288))) = some r := by rw [if_pos rfl] at H; exact H
                          clear H
                          have H := H1
                          clear H1
                          replace H := Option.bind_eq_some_iff.mp H
                          obtain ⟨t288, A600, H⟩ := H
                          replace H : (some (t267 == t288)) = some r := H
                          have A60 := Aside0.mk A600
                          clear A600
                          obtain rfl := Option.some.inj H
                          have hnb61 := NB257_258.out
                          have hnc61 := NB258_257.out
                          have hnb62 := NB257_277.out
                          have hnc62 := NB277_257.out
                          have hcz63_0 : wc.cell? ⟨gb257, 0, none⟩ = some (.slice A0_0 l0_0.length c0_0) := (blk_cell BK257.out 0).trans rfl
                          have hcz63_1 : wc.cell? ⟨gb257, 1, none⟩ = some (.int .i64 a0_1) := (blk_cell BK257.out 1).trans rfl
                          have hfz63_0 := blk_frozen BK257.out 0
                          have hfz63_1 := blk_frozen BK257.out 1
                          have hnb64 := NB258_277.out
                          have hnc64 := NB277_258.out
                          have hcz65_0 : wc.cell? ⟨gb258, 0, none⟩ = some (.slice A1_0 l1_0.length c1_0) := (blk_cell BK258.out 0).trans rfl
                          have hcz65_1 : wc.cell? ⟨gb258, 1, none⟩ = some (.int .i64 a1_1) := (blk_cell BK258.out 1).trans rfl
                          have hfz65_0 := blk_frozen BK258.out 0
                          have hfz65_1 := blk_frozen BK258.out 1
                          go_wp2_with (first | ((with_reducible refine gate_callee (f := 31) rfl ?_); refine goesL_ (some 121) rfl rfl Try.func31 (by kernel_rfl) rfl #[.slice A1_0 l1_0.length c1_0, .int .i64 a1_1] rfl (by (try simp only [List.map_toArray, List.map_cons, List.map_nil]); first | done | rfl | (simp only [List.length_drop, List.length_take]; rfl)) ?_; (with_reducible refine (pantileref03_Cell.calls kj21 _ _ l1_0 a1_1 t280 t283 _ ?side1 ?side2 A56.out).mono ?_); (case side1 => repeat (first | exact (Kd.C_below HR1_0.out HB.out) | (with_reducible refine Kd.C_alloc ?_ _) | (with_reducible refine Kd.C_drewN ?_ _) | (with_reducible refine Kd.C_drew ?_))); (case side2 => exact HC1_0.out); rintro e w66 ⟨v281, v284, rfl, ho0, ho1, hb⟩; refine ⟨_, rfl, ?_⟩; have n0_ := Aside0.mk (Kd.R_mono (Kd.R_told (Kd.R_told (Kd.R_old (by (with_reducible repeat (first | apply Kd.R_alloc | apply Kd.R_drewN | apply Kd.R_drew)); exact HO_278000.out) hb) (Kd.R_base ho0)) (Kd.R_base ho1)) (fun _ h_ => h_.1)); have n1_ := Aside0.mk (Kd.R_mono (Kd.R_told (Kd.R_told (Kd.R_old (by (with_reducible repeat (first | apply Kd.R_alloc | apply Kd.R_drewN | apply Kd.R_drew)); exact HO_278001.out) hb) (Kd.R_base ho0)) (Kd.R_base ho1)) (fun _ h_ => h_.1)); have n2_ := Aside0.mk (Kd.R_lower (Kd.R_new' (Kd.R_new' ho0 (Kd.R_lt (by (with_reducible repeat (first | apply Kd.R_alloc | apply Kd.R_drewN | apply Kd.R_drew)); exact HO_278000.out))) (Kd.R_lt (by (with_reducible repeat (first | apply Kd.R_alloc | apply Kd.R_drewN | apply Kd.R_drew)); exact HO_278001.out))) (below_size (by repeat (first | (with_reducible first | exact HB.out | apply below_alloc | apply pw_below_drewN | apply below_drew1 | refine below_set ?_ GE257.out | refine below_set ?_ GE258.out | refine below_set ?_ GE277.out) | exact HB.out)))); have n3_ := Aside0.mk (Kd.R_lower (Kd.R_new' (Kd.R_new' ho1 (Kd.R_lt (by (with_reducible repeat (first | apply Kd.R_alloc | apply Kd.R_drewN | apply Kd.R_drew)); exact HO_278000.out))) (Kd.R_lt (by (with_reducible repeat (first | apply Kd.R_alloc | apply Kd.R_drewN | apply Kd.R_drew)); exact HO_278001.out))) (below_size (by repeat (first | (with_reducible first | exact HB.out | apply below_alloc | apply pw_below_drewN | apply below_drew1 | refine below_set ?_ GE257.out | refine below_set ?_ GE258.out | refine below_set ?_ GE277.out) | exact HB.out)))); have n4_ := Aside0.mk (blk_below (g := gb257) (o := .cells #[.slice A0_0 l0_0.length c0_0, .int .i64 a0_1] 89 (0, 0)) (by (with_reducible repeat (first | refine blk_drewN ?_ _ | refine blk_drew ?_ | refine blk_alloc ?_ _)); exact BK257.out) hb); have n5_ := Aside0.mk (blk_below (g := gb258) (o := .cells #[.slice A1_0 l1_0.length c1_0, .int .i64 a1_1] 89 (0, 0)) (by (with_reducible repeat (first | refine blk_drewN ?_ _ | refine blk_drew ?_ | refine blk_alloc ?_ _)); exact BK258.out) hb); have n6_ := Aside0.mk (blk_below (g := gb277) (o := .cells #[.slice Ao35 t271.length co35, .slice Ao39 t274.length co39] 32 (0, 0)) (by (with_reducible repeat (first | refine blk_drewN ?_ _ | refine blk_drew ?_ | refine blk_alloc ?_ _)); exact BK277.out) hb); have n7_ := Aside0.mk (below_step (by repeat (first | (with_reducible first | exact HB.out | apply below_alloc | apply pw_below_drewN | apply below_drew1 | refine below_set ?_ GE257.out | refine below_set ?_ GE258.out | refine below_set ?_ GE277.out) | exact HB.out)) hb); clear HO_278000; clear HO_278001; clear BK257; clear BK258; clear BK277; clear HB; have HO_278000 := n0_; have HO_278001 := n1_; have HO282 := n2_; have HO285 := n3_; have BK257 := n4_; have BK258 := n5_; have BK277 := n6_; have HB := n7_; clear n0_ n1_ n2_ n3_ n4_ n5_ n6_ n7_; (try clear hb); (try clear hb2); (try clear hk); (try clear hi); (try clear ho0); (try clear ho1)) | ((with_reducible refine gate_dst (N := 13) rfl ?_); (try (refine gate_guard (by rfl) ?_; dsimp only)); refine box_event ?hg (N := 13) ?hd (cs := #[.slice none 0 0, .slice none 0 0]) (t := 32) ?hr ?_; (case hd => rfl); (case hg => rfl); (case hr => first | (go_simp; done) | (go_simp; rfl)); intro gb286 hg w67 hbox hb; have n0_ := Aside0.mk (Kd.R_below (by (with_reducible repeat (first | apply Kd.R_alloc | apply Kd.R_drewN | apply Kd.R_drew)); exact HO_278000.out) hb); have n1_ := Aside0.mk (Kd.R_below (by (with_reducible repeat (first | apply Kd.R_alloc | apply Kd.R_drewN | apply Kd.R_drew)); exact HO_278001.out) hb); have n2_ := Aside0.mk (Kd.R_below (by (with_reducible repeat (first | apply Kd.R_alloc | apply Kd.R_drewN | apply Kd.R_drew)); exact HO282.out) hb); have n3_ := Aside0.mk (Kd.R_below (by (with_reducible repeat (first | apply Kd.R_alloc | apply Kd.R_drewN | apply Kd.R_drew)); exact HO285.out) hb); have n4_ := Aside0.mk (blk_below (g := gb257) (o := .cells #[.slice A0_0 l0_0.length c0_0, .int .i64 a0_1] 89 (0, 0)) (by (with_reducible repeat (first | refine blk_drewN ?_ _ | refine blk_drew ?_ | refine blk_alloc ?_ _)); exact BK257.out) hb); have n5_ := Aside0.mk (blk_below (g := gb258) (o := .cells #[.slice A1_0 l1_0.length c1_0, .int .i64 a1_1] 89 (0, 0)) (by (with_reducible repeat (first | refine blk_drewN ?_ _ | refine blk_drew ?_ | refine blk_alloc ?_ _)); exact BK258.out) hb); have n6_ := Aside0.mk (blk_below (g := gb277) (o := .cells #[.slice Ao35 t271.length co35, .slice Ao39 t274.length co39] 32 (0, 0)) (by (with_reducible repeat (first | refine blk_drewN ?_ _ | refine blk_drew ?_ | refine blk_alloc ?_ _)); exact BK277.out) hb); have n7_ := Aside0.mk (below_step (by repeat (first | (with_reducible first | exact HB.out | apply below_alloc | apply pw_below_drewN | apply below_drew1 | refine below_set ?_ GE257.out | refine below_set ?_ GE258.out | refine below_set ?_ GE277.out) | exact HB.out)) hb); have n8_ := Aside0.mk (hbox); have n9_ := Aside0.mk ((by rw [hg]; exact (below_size (by repeat (first | (with_reducible first | exact HB.out | apply below_alloc | apply pw_below_drewN | apply below_drew1 | refine below_set ?_ GE257.out | refine below_set ?_ GE258.out | refine below_set ?_ GE277.out) | exact HB.out))) : w.heap.size ≤ gb286)); have n10_ := Aside0.mk ((by rw [hg]; exact (below_size (by repeat (first | (with_reducible first | exact HB.out | apply below_alloc | apply pw_below_drewN | apply below_drew1 | refine below_set ?_ GE257.out | refine below_set ?_ GE258.out | refine below_set ?_ GE277.out) | exact HB.out))) : w.heap.size ≤ gb286)); have n11_ := Aside0.mk ((by rw [hg]; exact Nat.ne_of_lt (blk_lt (g := gb257) (o := .cells #[.slice A0_0 l0_0.length c0_0, .int .i64 a0_1] 89 (0, 0)) (by (with_reducible repeat (first | refine blk_drewN ?_ _ | refine blk_drew ?_ | refine blk_alloc ?_ _)); exact BK257.out)) : gb257 ≠ gb286)); have n12_ := Aside0.mk ((by rw [hg]; exact Nat.ne_of_gt (blk_lt (g := gb257) (o := .cells #[.slice A0_0 l0_0.length c0_0, .int .i64 a0_1] 89 (0, 0)) (by (with_reducible repeat (first | refine blk_drewN ?_ _ | refine blk_drew ?_ | refine blk_alloc ?_ _)); exact BK257.out)) : gb286 ≠ gb257)); have n13_ := Aside0.mk ((by rw [hg]; exact Nat.ne_of_lt (blk_lt (g := gb258) (o := .cells #[.slice A1_0 l1_0.length c1_0, .int .i64 a1_1] 89 (0, 0)) (by (with_reducible repeat (first | refine blk_drewN ?_ _ | refine blk_drew ?_ | refine blk_alloc ?_ _)); exact BK258.out)) : gb258 ≠ gb286)); have n14_ := Aside0.mk ((by rw [hg]; exact Nat.ne_of_gt (blk_lt (g := gb258) (o := .cells #[.slice A1_0 l1_0.length c1_0, .int .i64 a1_1] 89 (0, 0)) (by (with_reducible repeat (first | refine blk_drewN ?_ _ | refine blk_drew ?_ | refine blk_alloc ?_ _)); exact BK258.out)) : gb286 ≠ gb258)); have n15_ := Aside0.mk ((by rw [hg]; exact Nat.ne_of_lt (blk_lt (g := gb277) (o := .cells #[.slice Ao35 t271.length co35, .slice Ao39 t274.length co39] 32 (0, 0)) (by (with_reducible repeat (first | refine blk_drewN ?_ _ | refine blk_drew ?_ | refine blk_alloc ?_ _)); exact BK277.out)) : gb277 ≠ gb286)); have n16_ := Aside0.mk ((by rw [hg]; exact Nat.ne_of_gt (blk_lt (g := gb277) (o := .cells #[.slice Ao35 t271.length co35, .slice Ao39 t274.length co39] 32 (0, 0)) (by (with_reducible repeat (first | refine blk_drewN ?_ _ | refine blk_drew ?_ | refine blk_alloc ?_ _)); exact BK277.out)) : gb286 ≠ gb277)); clear HO_278000; clear HO_278001; clear HO282; clear HO285; clear BK257; clear BK258; clear BK277; clear HB; have HO_278000 := n0_; have HO_278001 := n1_; have HO282 := n2_; have HO285 := n3_; have BK257 := n4_; have BK258 := n5_; have BK277 := n6_; have HB := n7_; have BK286 := n8_; have GW286 := n9_; have GE286 := n10_; have NB257_286 := n11_; have NB286_257 := n12_; have NB258_286 := n13_; have NB286_258 := n14_; have NB277_286 := n15_; have NB286_277 := n16_; clear n0_ n1_ n2_ n3_ n4_ n5_ n6_ n7_ n8_ n9_ n10_ n11_ n12_ n13_ n14_ n15_ n16_; clear hb hbox hg; obtain ⟨Ao68, co68, eo68⟩ := Kd.R_slice HO282.out; subst eo68; have hnb69 := NB286_257.out; have hnc69 := NB257_286.out; have hnb70 := NB286_258.out; have hnc70 := NB258_286.out; have hnb71 := NB286_277.out; have hnc71 := NB277_286.out; have hcz72_0 : w67.cell? ⟨gb286, 0, none⟩ = some (.slice none 0 0) := (blk_cell BK286.out 0).trans rfl; have hcz72_1 : w67.cell? ⟨gb286, 1, none⟩ = some (.slice none 0 0) := (blk_cell BK286.out 1).trans rfl; have hfz72_0 := blk_frozen BK286.out 0; have hfz72_1 := blk_frozen BK286.out 1; obtain ⟨Ao73, co73, eo73⟩ := Kd.R_slice HO285.out; subst eo73; have hcz74_0 : w67.cell? ⟨gb277, 0, none⟩ = some (.slice Ao35 t271.length co35) := (blk_cell BK277.out 0).trans rfl; have hcz74_1 : w67.cell? ⟨gb277, 1, none⟩ = some (.slice Ao39 t274.length co39) := (blk_cell BK277.out 1).trans rfl; have hfz74_0 := blk_frozen BK277.out 0; have hfz74_1 := blk_frozen BK277.out 1) | (go_at_call 54; (with_reducible refine (pantileref03_In.calls kj21 _ _ t280 _ _ t283 _ _ t271 true _ ?side1 ?side2 ?side3 ?side4 ?side5 ?side6 A58.out).mono ?_); (case side1 => refine (Kd.R_reads' (e := 30) (base := w.heap.size) (ok := fun k_ => ((some k_ ≠ (.slice Ao73 t283.length co73 : Value).ownBlock ∧ some k_ ≠ (.slice Ao35 t271.length co35 : Value).ownBlock) ∧ some k_ ≠ (.slice Ao39 t274.length co39 : Value).ownBlock)) (n := t280.length) (c := co68) ?_).2.2; exact (by (with_reducible repeat (first | apply Kd.R_alloc | apply Kd.R_drewN | apply Kd.R_drew)); exact (Kd.R_mono (Kd.R_far (p := ⟨gb286, 1, none⟩) (Kd.R_far (p := ⟨gb286, 0, none⟩) (Kd.R_types HO282.out BK286.out (by decide)) (fun _ hk => hk.2) (.slice Ao68 t280.length co68)) (fun _ hk => hk.2) (.slice Ao73 t283.length co73)) (fun _ h_ => h_.1)))); (case side2 => exact (Kd.R_reads' HO282.out).2.1); (case side3 => refine (Kd.R_reads' (e := 30) (base := w.heap.size) (ok := fun k_ => ((some k_ ≠ (.slice Ao68 t280.length co68 : Value).ownBlock ∧ some k_ ≠ (.slice Ao35 t271.length co35 : Value).ownBlock) ∧ some k_ ≠ (.slice Ao39 t274.length co39 : Value).ownBlock)) (n := t283.length) (c := co73) ?_).2.2; exact (by (with_reducible repeat (first | apply Kd.R_alloc | apply Kd.R_drewN | apply Kd.R_drew)); exact (Kd.R_mono (Kd.R_far (p := ⟨gb286, 1, none⟩) (Kd.R_far (p := ⟨gb286, 0, none⟩) (Kd.R_types HO285.out BK286.out (by decide)) (fun _ hk => hk.2) (.slice Ao68 t280.length co68)) (fun _ hk => hk.2) (.slice Ao73 t283.length co73)) (fun _ h_ => h_.1)))); (case side4 => exact (Kd.R_reads' HO285.out).2.1); (case side5 => refine (Kd.R_reads' (e := 30) (base := w.heap.size) (ok := fun k_ => ((some k_ ≠ (.slice Ao39 t274.length co39 : Value).ownBlock ∧ some k_ ≠ (.slice Ao68 t280.length co68 : Value).ownBlock) ∧ some k_ ≠ (.slice Ao73 t283.length co73 : Value).ownBlock)) (n := t271.length) (c := co35) ?_).2.2; exact (by (with_reducible repeat (first | apply Kd.R_alloc | apply Kd.R_drewN | apply Kd.R_drew)); exact (Kd.R_mono (Kd.R_far (p := ⟨gb286, 1, none⟩) (Kd.R_far (p := ⟨gb286, 0, none⟩) (Kd.R_types HO_278000.out BK286.out (by decide)) (fun _ hk => hk.2) (.slice Ao68 t280.length co68)) (fun _ hk => hk.2) (.slice Ao73 t283.length co73)) (fun _ h_ => h_.1)))); (case side6 => exact (Kd.R_reads' HO_278000.out).2.1); rintro e w75 ⟨rfl, hb⟩; have n0_ := Aside0.mk (Kd.R_below (by (with_reducible repeat (first | apply Kd.R_alloc | apply Kd.R_drewN | apply Kd.R_drew)); exact (Kd.R_mono (Kd.R_far (p := ⟨gb286, 1, none⟩) (Kd.R_far (p := ⟨gb286, 0, none⟩) (Kd.R_types HO_278000.out BK286.out (by decide)) (fun _ hk => hk.2) (.slice Ao68 t280.length co68)) (fun _ hk => hk.2) (.slice Ao73 t283.length co73)) (fun _ h_ => h_.1))) hb); have n1_ := Aside0.mk (Kd.R_below (by (with_reducible repeat (first | apply Kd.R_alloc | apply Kd.R_drewN | apply Kd.R_drew)); exact (Kd.R_mono (Kd.R_far (p := ⟨gb286, 1, none⟩) (Kd.R_far (p := ⟨gb286, 0, none⟩) (Kd.R_types HO_278001.out BK286.out (by decide)) (fun _ hk => hk.2) (.slice Ao68 t280.length co68)) (fun _ hk => hk.2) (.slice Ao73 t283.length co73)) (fun _ h_ => h_.1))) hb); have n2_ := Aside0.mk (Kd.R_below (by (with_reducible repeat (first | apply Kd.R_alloc | apply Kd.R_drewN | apply Kd.R_drew)); exact (Kd.R_mono (Kd.R_far (p := ⟨gb286, 1, none⟩) (Kd.R_far (p := ⟨gb286, 0, none⟩) (Kd.R_types HO282.out BK286.out (by decide)) (fun _ hk => hk.2) (.slice Ao68 t280.length co68)) (fun _ hk => hk.2) (.slice Ao73 t283.length co73)) (fun _ h_ => h_.1))) hb); have n3_ := Aside0.mk (Kd.R_below (by (with_reducible repeat (first | apply Kd.R_alloc | apply Kd.R_drewN | apply Kd.R_drew)); exact (Kd.R_mono (Kd.R_far (p := ⟨gb286, 1, none⟩) (Kd.R_far (p := ⟨gb286, 0, none⟩) (Kd.R_types HO285.out BK286.out (by decide)) (fun _ hk => hk.2) (.slice Ao68 t280.length co68)) (fun _ hk => hk.2) (.slice Ao73 t283.length co73)) (fun _ h_ => h_.1))) hb); have n4_ := Aside0.mk (blk_below (g := gb257) (o := .cells #[.slice A0_0 l0_0.length c0_0, .int .i64 a0_1] 89 (0, 0)) (by (with_reducible repeat (first | refine blk_drewN ?_ _ | refine blk_drew ?_ | refine blk_alloc ?_ _)); refine blk_far ?_ NB257_286.out _; (with_reducible repeat (first | refine blk_drewN ?_ _ | refine blk_drew ?_ | refine blk_alloc ?_ _)); refine blk_far ?_ NB257_286.out _; (with_reducible repeat (first | refine blk_drewN ?_ _ | refine blk_drew ?_ | refine blk_alloc ?_ _)); exact BK257.out) hb); have n5_ := Aside0.mk (blk_below (g := gb258) (o := .cells #[.slice A1_0 l1_0.length c1_0, .int .i64 a1_1] 89 (0, 0)) (by (with_reducible repeat (first | refine blk_drewN ?_ _ | refine blk_drew ?_ | refine blk_alloc ?_ _)); refine blk_far ?_ NB258_286.out _; (with_reducible repeat (first | refine blk_drewN ?_ _ | refine blk_drew ?_ | refine blk_alloc ?_ _)); refine blk_far ?_ NB258_286.out _; (with_reducible repeat (first | refine blk_drewN ?_ _ | refine blk_drew ?_ | refine blk_alloc ?_ _)); exact BK258.out) hb); have n6_ := Aside0.mk (blk_below (g := gb277) (o := .cells #[.slice Ao35 t271.length co35, .slice Ao39 t274.length co39] 32 (0, 0)) (by (with_reducible repeat (first | refine blk_drewN ?_ _ | refine blk_drew ?_ | refine blk_alloc ?_ _)); refine blk_far ?_ NB277_286.out _; (with_reducible repeat (first | refine blk_drewN ?_ _ | refine blk_drew ?_ | refine blk_alloc ?_ _)); refine blk_far ?_ NB277_286.out _; (with_reducible repeat (first | refine blk_drewN ?_ _ | refine blk_drew ?_ | refine blk_alloc ?_ _)); exact BK277.out) hb); have n7_ := Aside0.mk (blk_below (g := gb286) (o := .cells #[.slice Ao68 t280.length co68, .slice Ao73 t283.length co73] 32 (0, 0)) (by (with_reducible repeat (first | refine blk_drewN ?_ _ | refine blk_drew ?_ | refine blk_alloc ?_ _)); refine blk_put (cs := #[.slice Ao68 t280.length co68, .slice none 0 0]) ?_ 1 _ rfl; (with_reducible repeat (first | refine blk_drewN ?_ _ | refine blk_drew ?_ | refine blk_alloc ?_ _)); refine blk_put (cs := #[.slice none 0 0, .slice none 0 0]) ?_ 0 _ rfl; (with_reducible repeat (first | refine blk_drewN ?_ _ | refine blk_drew ?_ | refine blk_alloc ?_ _)); exact BK286.out) hb); have n8_ := Aside0.mk (below_step (by repeat (first | (with_reducible first | exact HB.out | apply below_alloc | apply pw_below_drewN | apply below_drew1 | refine below_set ?_ GE257.out | refine below_set ?_ GE258.out | refine below_set ?_ GE277.out | refine below_set ?_ GE286.out) | exact HB.out)) hb); clear HO_278000; clear HO_278001; clear HO282; clear HO285; clear BK257; clear BK258; clear BK277; clear BK286; clear HB; have HO_278000 := n0_; have HO_278001 := n1_; have HO282 := n2_; have HO285 := n3_; have BK257 := n4_; have BK258 := n5_; have BK277 := n6_; have BK286 := n7_; have HB := n8_; clear n0_ n1_ n2_ n3_ n4_ n5_ n6_ n7_ n8_; (try clear hb); (try clear hb2); (try clear hk); (try clear hi); have hcz76_0 : w75.cell? ⟨gb286, 0, none⟩ = some (.slice Ao68 t280.length co68) := (blk_cell BK286.out 0).trans rfl; have hcz76_1 : w75.cell? ⟨gb286, 1, none⟩ = some (.slice Ao73 t283.length co73) := (blk_cell BK286.out 1).trans rfl; have hfz76_0 := blk_frozen BK286.out 0; have hfz76_1 := blk_frozen BK286.out 1; have hcz77_0 : w75.cell? ⟨gb277, 0, none⟩ = some (.slice Ao35 t271.length co35) := (blk_cell BK277.out 0).trans rfl; have hcz77_1 : w75.cell? ⟨gb277, 1, none⟩ = some (.slice Ao39 t274.length co39) := (blk_cell BK277.out 1).trans rfl; have hfz77_0 := blk_frozen BK277.out 0; have hfz77_1 := blk_frozen BK277.out 1) | (go_at_call 54; (with_reducible refine (pantileref03_In.calls kj21 _ _ t280 _ _ t283 _ _ t274 t288 _ ?side1 ?side2 ?side3 ?side4 ?side5 ?side6 A60.out).mono ?_); (case side1 => repeat (first | exact (Kd.R_reads' HO282.out).2.2 | (with_reducible refine Kd.C_alloc ?_ _) | (with_reducible refine Kd.C_drewN ?_ _) | (with_reducible refine Kd.C_drew ?_))); (case side2 => exact (Kd.R_reads' HO282.out).2.1); (case side3 => repeat (first | exact (Kd.R_reads' HO285.out).2.2 | (with_reducible refine Kd.C_alloc ?_ _) | (with_reducible refine Kd.C_drewN ?_ _) | (with_reducible refine Kd.C_drew ?_))); (case side4 => exact (Kd.R_reads' HO285.out).2.1); (case side5 => repeat (first | exact (Kd.R_reads' HO_278001.out).2.2 | (with_reducible refine Kd.C_alloc ?_ _) | (with_reducible refine Kd.C_drewN ?_ _) | (with_reducible refine Kd.C_drew ?_))); (case side6 => exact (Kd.R_reads' HO_278001.out).2.1); rintro e w78 ⟨rfl, hb⟩; have n0_ := Aside0.mk (Kd.R_below (by (with_reducible repeat (first | apply Kd.R_alloc | apply Kd.R_drewN | apply Kd.R_drew)); exact HO_278000.out) hb); have n1_ := Aside0.mk (Kd.R_below (by (with_reducible repeat (first | apply Kd.R_alloc | apply Kd.R_drewN | apply Kd.R_drew)); exact HO_278001.out) hb); have n2_ := Aside0.mk (Kd.R_below (by (with_reducible repeat (first | apply Kd.R_alloc | apply Kd.R_drewN | apply Kd.R_drew)); exact HO282.out) hb); have n3_ := Aside0.mk (Kd.R_below (by (with_reducible repeat (first | apply Kd.R_alloc | apply Kd.R_drewN | apply Kd.R_drew)); exact HO285.out) hb); have n4_ := Aside0.mk (blk_below (g := gb257) (o := .cells #[.slice A0_0 l0_0.length c0_0, .int .i64 a0_1] 89 (0, 0)) (by (with_reducible repeat (first | refine blk_drewN ?_ _ | refine blk_drew ?_ | refine blk_alloc ?_ _)); exact BK257.out) hb); have n5_ := Aside0.mk (blk_below (g := gb258) (o := .cells #[.slice A1_0 l1_0.length c1_0, .int .i64 a1_1] 89 (0, 0)) (by (with_reducible repeat (first | refine blk_drewN ?_ _ | refine blk_drew ?_ | refine blk_alloc ?_ _)); exact BK258.out) hb); have n6_ := Aside0.mk (blk_below (g := gb277) (o := .cells #[.slice Ao35 t271.length co35, .slice Ao39 t274.length co39] 32 (0, 0)) (by (with_reducible repeat (first | refine blk_drewN ?_ _ | refine blk_drew ?_ | refine blk_alloc ?_ _)); exact BK277.out) hb); have n7_ := Aside0.mk (blk_below (g := gb286) (o := .cells #[.slice Ao68 t280.length co68, .slice Ao73 t283.length co73] 32 (0, 0)) (by (with_reducible repeat (first | refine blk_drewN ?_ _ | refine blk_drew ?_ | refine blk_alloc ?_ _)); exact BK286.out) hb); have n8_ := Aside0.mk (below_step (by repeat (first | (with_reducible first | exact HB.out | apply below_alloc | apply pw_below_drewN | apply below_drew1 | refine below_set ?_ GE257.out | refine below_set ?_ GE258.out | refine below_set ?_ GE277.out | refine below_set ?_ GE286.out) | exact HB.out)) hb); clear HO_278000; clear HO_278001; clear HO282; clear HO285; clear BK257; clear BK258; clear BK277; clear BK286; clear HB; have HO_278000 := n0_; have HO_278001 := n1_; have HO282 := n2_; have HO285 := n3_; have BK257 := n4_; have BK258 := n5_; have BK277 := n6_; have BK286 := n7_; have HB := n8_; clear n0_ n1_ n2_ n3_ n4_ n5_ n6_ n7_ n8_; (try clear hb); (try clear hb2); (try clear hk); (try clear hi)))
                          go_ret
                          exact ⟨by first | rfl | (simp [errW_none, errW_some] <;> rfl) | (simp [*, errW_none, errW_some] <;> rfl), by repeat (first | (with_reducible first | exact HB.out | apply below_alloc | apply pw_below_drewN | apply below_drew1 | refine below_set ?_ GE257.out | refine below_set ?_ GE258.out | refine below_set ?_ GE277.out | refine below_set ?_ GE286.out) | exact HB.out)⟩
                        · replace c59 := Bool.eq_false_iff.mpr c59
                          subst c59
                          have H1 : (some (t267 == false)) = some r := by rw [if_neg (show ¬ (false = true) by decide)] at H; exact H
                          clear H
                          have H := H1
                          clear H1
                          obtain rfl := Option.some.inj H
                          have hnb79 := NB257_258.out
                          have hnc79 := NB258_257.out
                          have hnb80 := NB257_277.out
                          have hnc80 := NB277_257.out
                          have hcz81_0 : wc.cell? ⟨gb257, 0, none⟩ = some (.slice A0_0 l0_0.length c0_0) := (blk_cell BK257.out 0).trans rfl
                          have hcz81_1 : wc.cell? ⟨gb257, 1, none⟩ = some (.int .i64 a0_1) := (blk_cell BK257.out 1).trans rfl
                          have hfz81_0 := blk_frozen BK257.out 0
                          have hfz81_1 := blk_frozen BK257.out 1
                          have hnb82 := NB258_277.out
                          have hnc82 := NB277_258.out
                          have hcz83_0 : wc.cell? ⟨gb258, 0, none⟩ = some (.slice A1_0 l1_0.length c1_0) := (blk_cell BK258.out 0).trans rfl
                          have hcz83_1 : wc.cell? ⟨gb258, 1, none⟩ = some (.int .i64 a1_1) := (blk_cell BK258.out 1).trans rfl
                          have hfz83_0 := blk_frozen BK258.out 0
                          have hfz83_1 := blk_frozen BK258.out 1
                          go_wp2_with (first | ((with_reducible refine gate_callee (f := 31) rfl ?_); refine goesL_ (some 121) rfl rfl Try.func31 (by kernel_rfl) rfl #[.slice A1_0 l1_0.length c1_0, .int .i64 a1_1] rfl (by (try simp only [List.map_toArray, List.map_cons, List.map_nil]); first | done | rfl | (simp only [List.length_drop, List.length_take]; rfl)) ?_; (with_reducible refine (pantileref03_Cell.calls kj21 _ _ l1_0 a1_1 t280 t283 _ ?side1 ?side2 A56.out).mono ?_); (case side1 => repeat (first | exact (Kd.C_below HR1_0.out HB.out) | (with_reducible refine Kd.C_alloc ?_ _) | (with_reducible refine Kd.C_drewN ?_ _) | (with_reducible refine Kd.C_drew ?_))); (case side2 => exact HC1_0.out); rintro e w84 ⟨v281, v284, rfl, ho0, ho1, hb⟩; refine ⟨_, rfl, ?_⟩; have n0_ := Aside0.mk (Kd.R_mono (Kd.R_told (Kd.R_told (Kd.R_old (by (with_reducible repeat (first | apply Kd.R_alloc | apply Kd.R_drewN | apply Kd.R_drew)); exact HO_278000.out) hb) (Kd.R_base ho0)) (Kd.R_base ho1)) (fun _ h_ => h_.1)); have n1_ := Aside0.mk (Kd.R_mono (Kd.R_told (Kd.R_told (Kd.R_old (by (with_reducible repeat (first | apply Kd.R_alloc | apply Kd.R_drewN | apply Kd.R_drew)); exact HO_278001.out) hb) (Kd.R_base ho0)) (Kd.R_base ho1)) (fun _ h_ => h_.1)); have n2_ := Aside0.mk (Kd.R_lower (Kd.R_new' (Kd.R_new' ho0 (Kd.R_lt (by (with_reducible repeat (first | apply Kd.R_alloc | apply Kd.R_drewN | apply Kd.R_drew)); exact HO_278000.out))) (Kd.R_lt (by (with_reducible repeat (first | apply Kd.R_alloc | apply Kd.R_drewN | apply Kd.R_drew)); exact HO_278001.out))) (below_size (by repeat (first | (with_reducible first | exact HB.out | apply below_alloc | apply pw_below_drewN | apply below_drew1 | refine below_set ?_ GE257.out | refine below_set ?_ GE258.out | refine below_set ?_ GE277.out) | exact HB.out)))); have n3_ := Aside0.mk (Kd.R_lower (Kd.R_new' (Kd.R_new' ho1 (Kd.R_lt (by (with_reducible repeat (first | apply Kd.R_alloc | apply Kd.R_drewN | apply Kd.R_drew)); exact HO_278000.out))) (Kd.R_lt (by (with_reducible repeat (first | apply Kd.R_alloc | apply Kd.R_drewN | apply Kd.R_drew)); exact HO_278001.out))) (below_size (by repeat (first | (with_reducible first | exact HB.out | apply below_alloc | apply pw_below_drewN | apply below_drew1 | refine below_set ?_ GE257.out | refine below_set ?_ GE258.out | refine below_set ?_ GE277.out) | exact HB.out)))); have n4_ := Aside0.mk (blk_below (g := gb257) (o := .cells #[.slice A0_0 l0_0.length c0_0, .int .i64 a0_1] 89 (0, 0)) (by (with_reducible repeat (first | refine blk_drewN ?_ _ | refine blk_drew ?_ | refine blk_alloc ?_ _)); exact BK257.out) hb); have n5_ := Aside0.mk (blk_below (g := gb258) (o := .cells #[.slice A1_0 l1_0.length c1_0, .int .i64 a1_1] 89 (0, 0)) (by (with_reducible repeat (first | refine blk_drewN ?_ _ | refine blk_drew ?_ | refine blk_alloc ?_ _)); exact BK258.out) hb); have n6_ := Aside0.mk (blk_below (g := gb277) (o := .cells #[.slice Ao35 t271.length co35, .slice Ao39 t274.length co39] 32 (0, 0)) (by (with_reducible repeat (first | refine blk_drewN ?_ _ | refine blk_drew ?_ | refine blk_alloc ?_ _)); exact BK277.out) hb); have n7_ := Aside0.mk (below_step (by repeat (first | (with_reducible first | exact HB.out | apply below_alloc | apply pw_below_drewN | apply below_drew1 | refine below_set ?_ GE257.out | refine below_set ?_ GE258.out | refine below_set ?_ GE277.out) | exact HB.out)) hb); clear HO_278000; clear HO_278001; clear BK257; clear BK258; clear BK277; clear HB; have HO_278000 := n0_; have HO_278001 := n1_; have HO282 := n2_; have HO285 := n3_; have BK257 := n4_; have BK258 := n5_; have BK277 := n6_; have HB := n7_; clear n0_ n1_ n2_ n3_ n4_ n5_ n6_ n7_; (try clear hb); (try clear hb2); (try clear hk); (try clear hi); (try clear ho0); (try clear ho1)) | ((with_reducible refine gate_dst (N := 13) rfl ?_); (try (refine gate_guard (by rfl) ?_; dsimp only)); refine box_event ?hg (N := 13) ?hd (cs := #[.slice none 0 0, .slice none 0 0]) (t := 32) ?hr ?_; (case hd => rfl); (case hg => rfl); (case hr => first | (go_simp; done) | (go_simp; rfl)); intro gb286 hg w85 hbox hb; have n0_ := Aside0.mk (Kd.R_below (by (with_reducible repeat (first | apply Kd.R_alloc | apply Kd.R_drewN | apply Kd.R_drew)); exact HO_278000.out) hb); have n1_ := Aside0.mk (Kd.R_below (by (with_reducible repeat (first | apply Kd.R_alloc | apply Kd.R_drewN | apply Kd.R_drew)); exact HO_278001.out) hb); have n2_ := Aside0.mk (Kd.R_below (by (with_reducible repeat (first | apply Kd.R_alloc | apply Kd.R_drewN | apply Kd.R_drew)); exact HO282.out) hb); have n3_ := Aside0.mk (Kd.R_below (by (with_reducible repeat (first | apply Kd.R_alloc | apply Kd.R_drewN | apply Kd.R_drew)); exact HO285.out) hb); have n4_ := Aside0.mk (blk_below (g := gb257) (o := .cells #[.slice A0_0 l0_0.length c0_0, .int .i64 a0_1] 89 (0, 0)) (by (with_reducible repeat (first | refine blk_drewN ?_ _ | refine blk_drew ?_ | refine blk_alloc ?_ _)); exact BK257.out) hb); have n5_ := Aside0.mk (blk_below (g := gb258) (o := .cells #[.slice A1_0 l1_0.length c1_0, .int .i64 a1_1] 89 (0, 0)) (by (with_reducible repeat (first | refine blk_drewN ?_ _ | refine blk_drew ?_ | refine blk_alloc ?_ _)); exact BK258.out) hb); have n6_ := Aside0.mk (blk_below (g := gb277) (o := .cells #[.slice Ao35 t271.length co35, .slice Ao39 t274.length co39] 32 (0, 0)) (by (with_reducible repeat (first | refine blk_drewN ?_ _ | refine blk_drew ?_ | refine blk_alloc ?_ _)); exact BK277.out) hb); have n7_ := Aside0.mk (below_step (by repeat (first | (with_reducible first | exact HB.out | apply below_alloc | apply pw_below_drewN | apply below_drew1 | refine below_set ?_ GE257.out | refine below_set ?_ GE258.out | refine below_set ?_ GE277.out) | exact HB.out)) hb); have n8_ := Aside0.mk (hbox); have n9_ := Aside0.mk ((by rw [hg]; exact (below_size (by repeat (first | (with_reducible first | exact HB.out | apply below_alloc | apply pw_below_drewN | apply below_drew1 | refine below_set ?_ GE257.out | refine below_set ?_ GE258.out | refine below_set ?_ GE277.out) | exact HB.out))) : w.heap.size ≤ gb286)); have n10_ := Aside0.mk ((by rw [hg]; exact (below_size (by repeat (first | (with_reducible first | exact HB.out | apply below_alloc | apply pw_below_drewN | apply below_drew1 | refine below_set ?_ GE257.out | refine below_set ?_ GE258.out | refine below_set ?_ GE277.out) | exact HB.out))) : w.heap.size ≤ gb286)); have n11_ := Aside0.mk ((by rw [hg]; exact Nat.ne_of_lt (blk_lt (g := gb257) (o := .cells #[.slice A0_0 l0_0.length c0_0, .int .i64 a0_1] 89 (0, 0)) (by (with_reducible repeat (first | refine blk_drewN ?_ _ | refine blk_drew ?_ | refine blk_alloc ?_ _)); exact BK257.out)) : gb257 ≠ gb286)); have n12_ := Aside0.mk ((by rw [hg]; exact Nat.ne_of_gt (blk_lt (g := gb257) (o := .cells #[.slice A0_0 l0_0.length c0_0, .int .i64 a0_1] 89 (0, 0)) (by (with_reducible repeat (first | refine blk_drewN ?_ _ | refine blk_drew ?_ | refine blk_alloc ?_ _)); exact BK257.out)) : gb286 ≠ gb257)); have n13_ := Aside0.mk ((by rw [hg]; exact Nat.ne_of_lt (blk_lt (g := gb258) (o := .cells #[.slice A1_0 l1_0.length c1_0, .int .i64 a1_1] 89 (0, 0)) (by (with_reducible repeat (first | refine blk_drewN ?_ _ | refine blk_drew ?_ | refine blk_alloc ?_ _)); exact BK258.out)) : gb258 ≠ gb286)); have n14_ := Aside0.mk ((by rw [hg]; exact Nat.ne_of_gt (blk_lt (g := gb258) (o := .cells #[.slice A1_0 l1_0.length c1_0, .int .i64 a1_1] 89 (0, 0)) (by (with_reducible repeat (first | refine blk_drewN ?_ _ | refine blk_drew ?_ | refine blk_alloc ?_ _)); exact BK258.out)) : gb286 ≠ gb258)); have n15_ := Aside0.mk ((by rw [hg]; exact Nat.ne_of_lt (blk_lt (g := gb277) (o := .cells #[.slice Ao35 t271.length co35, .slice Ao39 t274.length co39] 32 (0, 0)) (by (with_reducible repeat (first | refine blk_drewN ?_ _ | refine blk_drew ?_ | refine blk_alloc ?_ _)); exact BK277.out)) : gb277 ≠ gb286)); have n16_ := Aside0.mk ((by rw [hg]; exact Nat.ne_of_gt (blk_lt (g := gb277) (o := .cells #[.slice Ao35 t271.length co35, .slice Ao39 t274.length co39] 32 (0, 0)) (by (with_reducible repeat (first | refine blk_drewN ?_ _ | refine blk_drew ?_ | refine blk_alloc ?_ _)); exact BK277.out)) : gb286 ≠ gb277)); clear HO_278000; clear HO_278001; clear HO282; clear HO285; clear BK257; clear BK258; clear BK277; clear HB; have HO_278000 := n0_; have HO_278001 := n1_; have HO282 := n2_; have HO285 := n3_; have BK257 := n4_; have BK258 := n5_; have BK277 := n6_; have HB := n7_; have BK286 := n8_; have GW286 := n9_; have GE286 := n10_; have NB257_286 := n11_; have NB286_257 := n12_; have NB258_286 := n13_; have NB286_258 := n14_; have NB277_286 := n15_; have NB286_277 := n16_; clear n0_ n1_ n2_ n3_ n4_ n5_ n6_ n7_ n8_ n9_ n10_ n11_ n12_ n13_ n14_ n15_ n16_; clear hb hbox hg; obtain ⟨Ao86, co86, eo86⟩ := Kd.R_slice HO282.out; subst eo86; have hnb87 := NB286_257.out; have hnc87 := NB257_286.out; have hnb88 := NB286_258.out; have hnc88 := NB258_286.out; have hnb89 := NB286_277.out; have hnc89 := NB277_286.out; have hcz90_0 : w85.cell? ⟨gb286, 0, none⟩ = some (.slice none 0 0) := (blk_cell BK286.out 0).trans rfl; have hcz90_1 : w85.cell? ⟨gb286, 1, none⟩ = some (.slice none 0 0) := (blk_cell BK286.out 1).trans rfl; have hfz90_0 := blk_frozen BK286.out 0; have hfz90_1 := blk_frozen BK286.out 1; obtain ⟨Ao91, co91, eo91⟩ := Kd.R_slice HO285.out; subst eo91; have hcz92_0 : w85.cell? ⟨gb277, 0, none⟩ = some (.slice Ao35 t271.length co35) := (blk_cell BK277.out 0).trans rfl; have hcz92_1 : w85.cell? ⟨gb277, 1, none⟩ = some (.slice Ao39 t274.length co39) := (blk_cell BK277.out 1).trans rfl; have hfz92_0 := blk_frozen BK277.out 0; have hfz92_1 := blk_frozen BK277.out 1) | (go_at_call 54; (with_reducible refine (pantileref03_In.calls kj21 _ _ t280 _ _ t283 _ _ t271 false _ ?side1 ?side2 ?side3 ?side4 ?side5 ?side6 A58.out).mono ?_); (case side1 => refine (Kd.R_reads' (e := 30) (base := w.heap.size) (ok := fun k_ => ((some k_ ≠ (.slice Ao91 t283.length co91 : Value).ownBlock ∧ some k_ ≠ (.slice Ao35 t271.length co35 : Value).ownBlock) ∧ some k_ ≠ (.slice Ao39 t274.length co39 : Value).ownBlock)) (n := t280.length) (c := co86) ?_).2.2; exact (by (with_reducible repeat (first | apply Kd.R_alloc | apply Kd.R_drewN | apply Kd.R_drew)); exact (Kd.R_mono (Kd.R_far (p := ⟨gb286, 1, none⟩) (Kd.R_far (p := ⟨gb286, 0, none⟩) (Kd.R_types HO282.out BK286.out (by decide)) (fun _ hk => hk.2) (.slice Ao86 t280.length co86)) (fun _ hk => hk.2) (.slice Ao91 t283.length co91)) (fun _ h_ => h_.1)))); (case side2 => exact (Kd.R_reads' HO282.out).2.1); (case side3 => refine (Kd.R_reads' (e := 30) (base := w.heap.size) (ok := fun k_ => ((some k_ ≠ (.slice Ao86 t280.length co86 : Value).ownBlock ∧ some k_ ≠ (.slice Ao35 t271.length co35 : Value).ownBlock) ∧ some k_ ≠ (.slice Ao39 t274.length co39 : Value).ownBlock)) (n := t283.length) (c := co91) ?_).2.2; exact (by (with_reducible repeat (first | apply Kd.R_alloc | apply Kd.R_drewN | apply Kd.R_drew)); exact (Kd.R_mono (Kd.R_far (p := ⟨gb286, 1, none⟩) (Kd.R_far (p := ⟨gb286, 0, none⟩) (Kd.R_types HO285.out BK286.out (by decide)) (fun _ hk => hk.2) (.slice Ao86 t280.length co86)) (fun _ hk => hk.2) (.slice Ao91 t283.length co91)) (fun _ h_ => h_.1)))); (case side4 => exact (Kd.R_reads' HO285.out).2.1); (case side5 => refine (Kd.R_reads' (e := 30) (base := w.heap.size) (ok := fun k_ => ((some k_ ≠ (.slice Ao39 t274.length co39 : Value).ownBlock ∧ some k_ ≠ (.slice Ao86 t280.length co86 : Value).ownBlock) ∧ some k_ ≠ (.slice Ao91 t283.length co91 : Value).ownBlock)) (n := t271.length) (c := co35) ?_).2.2; exact (by (with_reducible repeat (first | apply Kd.R_alloc | apply Kd.R_drewN | apply Kd.R_drew)); exact (Kd.R_mono (Kd.R_far (p := ⟨gb286, 1, none⟩) (Kd.R_far (p := ⟨gb286, 0, none⟩) (Kd.R_types HO_278000.out BK286.out (by decide)) (fun _ hk => hk.2) (.slice Ao86 t280.length co86)) (fun _ hk => hk.2) (.slice Ao91 t283.length co91)) (fun _ h_ => h_.1)))); (case side6 => exact (Kd.R_reads' HO_278000.out).2.1); rintro e w93 ⟨rfl, hb⟩; have n0_ := Aside0.mk (Kd.R_below (by (with_reducible repeat (first | apply Kd.R_alloc | apply Kd.R_drewN | apply Kd.R_drew)); exact (Kd.R_mono (Kd.R_far (p := ⟨gb286, 1, none⟩) (Kd.R_far (p := ⟨gb286, 0, none⟩) (Kd.R_types HO_278000.out BK286.out (by decide)) (fun _ hk => hk.2) (.slice Ao86 t280.length co86)) (fun _ hk => hk.2) (.slice Ao91 t283.length co91)) (fun _ h_ => h_.1))) hb); have n1_ := Aside0.mk (Kd.R_below (by (with_reducible repeat (first | apply Kd.R_alloc | apply Kd.R_drewN | apply Kd.R_drew)); exact (Kd.R_mono (Kd.R_far (p := ⟨gb286, 1, none⟩) (Kd.R_far (p := ⟨gb286, 0, none⟩) (Kd.R_types HO_278001.out BK286.out (by decide)) (fun _ hk => hk.2) (.slice Ao86 t280.length co86)) (fun _ hk => hk.2) (.slice Ao91 t283.length co91)) (fun _ h_ => h_.1))) hb); have n2_ := Aside0.mk (Kd.R_below (by (with_reducible repeat (first | apply Kd.R_alloc | apply Kd.R_drewN | apply Kd.R_drew)); exact (Kd.R_mono (Kd.R_far (p := ⟨gb286, 1, none⟩) (Kd.R_far (p := ⟨gb286, 0, none⟩) (Kd.R_types HO282.out BK286.out (by decide)) (fun _ hk => hk.2) (.slice Ao86 t280.length co86)) (fun _ hk => hk.2) (.slice Ao91 t283.length co91)) (fun _ h_ => h_.1))) hb); have n3_ := Aside0.mk (Kd.R_below (by (with_reducible repeat (first | apply Kd.R_alloc | apply Kd.R_drewN | apply Kd.R_drew)); exact (Kd.R_mono (Kd.R_far (p := ⟨gb286, 1, none⟩) (Kd.R_far (p := ⟨gb286, 0, none⟩) (Kd.R_types HO285.out BK286.out (by decide)) (fun _ hk => hk.2) (.slice Ao86 t280.length co86)) (fun _ hk => hk.2) (.slice Ao91 t283.length co91)) (fun _ h_ => h_.1))) hb); have n4_ := Aside0.mk (blk_below (g := gb257) (o := .cells #[.slice A0_0 l0_0.length c0_0, .int .i64 a0_1] 89 (0, 0)) (by (with_reducible repeat (first | refine blk_drewN ?_ _ | refine blk_drew ?_ | refine blk_alloc ?_ _)); refine blk_far ?_ NB257_286.out _; (with_reducible repeat (first | refine blk_drewN ?_ _ | refine blk_drew ?_ | refine blk_alloc ?_ _)); refine blk_far ?_ NB257_286.out _; (with_reducible repeat (first | refine blk_drewN ?_ _ | refine blk_drew ?_ | refine blk_alloc ?_ _)); exact BK257.out) hb); have n5_ := Aside0.mk (blk_below (g := gb258) (o := .cells #[.slice A1_0 l1_0.length c1_0, .int .i64 a1_1] 89 (0, 0)) (by (with_reducible repeat (first | refine blk_drewN ?_ _ | refine blk_drew ?_ | refine blk_alloc ?_ _)); refine blk_far ?_ NB258_286.out _; (with_reducible repeat (first | refine blk_drewN ?_ _ | refine blk_drew ?_ | refine blk_alloc ?_ _)); refine blk_far ?_ NB258_286.out _; (with_reducible repeat (first | refine blk_drewN ?_ _ | refine blk_drew ?_ | refine blk_alloc ?_ _)); exact BK258.out) hb); have n6_ := Aside0.mk (blk_below (g := gb277) (o := .cells #[.slice Ao35 t271.length co35, .slice Ao39 t274.length co39] 32 (0, 0)) (by (with_reducible repeat (first | refine blk_drewN ?_ _ | refine blk_drew ?_ | refine blk_alloc ?_ _)); refine blk_far ?_ NB277_286.out _; (with_reducible repeat (first | refine blk_drewN ?_ _ | refine blk_drew ?_ | refine blk_alloc ?_ _)); refine blk_far ?_ NB277_286.out _; (with_reducible repeat (first | refine blk_drewN ?_ _ | refine blk_drew ?_ | refine blk_alloc ?_ _)); exact BK277.out) hb); have n7_ := Aside0.mk (blk_below (g := gb286) (o := .cells #[.slice Ao86 t280.length co86, .slice Ao91 t283.length co91] 32 (0, 0)) (by (with_reducible repeat (first | refine blk_drewN ?_ _ | refine blk_drew ?_ | refine blk_alloc ?_ _)); refine blk_put (cs := #[.slice Ao86 t280.length co86, .slice none 0 0]) ?_ 1 _ rfl; (with_reducible repeat (first | refine blk_drewN ?_ _ | refine blk_drew ?_ | refine blk_alloc ?_ _)); refine blk_put (cs := #[.slice none 0 0, .slice none 0 0]) ?_ 0 _ rfl; (with_reducible repeat (first | refine blk_drewN ?_ _ | refine blk_drew ?_ | refine blk_alloc ?_ _)); exact BK286.out) hb); have n8_ := Aside0.mk (below_step (by repeat (first | (with_reducible first | exact HB.out | apply below_alloc | apply pw_below_drewN | apply below_drew1 | refine below_set ?_ GE257.out | refine below_set ?_ GE258.out | refine below_set ?_ GE277.out | refine below_set ?_ GE286.out) | exact HB.out)) hb); clear HO_278000; clear HO_278001; clear HO282; clear HO285; clear BK257; clear BK258; clear BK277; clear BK286; clear HB; have HO_278000 := n0_; have HO_278001 := n1_; have HO282 := n2_; have HO285 := n3_; have BK257 := n4_; have BK258 := n5_; have BK277 := n6_; have BK286 := n7_; have HB := n8_; clear n0_ n1_ n2_ n3_ n4_ n5_ n6_ n7_ n8_; (try clear hb); (try clear hb2); (try clear hk); (try clear hi)))
                          go_ret
                          exact ⟨by first | rfl | (simp [errW_none, errW_some] <;> rfl) | (simp [*, errW_none, errW_some] <;> rfl), by repeat (first | (with_reducible first | exact HB.out | apply below_alloc | apply pw_below_drewN | apply below_drew1 | refine below_set ?_ GE257.out | refine below_set ?_ GE258.out | refine below_set ?_ GE277.out | refine below_set ?_ GE286.out) | exact HB.out)⟩
                      · rw [if_neg c57] at H
                        have c57b0 : (t268 == 0) = false := beq_eq_false_iff_ne.mpr c57
                        have c57b1 : (t268 != 0) = true := bne_iff_ne.mpr c57
                        exact Bool.noConfusion ((Option.some.inj H).trans HRT.out)
                    · rw [if_neg c55] at H
                      have c55b0 : ((l0_0.length : Int) == (l1_0.length : Int)) = false := beq_eq_false_iff_ne.mpr c55
                      have c55b1 : ((l0_0.length : Int) != (l1_0.length : Int)) = true := bne_iff_ne.mpr c55
                      have c55b2 : (l0_0.length == l1_0.length) = false := by first | simpa using c55 | (simp at c55 ⊢; omega)
                      by_cases c94 : t267 = true
                      · subst c94
                        have H1 : (some false) = some r := by rw [if_pos rfl] at H; exact H
                        clear H
                        have H := H1
                        clear H1
                        exact Bool.noConfusion ((Option.some.inj H).trans HRT.out)
                      · replace c94 := Bool.eq_false_iff.mpr c94
                        subst c94
                        have H1 : (some (t268 == 2)) = some r := by rw [if_neg (show ¬ (false = true) by decide)] at H; exact H
                        clear H
                        have H := H1
                        clear H1
                        obtain rfl := Option.some.inj H
                        have hnb95 := NB257_258.out
                        have hnc95 := NB258_257.out
                        have hnb96 := NB257_277.out
                        have hnc96 := NB277_257.out
                        have hcz97_0 : wc.cell? ⟨gb257, 0, none⟩ = some (.slice A0_0 l0_0.length c0_0) := (blk_cell BK257.out 0).trans rfl
                        have hcz97_1 : wc.cell? ⟨gb257, 1, none⟩ = some (.int .i64 a0_1) := (blk_cell BK257.out 1).trans rfl
                        have hfz97_0 := blk_frozen BK257.out 0
                        have hfz97_1 := blk_frozen BK257.out 1
                        have hnb98 := NB258_277.out
                        have hnc98 := NB277_258.out
                        have hcz99_0 : wc.cell? ⟨gb258, 0, none⟩ = some (.slice A1_0 l1_0.length c1_0) := (blk_cell BK258.out 0).trans rfl
                        have hcz99_1 : wc.cell? ⟨gb258, 1, none⟩ = some (.int .i64 a1_1) := (blk_cell BK258.out 1).trans rfl
                        have hfz99_0 := blk_frozen BK258.out 0
                        have hfz99_1 := blk_frozen BK258.out 1
                        go_wp2
                        go_ret
                        exact ⟨by first | rfl | (simp [errW_none, errW_some] <;> rfl) | (simp [*, errW_none, errW_some] <;> rfl), by repeat (first | (with_reducible first | exact HB.out | apply below_alloc | apply pw_below_drewN | apply below_drew1 | refine below_set ?_ GE257.out | refine below_set ?_ GE258.out | refine below_set ?_ GE277.out) | exact HB.out)⟩
                  · rw [if_neg c54] at H
                    have c54b0 : (t270 == 0) = false := beq_eq_false_iff_ne.mpr c54
                    have c54b1 : (t270 != 0) = true := bne_iff_ne.mpr c54
                    by_cases c100 : t267 = true
                    · subst c100
                      have H1 : (some false) = some r := by rw [if_pos rfl] at H; exact H
                      clear H
                      have H := H1
                      clear H1
                      exact Bool.noConfusion ((Option.some.inj H).trans HRT.out)
                    · replace c100 := Bool.eq_false_iff.mpr c100
                      subst c100
                      have H1 : (some (t268 == t270)) = some r := by rw [if_neg (show ¬ (false = true) by decide)] at H; exact H
                      clear H
                      have H := H1
                      clear H1
                      obtain rfl := Option.some.inj H
                      go_wp2
                      go_ret
                      exact ⟨by first | rfl | (simp [errW_none, errW_some] <;> rfl) | (simp [*, errW_none, errW_some] <;> rfl), by repeat (first | (with_reducible first | exact HB.out | apply below_alloc | apply pw_below_drewN | apply below_drew1 | refine below_set ?_ GE257.out | refine below_set ?_ GE258.out | refine below_set ?_ GE277.out) | exact HB.out)⟩
          · rw [if_neg c20] at H
            have c20b0 : (t269 == 0) = false := beq_eq_false_iff_ne.mpr c20
            have c20b1 : (t269 != 0) = true := bne_iff_ne.mpr c20
            by_cases c101 : (t260.length : Int) = 0
            · rw [if_pos c101] at H
              have c101b0 : ((t260.length : Int) == 0) = true := beq_iff_eq.mpr c101
              have c101b1 : ((t260.length : Int) != 0) = false := bne_eq_false_iff_eq.mpr c101
              clear c101
              by_cases c102 : (t263.length : Int) = 0
              · rw [if_pos c102] at H
                have c102b0 : ((t263.length : Int) == 0) = true := beq_iff_eq.mpr c102
                have c102b1 : ((t263.length : Int) != 0) = false := bne_eq_false_iff_eq.mpr c102
                clear c102
                by_cases c103 : t266 = t269
                · rw [if_pos c103] at H
                  have c103b0 : (t266 == t269) = true := beq_iff_eq.mpr c103
                  have c103b1 : (t266 != t269) = false := bne_eq_false_iff_eq.mpr c103
                  clear c103
                  by_cases c104 : t267 = true
                  · subst c104
                    have H1 : (some false) = some r := by rw [if_pos rfl] at H; exact H
                    clear H
                    have H := H1
                    clear H1
                    exact Bool.noConfusion ((Option.some.inj H).trans HRT.out)
                  · replace c104 := Bool.eq_false_iff.mpr c104
                    subst c104
                    have H1 : (some (t268 == t269)) = some r := by rw [if_neg (show ¬ (false = true) by decide)] at H; exact H
                    clear H
                    have H := H1
                    clear H1
                    obtain rfl := Option.some.inj H
                    have hnb105 := NB257_258.out
                    have hnc105 := NB258_257.out
                    have hcz106_0 : wc.cell? ⟨gb257, 0, none⟩ = some (.slice A0_0 l0_0.length c0_0) := (blk_cell BK257.out 0).trans rfl
                    have hcz106_1 : wc.cell? ⟨gb257, 1, none⟩ = some (.int .i64 a0_1) := (blk_cell BK257.out 1).trans rfl
                    have hfz106_0 := blk_frozen BK257.out 0
                    have hfz106_1 := blk_frozen BK257.out 1
                    try go_wp2_with (first | ((with_reducible refine gate_callee (f := 70) rfl ?_); refine goesL_ (some 28) rfl rfl Try.func70 (by kernel_rfl) rfl #[.agg #[.slice A0_0 l0_0.length c0_0, .int .i64 a0_1]] rfl (by (try simp only [List.map_toArray, List.map_cons, List.map_nil]); first | done | rfl | (simp only [List.length_drop, List.length_take]; rfl)) ?_; (with_reducible refine (cover_Range.calls kj4 _ _ l0_0 a0_1 t260 t263 t266 _ ?side1 ?side2 A16.out).mono ?_); (case side1 => repeat (first | exact (Kd.C_below HR0_0.out HB.out) | (with_reducible refine Kd.C_alloc ?_ _) | (with_reducible refine Kd.C_drewN ?_ _) | (with_reducible refine Kd.C_drew ?_))); (case side2 => exact HC0_0.out); rintro e w107 ⟨v261, v264, rfl, ho0, ho1, hb⟩; refine ⟨_, rfl, ?_⟩; have n0_ := Aside0.mk (Kd.R_lower ho0 (below_size (by repeat (first | (with_reducible first | exact HB.out | apply below_alloc | apply pw_below_drewN | apply below_drew1 | refine below_set ?_ GE257.out | refine below_set ?_ GE258.out) | exact HB.out)))); have n1_ := Aside0.mk (Kd.R_lower ho1 (below_size (by repeat (first | (with_reducible first | exact HB.out | apply below_alloc | apply pw_below_drewN | apply below_drew1 | refine below_set ?_ GE257.out | refine below_set ?_ GE258.out) | exact HB.out)))); have n2_ := Aside0.mk (blk_below (g := gb257) (o := .cells #[.slice A0_0 l0_0.length c0_0, .int .i64 a0_1] 89 (0, 0)) (by (with_reducible repeat (first | refine blk_drewN ?_ _ | refine blk_drew ?_ | refine blk_alloc ?_ _)); exact BK257.out) hb); have n3_ := Aside0.mk (blk_below (g := gb258) (o := .cells #[.slice A1_0 l1_0.length c1_0, .int .i64 a1_1] 89 (0, 0)) (by (with_reducible repeat (first | refine blk_drewN ?_ _ | refine blk_drew ?_ | refine blk_alloc ?_ _)); exact BK258.out) hb); have n4_ := Aside0.mk (below_step (by repeat (first | (with_reducible first | exact HB.out | apply below_alloc | apply pw_below_drewN | apply below_drew1 | refine below_set ?_ GE257.out | refine below_set ?_ GE258.out) | exact HB.out)) hb); clear BK257; clear BK258; clear HB; have HO262 := n0_; have HO265 := n1_; have BK257 := n2_; have BK258 := n3_; have HB := n4_; clear n0_ n1_ n2_ n3_ n4_; (try clear hb); (try clear hb2); (try clear hk); (try clear hi); (try clear ho0); (try clear ho1); have hcz108_0 : w107.cell? ⟨gb257, 0, none⟩ = some (.slice A0_0 l0_0.length c0_0) := (blk_cell BK257.out 0).trans rfl; have hcz108_1 : w107.cell? ⟨gb257, 1, none⟩ = some (.int .i64 a0_1) := (blk_cell BK257.out 1).trans rfl; have hfz108_0 := blk_frozen BK257.out 0; have hfz108_1 := blk_frozen BK257.out 1; have hcz109_0 : w107.cell? ⟨gb258, 0, none⟩ = some (.slice A1_0 l1_0.length c1_0) := (blk_cell BK258.out 0).trans rfl; have hcz109_1 : w107.cell? ⟨gb258, 1, none⟩ = some (.int .i64 a1_1) := (blk_cell BK258.out 1).trans rfl; have hfz109_0 := blk_frozen BK258.out 0; have hfz109_1 := blk_frozen BK258.out 1) | ((with_reducible refine gate_callee (f := 71) rfl ?_); refine goesL_ (some 35) rfl rfl Try.func71 (by kernel_rfl) rfl #[.agg #[.slice A0_0 l0_0.length c0_0, .int .i64 a0_1], .agg #[.slice A1_0 l1_0.length c1_0, .int .i64 a1_1]] rfl (by (try simp only [List.map_toArray, List.map_cons, List.map_nil]); first | done | rfl | (simp only [List.length_drop, List.length_take]; rfl)) ?_; (with_reducible refine (cover_Within.calls kj4 _ _ l0_0 a0_1 _ _ l1_0 a1_1 false t268 _ ?side1 ?side2 ?side3 ?side4 A17.out).mono ?_); (case side1 => repeat (first | exact (Kd.C_below HR0_0.out HB.out) | (with_reducible refine Kd.C_alloc ?_ _) | (with_reducible refine Kd.C_drewN ?_ _) | (with_reducible refine Kd.C_drew ?_))); (case side2 => exact HC0_0.out); (case side3 => repeat (first | exact (Kd.C_below HR1_0.out HB.out) | (with_reducible refine Kd.C_alloc ?_ _) | (with_reducible refine Kd.C_drewN ?_ _) | (with_reducible refine Kd.C_drew ?_))); (case side4 => exact HC1_0.out); rintro e w110 ⟨rfl, hb⟩; refine ⟨_, rfl, ?_⟩; have n0_ := Aside0.mk (Kd.R_below (by (with_reducible repeat (first | apply Kd.R_alloc | apply Kd.R_drewN | apply Kd.R_drew)); exact HO262.out) hb); have n1_ := Aside0.mk (Kd.R_below (by (with_reducible repeat (first | apply Kd.R_alloc | apply Kd.R_drewN | apply Kd.R_drew)); exact HO265.out) hb); have n2_ := Aside0.mk (blk_below (g := gb257) (o := .cells #[.slice A0_0 l0_0.length c0_0, .int .i64 a0_1] 89 (0, 0)) (by (with_reducible repeat (first | refine blk_drewN ?_ _ | refine blk_drew ?_ | refine blk_alloc ?_ _)); exact BK257.out) hb); have n3_ := Aside0.mk (blk_below (g := gb258) (o := .cells #[.slice A1_0 l1_0.length c1_0, .int .i64 a1_1] 89 (0, 0)) (by (with_reducible repeat (first | refine blk_drewN ?_ _ | refine blk_drew ?_ | refine blk_alloc ?_ _)); exact BK258.out) hb); have n4_ := Aside0.mk (below_step (by repeat (first | (with_reducible first | exact HB.out | apply below_alloc | apply pw_below_drewN | apply below_drew1 | refine below_set ?_ GE257.out | refine below_set ?_ GE258.out) | exact HB.out)) hb); clear HO262; clear HO265; clear BK257; clear BK258; clear HB; have HO262 := n0_; have HO265 := n1_; have BK257 := n2_; have BK258 := n3_; have HB := n4_; clear n0_ n1_ n2_ n3_ n4_; (try clear hb); (try clear hb2); (try clear hk); (try clear hi)))
                    have n0_ := Aside0.mk (Kd.R_drew HO262.out)
                    have n1_ := Aside0.mk (Kd.R_drew HO265.out)
                    have n2_ := Aside0.mk (blk_drew BK257.out)
                    have n3_ := Aside0.mk (blk_drew BK258.out)
                    have n4_ := Aside0.mk (below_drew1 HB.out)
                    clear HO262
                    clear HO265
                    clear BK257
                    clear BK258
                    clear HB
                    have HO262 := n0_
                    have HO265 := n1_
                    have BK257 := n2_
                    have BK258 := n3_
                    have HB := n4_
                    clear n0_ n1_ n2_ n3_ n4_
                    refine start_ (n := 14) (S := fun w' => w'.cell? ⟨gb257, 0, none⟩ = some (.slice A0_0 l0_0.length c0_0) ∧ w'.cell? ⟨gb257, 1, none⟩ = some (.int .i64 a0_1) ∧ w'.cell? ⟨gb258, 0, none⟩ = some (.slice A1_0 l1_0.length c1_0) ∧ w'.cell? ⟨gb258, 1, none⟩ = some (.int .i64 a1_1)) (ds := []) #[false, false, false, false, false, false, false, false, false, false, false, false, false, false] (by kernel_rfl) rfl rfl ⟨(blk_cell BK257.out 0).trans rfl, (blk_cell BK257.out 1).trans rfl, (blk_cell BK258.out 0).trans rfl, (blk_cell BK258.out 1).trans rfl⟩ (fun hHeld => ?_); refine with_tabW pantilelaw33_CoverWithin.tab7 pantilelaw33_CoverWithin.bits7 (fun HT_ HW_ => ?_)
                    generalize w110.drew = w111 at HO262 HO265 BK257 BK258 HB hHeld ⊢
                    refine pure_ (i := 0) (N := some 38) (v := ?_) (a' := ?_) #[true, false, false, false, false, false, false, false, false, false, false, false, false, false] rfl rfl (any_of HT_.out (by kernel_rfl)) (fun _ _ _ h => h) (Or.inl ⟨by rfl, ?_⟩) ?_ ?_
                    rotate_left
                    · intro w'
                      go_simp
                      with_reducible rfl
                    rotate_left
                    · simp only [Act.put, List.setIfInBounds_toArray, List.set_cons_zero, List.set_cons_succ, i64_w, i32_w]
                      rfl
                    refine pure_ (i := 2) (N := some 40) (v := ?_) (a' := ?_) #[true, false, true, false, false, false, false, false, false, false, false, false, false, false] rfl rfl (any_of HT_.out (by kernel_rfl)) (fun _ _ _ h => h) (Or.inl ⟨by rfl, ?_⟩) ?_ ?_
                    rotate_left
                    · intro w'
                      go_simp
                      with_reducible rfl
                    rotate_left
                    · simp only [Act.put, List.setIfInBounds_toArray, List.set_cons_zero, List.set_cons_succ, i64_w, i32_w]
                      rfl
                    refine pure_ (i := 6) (N := some 44) (v := ?_) (a' := ?_) #[true, false, true, false, false, false, true, false, false, false, false, false, false, false] rfl rfl (any_of HT_.out (by kernel_rfl)) (fun _ _ _ h => h) (Or.inl ⟨by rfl, ?_⟩) ?_ ?_
                    rotate_left
                    · intro w'
                      go_simp
                      with_reducible rfl
                    rotate_left
                    · simp only [Act.put, List.setIfInBounds_toArray, List.set_cons_zero, List.set_cons_succ, i64_w, i32_w]
                      rfl
                    refine pure_ (i := 8) (N := some 46) (v := ?_) (a' := ?_) #[true, false, true, false, false, false, true, false, true, false, false, false, false, false] rfl rfl (any_of HT_.out (by kernel_rfl)) (fun _ _ _ h => h) (Or.inl ⟨by rfl, ?_⟩) ?_ ?_
                    rotate_left
                    · intro w'
                      go_simp
                      with_reducible rfl
                    rotate_left
                    · simp only [Act.put, List.setIfInBounds_toArray, List.set_cons_zero, List.set_cons_succ, i64_w, i32_w]
                      rfl
                    refine take_ (i := 1) (N := some 39) (v := ?_) (a' := ?_) #[true, true, true, false, false, false, true, false, true, false, false, false, false, false] rfl rfl (take_ofW HT_.out HW_.out (by kernel_rfl)) (fun _ _ _ h => h) (Or.inl ⟨by rfl, ?_⟩) hHeld ?_ ?_
                    rotate_left
                    · rintro w' ⟨s0, s1, s2, s3⟩
                      go_simp
                      with_reducible rfl
                    rotate_left
                    · simp only [Act.put, List.setIfInBounds_toArray, List.set_cons_zero, List.set_cons_succ, i64_w, i32_w]
                      rfl
                    refine take_ (i := 3) (N := some 41) (v := ?_) (a' := ?_) #[true, true, true, true, false, false, true, false, true, false, false, false, false, false] rfl rfl (take_ofW HT_.out HW_.out (by kernel_rfl)) (fun _ _ _ h => h) (Or.inl ⟨by rfl, ?_⟩) hHeld ?_ ?_
                    rotate_left
                    · rintro w' ⟨s0, s1, s2, s3⟩
                      go_simp
                      with_reducible rfl
                    rotate_left
                    · simp only [Act.put, List.setIfInBounds_toArray, List.set_cons_zero, List.set_cons_succ, i64_w, i32_w]
                      rfl
                    refine pure_ (i := 4) (N := some 42) (v := ?_) (a' := ?_) #[true, true, true, true, true, false, true, false, true, false, false, false, false, false] rfl rfl (any_of HT_.out (by kernel_rfl)) (fun _ _ _ h => h) (Or.inl ⟨by rfl, ?_⟩) ?_ ?_
                    rotate_left
                    · intro w'
                      go_simp
                      with_reducible rfl
                    rotate_left
                    · simp only [Act.put, List.setIfInBounds_toArray, List.set_cons_zero, List.set_cons_succ, i64_w, i32_w]
                      rfl
                    refine take_ (i := 7) (N := some 45) (v := ?_) (a' := ?_) #[true, true, true, true, true, false, true, true, true, false, false, false, false, false] rfl rfl (take_ofW HT_.out HW_.out (by kernel_rfl)) (fun _ _ _ h => h) (Or.inl ⟨by rfl, ?_⟩) hHeld ?_ ?_
                    rotate_left
                    · rintro w' ⟨s0, s1, s2, s3⟩
                      go_simp
                      with_reducible rfl
                    rotate_left
                    · simp only [Act.put, List.setIfInBounds_toArray, List.set_cons_zero, List.set_cons_succ, i64_w, i32_w]
                      rfl
                    refine take_ (i := 9) (N := some 47) (v := ?_) (a' := ?_) #[true, true, true, true, true, false, true, true, true, true, false, false, false, false] rfl rfl (take_ofW HT_.out HW_.out (by kernel_rfl)) (fun _ _ _ h => h) (Or.inl ⟨by rfl, ?_⟩) hHeld ?_ ?_
                    rotate_left
                    · rintro w' ⟨s0, s1, s2, s3⟩
                      go_simp
                      with_reducible rfl
                    rotate_left
                    · simp only [Act.put, List.setIfInBounds_toArray, List.set_cons_zero, List.set_cons_succ, i64_w, i32_w]
                      rfl
                    refine pure_ (i := 10) (N := some 48) (v := ?_) (a' := ?_) #[true, true, true, true, true, false, true, true, true, true, true, false, false, false] rfl rfl (any_of HT_.out (by kernel_rfl)) (fun _ _ _ h => h) (Or.inl ⟨by rfl, ?_⟩) ?_ ?_
                    rotate_left
                    · intro w'
                      go_simp
                      with_reducible rfl
                    rotate_left
                    · simp only [Act.put, List.setIfInBounds_toArray, List.set_cons_zero, List.set_cons_succ, i64_w, i32_w]
                      rfl
                    refine one_ (i := 5) (N := some 43) #[true, true, true, true, true, true, true, true, true, true, true, false, false, false] rfl rfl (one_of HT_.out (by kernel_rfl)) (by decide) (fun K hK => ?_)
                    refine goes_ Try.func72 (by kernel_rfl) rfl #[.agg #[.slice A0_0 l0_0.length c0_0, .int .i64 a0_1]] (by rfl) rfl rfl (by (try simp only [List.map_toArray, List.map_cons, List.map_nil]); first | done | rfl | (simp only [List.length_drop, List.length_take]; rfl)) ?_
                    with_reducible refine (pantileref33_Check.calls kj4 _ _ l0_0 a0_1 t269 _ ?side1 ?side2 A18.out).mono ?_
                    (case side1 => repeat (first | exact (Kd.C_below HR0_0.out HB.out) | (with_reducible refine Kd.C_alloc ?_ _) | (with_reducible refine Kd.C_drewN ?_ _) | (with_reducible refine Kd.C_drew ?_)))
                    (case side2 => exact HC0_0.out)
                    rintro e w112 ⟨rfl, hb⟩
                    refine ⟨_, rfl, ?_⟩
                    have n0_ := Aside0.mk (Kd.R_below (by (with_reducible repeat (first | apply Kd.R_alloc | apply Kd.R_drewN | apply Kd.R_drew)); exact HO262.out) hb)
                    have n1_ := Aside0.mk (Kd.R_below (by (with_reducible repeat (first | apply Kd.R_alloc | apply Kd.R_drewN | apply Kd.R_drew)); exact HO265.out) hb)
                    have n2_ := Aside0.mk (blk_below (g := gb257) (o := .cells #[.slice A0_0 l0_0.length c0_0, .int .i64 a0_1] 89 (0, 0)) (by (with_reducible repeat (first | refine blk_drewN ?_ _ | refine blk_drew ?_ | refine blk_alloc ?_ _)); exact BK257.out) hb)
                    have n3_ := Aside0.mk (blk_below (g := gb258) (o := .cells #[.slice A1_0 l1_0.length c1_0, .int .i64 a1_1] 89 (0, 0)) (by (with_reducible repeat (first | refine blk_drewN ?_ _ | refine blk_drew ?_ | refine blk_alloc ?_ _)); exact BK258.out) hb)
                    have n4_ := Aside0.mk (below_step (by repeat (first | (with_reducible first | exact HB.out | apply below_alloc | apply pw_below_drewN | apply below_drew1 | refine below_set ?_ GE257.out | refine below_set ?_ GE258.out) | exact HB.out)) hb)
                    clear HO262
                    clear HO265
                    clear BK257
                    clear BK258
                    clear HB
                    have HO262 := n0_
                    have HO265 := n1_
                    have BK257 := n2_
                    have BK258 := n3_
                    have HB := n4_
                    clear n0_ n1_ n2_ n3_ n4_
                    (try clear hb)
                    (try clear hb2)
                    (try clear hk)
                    (try clear hi)
                    refine hK.out _ _ ⟨(blk_cell BK257.out 0).trans rfl, (blk_cell BK257.out 1).trans rfl, (blk_cell BK258.out 0).trans rfl, (blk_cell BK258.out 1).trans rfl⟩ (fun hHeld => ?_)
                    clear hK K
                    refine norm_ (a' := ?_) ?_ ?_
                    rotate_left
                    · show Act.put _ (some 43) _ = _
                      simp only [Act.put, List.setIfInBounds_toArray, List.set_cons_zero, List.set_cons_succ, i64_w, i32_w]
                      rfl
                    refine one_ (i := 11) (N := some 49) #[true, true, true, true, true, true, true, true, true, true, true, true, false, false] rfl rfl (one_of HT_.out (by kernel_rfl)) (by decide) (fun K hK => ?_)
                    refine goes_ Try.func72 (by kernel_rfl) rfl #[.agg #[.slice A1_0 l1_0.length c1_0, .int .i64 a1_1]] (by rfl) rfl rfl (by (try simp only [List.map_toArray, List.map_cons, List.map_nil]); first | done | rfl | (simp only [List.length_drop, List.length_take]; rfl)) ?_
                    with_reducible refine (pantileref33_Check.calls kj4 _ _ l1_0 a1_1 t270 _ ?side1 ?side2 A19.out).mono ?_
                    (case side1 => repeat (first | exact (Kd.C_below HR1_0.out HB.out) | (with_reducible refine Kd.C_alloc ?_ _) | (with_reducible refine Kd.C_drewN ?_ _) | (with_reducible refine Kd.C_drew ?_)))
                    (case side2 => exact HC1_0.out)
                    rintro e w113 ⟨rfl, hb⟩
                    refine ⟨_, rfl, ?_⟩
                    have n0_ := Aside0.mk (Kd.R_below (by (with_reducible repeat (first | apply Kd.R_alloc | apply Kd.R_drewN | apply Kd.R_drew)); exact HO262.out) hb)
                    have n1_ := Aside0.mk (Kd.R_below (by (with_reducible repeat (first | apply Kd.R_alloc | apply Kd.R_drewN | apply Kd.R_drew)); exact HO265.out) hb)
                    have n2_ := Aside0.mk (blk_below (g := gb257) (o := .cells #[.slice A0_0 l0_0.length c0_0, .int .i64 a0_1] 89 (0, 0)) (by (with_reducible repeat (first | refine blk_drewN ?_ _ | refine blk_drew ?_ | refine blk_alloc ?_ _)); exact BK257.out) hb)
                    have n3_ := Aside0.mk (blk_below (g := gb258) (o := .cells #[.slice A1_0 l1_0.length c1_0, .int .i64 a1_1] 89 (0, 0)) (by (with_reducible repeat (first | refine blk_drewN ?_ _ | refine blk_drew ?_ | refine blk_alloc ?_ _)); exact BK258.out) hb)
                    have n4_ := Aside0.mk (below_step (by repeat (first | (with_reducible first | exact HB.out | apply below_alloc | apply pw_below_drewN | apply below_drew1 | refine below_set ?_ GE257.out | refine below_set ?_ GE258.out) | exact HB.out)) hb)
                    clear HO262
                    clear HO265
                    clear BK257
                    clear BK258
                    clear HB
                    have HO262 := n0_
                    have HO265 := n1_
                    have BK257 := n2_
                    have BK258 := n3_
                    have HB := n4_
                    clear n0_ n1_ n2_ n3_ n4_
                    (try clear hb)
                    (try clear hb2)
                    (try clear hk)
                    (try clear hi)
                    refine hK.out _ _ ⟨(blk_cell BK257.out 0).trans rfl, (blk_cell BK257.out 1).trans rfl, (blk_cell BK258.out 0).trans rfl, (blk_cell BK258.out 1).trans rfl⟩ (fun hHeld => ?_)
                    clear hK K
                    refine norm_ (a' := ?_) ?_ ?_
                    rotate_left
                    · show Act.put _ (some 49) _ = _
                      simp only [Act.put, List.setIfInBounds_toArray, List.set_cons_zero, List.set_cons_succ, i64_w, i32_w]
                      rfl
                    refine pure_ (i := 12) (N := some 10) (v := ?_) (a' := ?_) #[true, true, true, true, true, true, true, true, true, true, true, true, true, false] rfl rfl (any_of HT_.out (by kernel_rfl)) (fun _ _ _ h => h) (Or.inl ⟨by rfl, ?_⟩) ?_ ?_
                    rotate_left
                    · intro w'
                      go_simp
                      with_reducible rfl
                    rotate_left
                    · simp only [Act.put, List.setIfInBounds_toArray, List.set_cons_zero, List.set_cons_succ, i64_w, i32_w]
                      rfl
                    refine pure_ (i := 13) (N := some 11) (v := ?_) (a' := ?_) #[true, true, true, true, true, true, true, true, true, true, true, true, true, true] rfl rfl (any_of HT_.out (by kernel_rfl)) (fun _ _ _ h => h) (Or.inl ⟨by rfl, ?_⟩) ?_ ?_
                    rotate_left
                    · intro w'
                      go_simp
                      with_reducible rfl
                    rotate_left
                    · simp only [Act.put, List.setIfInBounds_toArray, List.set_cons_zero, List.set_cons_succ, i64_w, i32_w]
                      rfl
                    refine done_ (done_of HT_.out (by kernel_rfl)) ?_
                    obtain ⟨Ao114, co114, eo114⟩ := Kd.R_slice HO262.out
                    subst eo114
                    obtain ⟨Ao115, co115, eo115⟩ := Kd.R_slice HO265.out
                    subst eo115
                    try go_wp2
                    go_ret
                    exact ⟨by first | rfl | (simp [errW_none, errW_some] <;> rfl) | (simp [*, errW_none, errW_some] <;> rfl), by repeat (first | (with_reducible first | exact HB.out | apply below_alloc | apply pw_below_drewN | apply below_drew1 | refine below_set ?_ GE257.out | refine below_set ?_ GE258.out) | exact HB.out)⟩
                · rw [if_neg c103] at H
                  have c103b0 : (t266 == t269) = false := beq_eq_false_iff_ne.mpr c103
                  have c103b1 : (t266 != t269) = true := bne_iff_ne.mpr c103
                  exact Bool.noConfusion ((Option.some.inj H).trans HRT.out)
              · rw [if_neg c102] at H
                have c102b0 : ((t263.length : Int) == 0) = false := beq_eq_false_iff_ne.mpr c102
                have c102b1 : ((t263.length : Int) != 0) = true := bne_iff_ne.mpr c102
                have c102b2 : ¬ (t263 = []) := fun h_ => c102 (by rw [h_]; rfl)
                exact Bool.noConfusion ((Option.some.inj H).trans HRT.out)
            · rw [if_neg c101] at H
              have c101b0 : ((t260.length : Int) == 0) = false := beq_eq_false_iff_ne.mpr c101
              have c101b1 : ((t260.length : Int) != 0) = true := bne_iff_ne.mpr c101
              have c101b2 : ¬ (t260 = []) := fun h_ => c101 (by rw [h_]; rfl)
              exact Bool.noConfusion ((Option.some.inj H).trans HRT.out)
  · replace c4 := Bool.eq_false_iff.mpr c4
    subst c4
    have H1 : (some false) = some r := by rw [if_neg (show ¬ (false = true) by decide)] at H; exact H
    clear H
    have H := H1
    clear H1
    exact Bool.noConfusion ((Option.some.inj H).trans HRT.out)

/-- THE ONE PURE STATEMENT of pantilelaw33_CoverWithin: yours. -/
def pantilelaw33_CoverWithin.Pure : Prop := ∀ (l0_0 : List Int) (a0_1 : Int) (l1_0 : List Int) (a1_1 : Int), l0_0.length ≤ maxLen → l0_0.length * 8 ≤ 140737488351232 → (∀ x ∈ l0_0, (Lit.int .u64 x).wf = true) → (Lit.int .i64 a0_1).wf = true → l1_0.length ≤ maxLen → l1_0.length * 8 ≤ 140737488351232 → (∀ x ∈ l1_0, (Lit.int .u64 x).wf = true) → (Lit.int .i64 a1_1).wf = true → ∃ k, pantilelaw33_CoverWithin.f k l0_0 a0_1 l1_0 a1_1 = some true
theorem pantilelaw33_CoverWithin.walk (P : pantilelaw33_CoverWithin.Pure) (a0_0 : Option Addr) (len0_0 cap0_0 : Nat) (z0_0 : List Int) (a0_1 : Int) (a1_0 : Option Addr) (len1_0 cap1_0 : Nat) (z1_0 : List Int) (a1_1 : Int) (w : World) (w0_0 : (a0_0 = none ∧ len0_0 = 0 ∧ cap0_0 = 0 ∧ z0_0 = []) ∨ ∃ x, a0_0 = some x ∧ len0_0 ≤ cap0_0 ∧ cap0_0 ≤ maxLen ∧ z0_0.length = cap0_0 ∧ (∀ i, i < z0_0.length → w.cell? (x.add i) = some (.int .u64 (z0_0.getD i 0))) ∧ ∀ n ∈ z0_0, (Lit.int .u64 n).wf = true) (y0_0 : len0_0 * 8 ≤ 140737488351232) (w0_1 : (Lit.int .i64 a0_1).wf = true) (w1_0 : (a1_0 = none ∧ len1_0 = 0 ∧ cap1_0 = 0 ∧ z1_0 = []) ∨ ∃ x, a1_0 = some x ∧ len1_0 ≤ cap1_0 ∧ cap1_0 ≤ maxLen ∧ z1_0.length = cap1_0 ∧ (∀ i, i < z1_0.length → w.cell? (x.add i) = some (.int .u64 (z1_0.getD i 0))) ∧ ∀ n ∈ z1_0, (Lit.int .u64 n).wf = true) (y1_0 : len1_0 * 8 ≤ 140737488351232) (w1_1 : (Lit.int .i64 a1_1).wf = true) :
    Calls Try.prog 16 #[.agg #[.slice a0_0 len0_0 cap0_0, .int .i64 a0_1], .agg #[.slice a1_0 len1_0 cap1_0, .int .i64 a1_1]] w fun e w' => e = .returned (.bool true) ∧ Below w.heap.size w w' := by
  obtain ⟨l0_0, rfl, hr0_0, hm0_0, hw0_0, hc0_0⟩ := ReadsInt.ofRowC w0_0
  obtain ⟨l1_0, rfl, hr1_0, hm1_0, hw1_0, hc1_0⟩ := ReadsInt.ofRowC w1_0
  obtain ⟨k, h⟩ := P l0_0 a0_1 l1_0 a1_1 hm0_0 y0_0 hw0_0 w0_1 hm1_0 y1_0 hw1_0 w1_1
  refine (pantilelaw33_CoverWithin.calls k _ _ l0_0 a0_1 _ _ l1_0 a1_1 true w (Kd.C_of_reads (d := (0 : Int)) (h1 := fun _ => rfl) hr0_0) hc0_0 (Kd.C_of_reads (d := (0 : Int)) (h1 := fun _ => rfl) hr1_0) hc1_0 rfl h).mono ?_
  rintro e w' ⟨rfl, hd⟩
  exact ⟨rfl, hd⟩

end Go.Proofs.Ythdphjbecibeaaa.PCoverWithin
