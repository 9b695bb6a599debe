-- Written by wip/tools/print2.py, a program of this session, over the kit's print of the program. Lean checks it.
import Derived.Test.YthdphjbecibeaaaPMaskOfx0
import Derived.Test.YthdphjbecibeaaaPMaskOfx1
import Derived.Test.YthdphjbecibeaaaPMaskOfx3
import Derived.Test.YthdphjbecibeaaaPMaskOfx5
import Derived.Test.YthdphjbecibeaaaPMaskOfx6
import Derived.Test.YthdphjbecibeaaaPMaskOfx8
namespace Go.Proofs.Ythdphjbecibeaaa.PMaskOf
open Go.RowKit Go.Proofs.YthdphjbecibeaaaW.PrintWords Go.Proofs.YthdphjbecibeaaaW.PrintLast Go.Proofs.YthdphjbecibeaaaW.PrintMore
attribute [local go_sem] max2_int min2_int max_two min_two max_three min_three max_four min_four   -- for this text's walks alone
set_option linter.unusedVariables false
set_option linter.unusedSimpArgs false

attribute [local go_sem high] eqA52
/-! ### pantilelaw04_MaskOf: function 8 -/
mutual
def pantilelaw04_MaskOf.j0 : Nat → List Int → Int → Bool → List Int → List Int → Option (Bool)
  | 0, _, _, _, _, _ => none
  | k + 1, x0, x1, x29, x222000, x222001 => if x29 = true then (some true) else ((mask_Of.f k x0 x1 x222000 x222001).bind fun bt223 => ((mask_Whole.f k x0 x1 x222000 x222001).bind fun bt228 => ((pantileref03_Right.f x222000 x222001).bind fun t230 => (if t230 = true then (pantilelaw04_MaskOf.j1 k x0 x1 bt223.2.2.2 bt228.1 bt228.2 ((x0.length : Int) != (x222000.length : Int)) x222000 x222001 bt223.1 bt223.2.1 bt223.2.2.1) else (pantilelaw04_MaskOf.j1 k x0 x1 bt223.2.2.2 bt228.1 bt228.2 true x222000 x222001 bt223.1 bt223.2.1 bt223.2.2.1)))))
def pantilelaw04_MaskOf.j1 : Nat → List Int → Int → Int → Bool → Int → Bool → List Int → List Int → Int → Int → Int → Option (Bool)
  | 0, _, _, _, _, _, _, _, _, _, _, _ => none
  | k + 1, x0, x1, x8, x9, x10, x54, x222000, x222001, x228000, x228001, x228002 => if x54 = true then (if (x228000 == 0 && (x228001 == 0 && (x228002 == 0))) = true then (if x8 = 2 then (if x9 = true then (some false) else (some (x10 == 2))) else (some false)) else (some false)) else (if x1 < (-1) then (pantilelaw04_MaskOf.j2 k x0 x1 x8 x9 x10 true x222000 x222001 x228000 x228001 x228002) else (pantilelaw04_MaskOf.j2 k x0 x1 x8 x9 x10 (decide (x1 > 63)) x222000 x222001 x228000 x228001 x228002))
def pantilelaw04_MaskOf.j2 : Nat → List Int → Int → Int → Bool → Int → Bool → List Int → List Int → Int → Int → Int → Option (Bool)
  | 0, _, _, _, _, _, _, _, _, _, _, _ => none
  | k + 1, x0, x1, x8, x9, x10, x75, x222000, x222001, x228000, x228001, x228002 => if x75 = true then (if (x228000 == 0 && (x228001 == 0 && (x228002 == 0))) = true then (if x8 = 3 then (if x9 = true then (some false) else (some (x10 == 3))) else (some false)) else (some false)) else (if x10 = 0 then ((pantileref04_Whole.f k x0 x1 x222000 x222001).bind fun t231 => (pantilelaw04_MaskOf.j3 k x0 x1 x8 (x9 != t231) x222000 x222001 x228000 x228001 x228002)) else (pantilelaw04_MaskOf.j3 k x0 x1 x8 true x222000 x222001 x228000 x228001 x228002))
def pantilelaw04_MaskOf.j3 : Nat → List Int → Int → Int → Bool → List Int → List Int → Int → Int → Int → Option (Bool)
  | 0, _, _, _, _, _, _, _, _, _ => none
  | k + 1, x0, x1, x8, x100, x222000, x222001, x228000, x228001, x228002 => if x100 = true then (some false) else (if x1 = (-1) then (if (x228000 == 0 && (x228001 == 0 && (x228002 == 0))) = true then (some (x8 == 3)) else (some false)) else ((pantileref04_Of.f k x0 x1 x222000 x222001).bind fun bt232 => (if x8 = 0 then (some (x228000 == (x0.length : Int) && (x228001 == bt232.1 && (x228002 == bt232.2)))) else (some false))))
end
def pantilelaw04_MaskOf.f (k : Nat) (l0 : List Int) (a1 : Int) (l2_0 : List Int) (l2_1 : List Int) : Option (Bool) := (pantilelaw04_awake.f k).bind fun t222 => (if t222 = true then (if (l0.length : Int) > 40 then (pantilelaw04_MaskOf.j0 k l0 a1 true l2_0 l2_1) else (if (l2_0.length : Int) > 40 then (pantilelaw04_MaskOf.j0 k l0 a1 true l2_0 l2_1) else (pantilelaw04_MaskOf.j0 k l0 a1 (decide ((l2_1.length : Int) > 40)) l2_0 l2_1))) else (some false))
theorem pantilelaw04_MaskOf.mono_l : ∀ k, (∀ y0 y1 y2 y3 y4, LeO (pantilelaw04_MaskOf.j0 k y0 y1 y2 y3 y4) (pantilelaw04_MaskOf.j0 (k + 1) y0 y1 y2 y3 y4)) ∧ (∀ y0 y1 y2 y3 y4 y5 y6 y7 y8 y9 y10, LeO (pantilelaw04_MaskOf.j1 k y0 y1 y2 y3 y4 y5 y6 y7 y8 y9 y10) (pantilelaw04_MaskOf.j1 (k + 1) y0 y1 y2 y3 y4 y5 y6 y7 y8 y9 y10)) ∧ (∀ y0 y1 y2 y3 y4 y5 y6 y7 y8 y9 y10, LeO (pantilelaw04_MaskOf.j2 k y0 y1 y2 y3 y4 y5 y6 y7 y8 y9 y10) (pantilelaw04_MaskOf.j2 (k + 1) y0 y1 y2 y3 y4 y5 y6 y7 y8 y9 y10)) ∧ (∀ y0 y1 y2 y3 y4 y5 y6 y7 y8, LeO (pantilelaw04_MaskOf.j3 k y0 y1 y2 y3 y4 y5 y6 y7 y8) (pantilelaw04_MaskOf.j3 (k + 1) y0 y1 y2 y3 y4 y5 y6 y7 y8))
  | 0 => ⟨fun _ _ _ _ _ r h => by simp [pantilelaw04_MaskOf.j0] at h, fun _ _ _ _ _ _ _ _ _ _ _ r h => by simp [pantilelaw04_MaskOf.j1] at h, fun _ _ _ _ _ _ _ _ _ _ _ r h => by simp [pantilelaw04_MaskOf.j2] at h, fun _ _ _ _ _ _ _ _ _ r h => by simp [pantilelaw04_MaskOf.j3] at h⟩
  | k + 1 => by
    obtain ⟨ih0, ih1, ih2, ih3⟩ := pantilelaw04_MaskOf.mono_l k
    refine ⟨?_, ?_, ?_, ?_⟩
    · intro y0 y1 y2 y3 y4
      unfold pantilelaw04_MaskOf.j0
      repeat' first
      | (with_reducible exact ih0 _ _ _ _ _)
      | (with_reducible exact ih1 _ _ _ _ _ _ _ _ _ _ _)
      | (with_reducible exact ih2 _ _ _ _ _ _ _ _ _ _ _)
      | (with_reducible exact ih3 _ _ _ _ _ _ _ _ _)
      | (with_reducible exact mask_Of.mono _ _ _ _ _)
      | (with_reducible exact mask_Whole.mono _ _ _ _ _)
      | (with_reducible exact pantilelaw04_awake.mono _)
      | (with_reducible exact pantileref04_Of.mono _ _ _ _ _)
      | (with_reducible exact pantileref04_Whole.mono _ _ _ _ _)
      | (with_reducible exact LeO.refl _)
      | (with_reducible exact LeO.none _)
      | (with_reducible refine LeO.ite ?_ ?_)
      | (with_reducible refine LeO.bind ?_ (fun _ => ?_))
      | exact ih0 _ _ _ _ _
      | exact ih1 _ _ _ _ _ _ _ _ _ _ _
      | exact ih2 _ _ _ _ _ _ _ _ _ _ _
      | exact ih3 _ _ _ _ _ _ _ _ _
      | exact mask_Of.mono _ _ _ _ _
      | exact mask_Whole.mono _ _ _ _ _
      | exact pantilelaw04_awake.mono _
      | exact pantileref04_Of.mono _ _ _ _ _
      | exact pantileref04_Whole.mono _ _ _ _ _
      | exact LeO.none _
      | refine LeO.ite ?_ ?_
      | refine LeO.bind ?_ (fun _ => ?_)
    · intro y0 y1 y2 y3 y4 y5 y6 y7 y8 y9 y10
      unfold pantilelaw04_MaskOf.j1
      repeat' first
      | (with_reducible exact ih0 _ _ _ _ _)
      | (with_reducible exact ih1 _ _ _ _ _ _ _ _ _ _ _)
      | (with_reducible exact ih2 _ _ _ _ _ _ _ _ _ _ _)
      | (with_reducible exact ih3 _ _ _ _ _ _ _ _ _)
      | (with_reducible exact mask_Of.mono _ _ _ _ _)
      | (with_reducible exact mask_Whole.mono _ _ _ _ _)
      | (with_reducible exact pantilelaw04_awake.mono _)
      | (with_reducible exact pantileref04_Of.mono _ _ _ _ _)
      | (with_reducible exact pantileref04_Whole.mono _ _ _ _ _)
      | (with_reducible exact LeO.refl _)
      | (with_reducible exact LeO.none _)
      | (with_reducible refine LeO.ite ?_ ?_)
      | (with_reducible refine LeO.bind ?_ (fun _ => ?_))
      | exact ih0 _ _ _ _ _
      | exact ih1 _ _ _ _ _ _ _ _ _ _ _
      | exact ih2 _ _ _ _ _ _ _ _ _ _ _
      | exact ih3 _ _ _ _ _ _ _ _ _
      | exact mask_Of.mono _ _ _ _ _
      | exact mask_Whole.mono _ _ _ _ _
      | exact pantilelaw04_awake.mono _
      | exact pantileref04_Of.mono _ _ _ _ _
      | exact pantileref04_Whole.mono _ _ _ _ _
      | exact LeO.none _
      | refine LeO.ite ?_ ?_
      | refine LeO.bind ?_ (fun _ => ?_)
    · intro y0 y1 y2 y3 y4 y5 y6 y7 y8 y9 y10
      unfold pantilelaw04_MaskOf.j2
      repeat' first
      | (with_reducible exact ih0 _ _ _ _ _)
      | (with_reducible exact ih1 _ _ _ _ _ _ _ _ _ _ _)
      | (with_reducible exact ih2 _ _ _ _ _ _ _ _ _ _ _)
      | (with_reducible exact ih3 _ _ _ _ _ _ _ _ _)
      | (with_reducible exact mask_Of.mono _ _ _ _ _)
      | (with_reducible exact mask_Whole.mono _ _ _ _ _)
      | (with_reducible exact pantilelaw04_awake.mono _)
      | (with_reducible exact pantileref04_Of.mono _ _ _ _ _)
      | (with_reducible exact pantileref04_Whole.mono _ _ _ _ _)
      | (with_reducible exact LeO.refl _)
      | (with_reducible exact LeO.none _)
      | (with_reducible refine LeO.ite ?_ ?_)
      | (with_reducible refine LeO.bind ?_ (fun _ => ?_))
      | exact ih0 _ _ _ _ _
      | exact ih1 _ _ _ _ _ _ _ _ _ _ _
      | exact ih2 _ _ _ _ _ _ _ _ _ _ _
      | exact ih3 _ _ _ _ _ _ _ _ _
      | exact mask_Of.mono _ _ _ _ _
      | exact mask_Whole.mono _ _ _ _ _
      | exact pantilelaw04_awake.mono _
      | exact pantileref04_Of.mono _ _ _ _ _
      | exact pantileref04_Whole.mono _ _ _ _ _
      | exact LeO.none _
      | refine LeO.ite ?_ ?_
      | refine LeO.bind ?_ (fun _ => ?_)
    · intro y0 y1 y2 y3 y4 y5 y6 y7 y8
      unfold pantilelaw04_MaskOf.j3
      repeat' first
      | (with_reducible exact ih0 _ _ _ _ _)
      | (with_reducible exact ih1 _ _ _ _ _ _ _ _ _ _ _)
      | (with_reducible exact ih2 _ _ _ _ _ _ _ _ _ _ _)
      | (with_reducible exact ih3 _ _ _ _ _ _ _ _ _)
      | (with_reducible exact mask_Of.mono _ _ _ _ _)
      | (with_reducible exact mask_Whole.mono _ _ _ _ _)
      | (with_reducible exact pantilelaw04_awake.mono _)
      | (with_reducible exact pantileref04_Of.mono _ _ _ _ _)
      | (with_reducible exact pantileref04_Whole.mono _ _ _ _ _)
      | (with_reducible exact LeO.refl _)
      | (with_reducible exact LeO.none _)
      | (with_reducible refine LeO.ite ?_ ?_)
      | (with_reducible refine LeO.bind ?_ (fun _ => ?_))
      | exact ih0 _ _ _ _ _
      | exact ih1 _ _ _ _ _ _ _ _ _ _ _
      | exact ih2 _ _ _ _ _ _ _ _ _ _ _
      | exact ih3 _ _ _ _ _ _ _ _ _
      | exact mask_Of.mono _ _ _ _ _
      | exact mask_Whole.mono _ _ _ _ _
      | exact pantilelaw04_awake.mono _
      | exact pantileref04_Of.mono _ _ _ _ _
      | exact pantileref04_Whole.mono _ _ _ _ _
      | exact LeO.none _
      | refine LeO.ite ?_ ?_
      | refine LeO.bind ?_ (fun _ => ?_)
theorem pantilelaw04_MaskOf.mono : ∀ a0 a1 a2 a3 k, LeO (pantilelaw04_MaskOf.f k a0 a1 a2 a3) (pantilelaw04_MaskOf.f (k + 1) a0 a1 a2 a3) := by
  intro a0 a1 a2 a3 k
  obtain ⟨ih0, ih1, ih2, ih3⟩ := pantilelaw04_MaskOf.mono_l k
  unfold pantilelaw04_MaskOf.f
  repeat' first
      | (with_reducible exact ih0 _ _ _ _ _)
      | (with_reducible exact ih1 _ _ _ _ _ _ _ _ _ _ _)
      | (with_reducible exact ih2 _ _ _ _ _ _ _ _ _ _ _)
      | (with_reducible exact ih3 _ _ _ _ _ _ _ _ _)
      | (with_reducible exact mask_Of.mono _ _ _ _ _)
      | (with_reducible exact mask_Whole.mono _ _ _ _ _)
      | (with_reducible exact pantilelaw04_awake.mono _)
      | (with_reducible exact pantileref04_Of.mono _ _ _ _ _)
      | (with_reducible exact pantileref04_Whole.mono _ _ _ _ _)
      | (with_reducible exact LeO.refl _)
      | (with_reducible exact LeO.none _)
      | (with_reducible refine LeO.ite ?_ ?_)
      | (with_reducible refine LeO.bind ?_ (fun _ => ?_))
      | exact ih0 _ _ _ _ _
      | exact ih1 _ _ _ _ _ _ _ _ _ _ _
      | exact ih2 _ _ _ _ _ _ _ _ _ _ _
      | exact ih3 _ _ _ _ _ _ _ _ _
      | exact mask_Of.mono _ _ _ _ _
      | exact mask_Whole.mono _ _ _ _ _
      | exact pantilelaw04_awake.mono _
      | exact pantileref04_Of.mono _ _ _ _ _
      | exact pantileref04_Whole.mono _ _ _ _ _
      | exact LeO.none _
      | refine LeO.ite ?_ ?_
      | refine LeO.bind ?_ (fun _ => ?_)
set_option maxHeartbeats 8000000 in
set_option maxRecDepth 100000 in
theorem pantilelaw04_MaskOf.calls (k : Nat) (A0 : Option Addr) (c0 : Nat) (l0 : List Int) (a1 : Int) (A2_0 : Option Addr) (c2_0 : Nat) (l2_0 : List Int) (A2_1 : Option Addr) (c2_1 : Nat) (l2_1 : List Int) (r : Bool) (w : World) (hr0 : Kd.C (Kd.int .u64) w A0 l0.length l0) (hc0 : l0.length ≤ c0) (hr2_0 : Kd.C (Kd.int .u64) w A2_0 l2_0.length l2_0) (hc2_0 : l2_0.length ≤ c2_0) (hr2_1 : Kd.C (Kd.int .u64) w A2_1 l2_1.length l2_1) (hc2_1 : l2_1.length ≤ c2_1) (hrt : r = true) (h : pantilelaw04_MaskOf.f k l0 a1 l2_0 l2_1 = some r) :
    Calls Try.prog 8 #[.slice A0 l0.length c0, .int .i64 a1, .agg #[.slice A2_0 l2_0.length c2_0, .slice A2_1 l2_1.length c2_1]] w fun e w' => e = .returned (.bool r) ∧ Below w.heap.size w w' := by
  have hu32 := Try.underlying32
  have hu52 := Try.underlying52
  have HRT := Aside0.mk hrt
  clear hrt
  have HR0 := Aside0.mk hr0
  have HC0 := Aside0.mk hc0
  clear hr0 hc0
  have HR2_0 := Aside0.mk hr2_0
  have HC2_0 := Aside0.mk hc2_0
  clear hr2_0 hc2_0
  have HR2_1 := Aside0.mk hr2_1
  have HC2_1 := Aside0.mk hc2_1
  clear hr2_1 hc2_1
  have HB := Aside0.mk (Below.refl w.heap.size w)
  have H : ((pantilelaw04_awake.f k).bind fun t222 => (if t222 = true then (if (l0.length : Int) > 40 then (pantilelaw04_MaskOf.j0 k l0 a1 true l2_0 l2_1) else (if (l2_0.length : Int) > 40 then (pantilelaw04_MaskOf.j0 k l0 a1 true l2_0 l2_1) else (pantilelaw04_MaskOf.j0 k l0 a1 (decide ((l2_1.length : Int) > 40)) l2_0 l2_1))) else (some false))) = some r := h
  clear h
  replace H := Option.bind_eq_some_iff.mp H
  obtain ⟨t222, A40, H⟩ := H
  replace H : (if t222 = true then (if (l0.length : Int) > 40 then (pantilelaw04_MaskOf.j0 k l0 a1 true l2_0 l2_1) else (if (l2_0.length : Int) > 40 then (pantilelaw04_MaskOf.j0 k l0 a1 true l2_0 l2_1) else (pantilelaw04_MaskOf.j0 k l0 a1 (decide ((l2_1.length : Int) > 40)) l2_0 l2_1))) else (some false)) = some r := H
  have A4 := Aside0.mk A40
  clear A40
  by_cases c5 : t222 = true
  · subst c5
    have H1 : (if (l0.length : Int) > 40 then (pantilelaw04_MaskOf.j0 k l0 a1 true l2_0 l2_1) else (if (l2_0.length : Int) > 40 then (pantilelaw04_MaskOf.j0 k l0 a1 true l2_0 l2_1) else (pantilelaw04_MaskOf.j0 k l0 a1 (decide ((l2_1.length : Int) > 40)) l2_0 l2_1))) = some r := by rw [if_pos rfl] at H; exact H
    clear H
    have H := H1
    clear H1
    have HC6 := Aside0.mk H
    clear H
    go_enter Try.func8, Try.ntmps8
    go_upto_region 3 with (first | ((with_reducible refine gate_dst (N := 5) rfl ?_); (try (refine gate_guard (by rfl) ?_; dsimp only)); refine box_event ?hg (N := 5) ?hd (cs := #[.slice A2_0 l2_0.length c2_0, .slice A2_1 l2_1.length c2_1]) (t := 32) ?hr ?_; (case hd => rfl); (case hg => rfl); (case hr => first | (go_simp; done) | (go_simp; rfl)); intro gb221 hg w7 hbox hb; have n0_ := Aside0.mk (below_step (by repeat (first | (with_reducible first | exact HB.out | apply below_alloc | apply pw_below_drewN | apply below_drew1) | exact HB.out)) hb); have n1_ := Aside0.mk (hbox); have n2_ := Aside0.mk ((by rw [hg]; exact (below_size (by repeat (first | (with_reducible first | exact HB.out | apply below_alloc | apply pw_below_drewN | apply below_drew1) | exact HB.out))) : w.heap.size ≤ gb221)); have n3_ := Aside0.mk ((by rw [hg]; exact (below_size (by repeat (first | (with_reducible first | exact HB.out | apply below_alloc | apply pw_below_drewN | apply below_drew1) | exact HB.out))) : w.heap.size ≤ gb221)); clear HB; have HB := n0_; have BK221 := n1_; have GW221 := n2_; have GE221 := n3_; clear n0_ n1_ n2_ n3_; clear hb hbox hg) | ((with_reducible refine gate_callee (f := 35) rfl ?_); refine goesL_ (some 13) rfl rfl Try.func35 (by kernel_rfl) rfl #[] rfl (by (try simp only [List.map_toArray, List.map_cons, List.map_nil]); first | done | rfl | (simp only [List.length_drop, List.length_take]; rfl)) ?_; (with_reducible refine (pantilelaw04_awake.calls k  true _ A4.out).mono ?_); rintro e w8 ⟨rfl, hb⟩; refine ⟨_, rfl, ?_⟩; have n0_ := Aside0.mk (blk_below (g := gb221) (o := .cells #[.slice A2_0 l2_0.length c2_0, .slice A2_1 l2_1.length c2_1] 32 (0, 0)) (by (with_reducible repeat (first | refine blk_drewN ?_ _ | refine blk_drew ?_ | refine blk_alloc ?_ _)); exact BK221.out) hb); have n1_ := Aside0.mk (below_step (by repeat (first | (with_reducible first | exact HB.out | apply below_alloc | apply pw_below_drewN | apply below_drew1 | refine below_set ?_ GE221.out) | exact HB.out)) hb); clear BK221; clear HB; have BK221 := n0_; have HB := n1_; clear n0_ n1_; (try clear hb); (try clear hb2); (try clear hk); (try clear hi)))
    (try simp only [Act.put, List.setIfInBounds_toArray, List.set_cons_zero, List.set_cons_succ])
    go_cut [29] (fun v29 wc => ∃ (kq : Nat) (x29_5 : Bool), v29 = .bool x29_5 ∧ Aside0 (pantilelaw04_MaskOf.j0 kq l0 a1 x29_5 l2_0 l2_1 = some r) ∧ Aside0 (kq ≤ k) ∧ Aside0 (wc.heap[gb221]? = some (.cells #[(.slice A2_0 l2_0.length c2_0), (.slice A2_1 l2_1.length c2_1)] 32 (0, 0))) ∧ Aside0 (Below w.heap.size w wc))
    case first =>
      have H := HC6.out
      clear HC6
      by_cases c9 : (l0.length : Int) > 40
      · rw [if_pos c9] at H
        have c9b0 : decide (40 < (l0.length : Int)) = true := decide_eq_true c9
        have c9b1 : decide (40 < l0.length) = true := decide_eq_true (by omega)
        clear c9
        (first | rw [c9b0] | (simp only [i64_w, i32_w]; rw [c9b0]) | skip)
        have H' := Aside0.mk H
        clear H
        go_wp2
        go_meet
        case rel => exact ⟨_, (true), (by first | rfl | (simp; done) | (simp [*]; done)), H', ⟨by first | omega | exact Nat.le_refl _⟩, ⟨by (with_reducible repeat (first | refine blk_drewN ?_ _ | refine blk_drew ?_ | refine blk_alloc ?_ _)); exact BK221.out⟩, ⟨by repeat (first | (with_reducible first | exact HB.out | apply below_alloc | apply pw_below_drewN | apply below_drew1 | refine below_set ?_ GE221.out) | exact HB.out)⟩⟩
      · rw [if_neg c9] at H
        have c9b0 : decide (40 < (l0.length : Int)) = false := decide_eq_false c9
        have c9b1 : decide (40 < l0.length) = false := decide_eq_false (by omega)
        clear c9
        (first | rw [c9b0] | (simp only [i64_w, i32_w]; rw [c9b0]) | skip)
        by_cases c10 : (l2_0.length : Int) > 40
        · rw [if_pos c10] at H
          have c10b0 : decide (40 < (l2_0.length : Int)) = true := decide_eq_true c10
          have c10b1 : decide (40 < l2_0.length) = true := decide_eq_true (by omega)
          clear c10
          have H' := Aside0.mk H
          clear H
          have hcz11_0 : w8.cell? ⟨gb221, 0, none⟩ = some (.slice A2_0 l2_0.length c2_0) := (blk_cell BK221.out 0).trans rfl
          have hcz11_1 : w8.cell? ⟨gb221, 1, none⟩ = some (.slice A2_1 l2_1.length c2_1) := (blk_cell BK221.out 1).trans rfl
          have hfz11_0 := blk_frozen BK221.out 0
          have hfz11_1 := blk_frozen BK221.out 1
          go_wp2
          go_meet
          case rel => exact ⟨_, (true), (by first | rfl | (simp; done) | (simp [*]; done)), H', ⟨by first | omega | exact Nat.le_refl _⟩, ⟨by (with_reducible repeat (first | refine blk_drewN ?_ _ | refine blk_drew ?_ | refine blk_alloc ?_ _)); exact BK221.out⟩, ⟨by repeat (first | (with_reducible first | exact HB.out | apply below_alloc | apply pw_below_drewN | apply below_drew1 | refine below_set ?_ GE221.out) | exact HB.out)⟩⟩
        · rw [if_neg c10] at H
          have c10b0 : decide (40 < (l2_0.length : Int)) = false := decide_eq_false c10
          have c10b1 : decide (40 < l2_0.length) = false := decide_eq_false (by omega)
          clear c10
          have H' := Aside0.mk H
          clear H
          have hcz12_0 : w8.cell? ⟨gb221, 0, none⟩ = some (.slice A2_0 l2_0.length c2_0) := (blk_cell BK221.out 0).trans rfl
          have hcz12_1 : w8.cell? ⟨gb221, 1, none⟩ = some (.slice A2_1 l2_1.length c2_1) := (blk_cell BK221.out 1).trans rfl
          have hfz12_0 := blk_frozen BK221.out 0
          have hfz12_1 := blk_frozen BK221.out 1
          go_wp2
          go_meet
          case rel => exact ⟨_, (decide ((l2_1.length : Int) > 40)), (by first | rfl | (simp; done) | (simp [*]; done)), H', ⟨by first | omega | exact Nat.le_refl _⟩, ⟨by (with_reducible repeat (first | refine blk_drewN ?_ _ | refine blk_drew ?_ | refine blk_alloc ?_ _)); exact BK221.out⟩, ⟨by repeat (first | (with_reducible first | exact HB.out | apply below_alloc | apply pw_below_drewN | apply below_drew1 | refine below_set ?_ GE221.out) | exact HB.out)⟩⟩
    case rest =>
      clear HC6
      try clear c1
      try clear c2
      try clear p2
      try clear c3
      try clear c5
      try clear c8
      try clear c9
      try clear c9b0
      try clear c9b1
      try clear c10
      try clear c10b0
      try clear c10b1
      try clear hcz11_0
      try clear hcz11_1
      try clear hcz12_0
      try clear hcz12_1
      try clear hfz11_0
      try clear hfz11_1
      try clear hfz12_0
      try clear hfz12_1
      obtain ⟨kq, x29_5, rfl, HA, HJ5, BK221, HB⟩ := hcut
      cases kq with
      | zero => exact absurd HA.out (by simp [pantilelaw04_MaskOf.j0])
      | succ kj5 =>
        have H := HA.out
        clear HA
        simp only [pantilelaw04_MaskOf.j0] at H
        by_cases c13 : x29_5 = true
        · subst c13
          have H1 : (some true) = some r := by rw [if_pos rfl] at H; exact H
          clear H
          have H := H1
          clear H1
          obtain rfl := Option.some.inj H
          go_wp2
          go_ret
          exact ⟨by first | rfl | (simp [errW_none, errW_some] <;> rfl) | (simp [*, errW_none, errW_some] <;> rfl), by repeat (first | (with_reducible first | exact HB.out | apply below_alloc | apply pw_below_drewN | apply below_drew1 | refine below_set ?_ GE221.out) | exact HB.out)⟩
        · replace c13 := Bool.eq_false_iff.mpr c13
          subst c13
          have H1 : ((mask_Of.f kj5 l0 a1 l2_0 l2_1).bind fun bt223 => ((mask_Whole.f kj5 l0 a1 l2_0 l2_1).bind fun bt228 => ((pantileref03_Right.f l2_0 l2_1).bind fun t230 => (if t230 = true then (pantilelaw04_MaskOf.j1 kj5 l0 a1 bt223.2.2.2 bt228.1 bt228.2 ((l0.length : Int) != (l2_0.length : Int)) l2_0 l2_1 bt223.1 bt223.2.1 bt223.2.2.1) else (pantilelaw04_MaskOf.j1 kj5 l0 a1 bt223.2.2.2 bt228.1 bt228.2 true l2_0 l2_1 bt223.1 bt223.2.1 bt223.2.2.1))))) = some r := by rw [if_neg (show ¬ (false = true) by decide)] at H; exact H
          clear H
          have H := H1
          clear H1
          replace H := Option.bind_eq_some_iff.mp H
          obtain ⟨⟨t223, t224, t225, t226⟩, A140, H⟩ := H
          replace H : ((mask_Whole.f kj5 l0 a1 l2_0 l2_1).bind fun bt228 => ((pantileref03_Right.f l2_0 l2_1).bind fun t230 => (if t230 = true then (pantilelaw04_MaskOf.j1 kj5 l0 a1 t226 bt228.1 bt228.2 ((l0.length : Int) != (l2_0.length : Int)) l2_0 l2_1 t223 t224 t225) else (pantilelaw04_MaskOf.j1 kj5 l0 a1 t226 bt228.1 bt228.2 true l2_0 l2_1 t223 t224 t225)))) = some r := H
          have A14 := Aside0.mk A140
          clear A140
          replace H := Option.bind_eq_some_iff.mp H
          obtain ⟨⟨t228, t229⟩, A150, H⟩ := H
          replace H : ((pantileref03_Right.f l2_0 l2_1).bind fun t230 => (if t230 = true then (pantilelaw04_MaskOf.j1 kj5 l0 a1 t226 t228 t229 ((l0.length : Int) != (l2_0.length : Int)) l2_0 l2_1 t223 t224 t225) else (pantilelaw04_MaskOf.j1 kj5 l0 a1 t226 t228 t229 true l2_0 l2_1 t223 t224 t225))) = some r := H
          have A15 := Aside0.mk A150
          clear A150
          have HC16 := Aside0.mk H
          clear H
          have hcz17_0 : wc.cell? ⟨gb221, 0, none⟩ = some (.slice A2_0 l2_0.length c2_0) := (blk_cell BK221.out 0).trans rfl
          have hcz17_1 : wc.cell? ⟨gb221, 1, none⟩ = some (.slice A2_1 l2_1.length c2_1) := (blk_cell BK221.out 1).trans rfl
          have hfz17_0 := blk_frozen BK221.out 0
          have hfz17_1 := blk_frozen BK221.out 1
          go_upto_region 7 with (first | ((with_reducible refine gate_callee (f := 38) rfl ?_); refine goesL_ (some 34) rfl rfl Try.func38 (by kernel_rfl) rfl #[.slice A0 l0.length c0, .int .i64 a1, .agg #[.slice A2_0 l2_0.length c2_0, .slice A2_1 l2_1.length c2_1]] rfl (by (try simp only [List.map_toArray, List.map_cons, List.map_nil]); first | done | rfl | (simp only [List.length_drop, List.length_take]; rfl)) ?_; (with_reducible refine (mask_Of.calls kj5 _ _ l0 a1 _ _ l2_0 _ _ l2_1 t223 t224 t225 t226 _ ?side1 ?side2 ?side3 ?side4 ?side5 ?side6 A14.out).mono ?_); (case side1 => repeat (first | exact (Kd.C_below HR0.out HB.out) | (with_reducible refine Kd.C_alloc ?_ _) | (with_reducible refine Kd.C_drewN ?_ _) | (with_reducible refine Kd.C_drew ?_))); (case side2 => exact HC0.out); (case side3 => repeat (first | exact (Kd.C_below HR2_0.out HB.out) | (with_reducible refine Kd.C_alloc ?_ _) | (with_reducible refine Kd.C_drewN ?_ _) | (with_reducible refine Kd.C_drew ?_))); (case side4 => exact HC2_0.out); (case side5 => repeat (first | exact (Kd.C_below HR2_1.out HB.out) | (with_reducible refine Kd.C_alloc ?_ _) | (with_reducible refine Kd.C_drewN ?_ _) | (with_reducible refine Kd.C_drew ?_))); (case side6 => exact HC2_1.out); rintro e w18 ⟨rfl, hb⟩; refine ⟨_, rfl, ?_⟩; have n0_ := Aside0.mk (blk_below (g := gb221) (o := .cells #[.slice A2_0 l2_0.length c2_0, .slice A2_1 l2_1.length c2_1] 32 (0, 0)) (by (with_reducible repeat (first | refine blk_drewN ?_ _ | refine blk_drew ?_ | refine blk_alloc ?_ _)); exact BK221.out) hb); have n1_ := Aside0.mk (below_step (by repeat (first | (with_reducible first | exact HB.out | apply below_alloc | apply pw_below_drewN | apply below_drew1 | refine below_set ?_ GE221.out) | exact HB.out)) hb); clear BK221; clear HB; have BK221 := n0_; have HB := n1_; clear n0_ n1_; (try clear hb); (try clear hb2); (try clear hk); (try clear hi)) | ((with_reducible refine gate_dst (N := 7) rfl ?_); (try (refine gate_guard (by rfl) ?_; dsimp only)); refine box_event ?hg (N := 7) ?hd (cs := #[.int .i64 0, .int .i64 0, .int .i64 0]) (t := 52) ?hr ?_; (case hd => rfl); (case hg => rfl); (case hr => first | (go_simp; done) | (go_simp; rfl)); intro gb227 hg w19 hbox hb; have n0_ := Aside0.mk (blk_below (g := gb221) (o := .cells #[.slice A2_0 l2_0.length c2_0, .slice A2_1 l2_1.length c2_1] 32 (0, 0)) (by (with_reducible repeat (first | refine blk_drewN ?_ _ | refine blk_drew ?_ | refine blk_alloc ?_ _)); exact BK221.out) hb); have n1_ := Aside0.mk (below_step (by repeat (first | (with_reducible first | exact HB.out | apply below_alloc | apply pw_below_drewN | apply below_drew1 | refine below_set ?_ GE221.out) | exact HB.out)) hb); have n2_ := Aside0.mk (hbox); have n3_ := Aside0.mk ((by rw [hg]; exact (below_size (by repeat (first | (with_reducible first | exact HB.out | apply below_alloc | apply pw_below_drewN | apply below_drew1 | refine below_set ?_ GE221.out) | exact HB.out))) : w.heap.size ≤ gb227)); have n4_ := Aside0.mk ((by rw [hg]; exact (below_size (by repeat (first | (with_reducible first | exact HB.out | apply below_alloc | apply pw_below_drewN | apply below_drew1 | refine below_set ?_ GE221.out) | exact HB.out))) : w.heap.size ≤ gb227)); have n5_ := Aside0.mk ((by rw [hg]; exact Nat.ne_of_lt (blk_lt (g := gb221) (o := .cells #[.slice A2_0 l2_0.length c2_0, .slice A2_1 l2_1.length c2_1] 32 (0, 0)) (by (with_reducible repeat (first | refine blk_drewN ?_ _ | refine blk_drew ?_ | refine blk_alloc ?_ _)); exact BK221.out)) : gb221 ≠ gb227)); have n6_ := Aside0.mk ((by rw [hg]; exact Nat.ne_of_gt (blk_lt (g := gb221) (o := .cells #[.slice A2_0 l2_0.length c2_0, .slice A2_1 l2_1.length c2_1] 32 (0, 0)) (by (with_reducible repeat (first | refine blk_drewN ?_ _ | refine blk_drew ?_ | refine blk_alloc ?_ _)); exact BK221.out)) : gb227 ≠ gb221)); clear BK221; clear HB; have BK221 := n0_; have HB := n1_; have BK227 := n2_; have GW227 := n3_; have GE227 := n4_; have NB221_227 := n5_; have NB227_221 := n6_; clear n0_ n1_ n2_ n3_ n4_ n5_ n6_; clear hb hbox hg; have hnb20 := NB227_221.out; have hnc20 := NB221_227.out; have hcz21_0 : w19.cell? ⟨gb227, 0, none⟩ = some (.int .i64 0) := (blk_cell BK227.out 0).trans rfl; have hcz21_1 : w19.cell? ⟨gb227, 1, none⟩ = some (.int .i64 0) := (blk_cell BK227.out 1).trans rfl; have hcz21_2 : w19.cell? ⟨gb227, 2, none⟩ = some (.int .i64 0) := (blk_cell BK227.out 2).trans rfl; have hfz21_0 := blk_frozen BK227.out 0; have hfz21_1 := blk_frozen BK227.out 1; have hfz21_2 := blk_frozen BK227.out 2; have hcz22_0 : w19.cell? ⟨gb221, 0, none⟩ = some (.slice A2_0 l2_0.length c2_0) := (blk_cell BK221.out 0).trans rfl; have hcz22_1 : w19.cell? ⟨gb221, 1, none⟩ = some (.slice A2_1 l2_1.length c2_1) := (blk_cell BK221.out 1).trans rfl; have hfz22_0 := blk_frozen BK221.out 0; have hfz22_1 := blk_frozen BK221.out 1) | ((with_reducible refine gate_callee (f := 48) rfl ?_); refine goesL_ (some 41) rfl rfl Try.func48 (by kernel_rfl) rfl #[.slice A0 l0.length c0, .int .i64 a1, .agg #[.slice A2_0 l2_0.length c2_0, .slice A2_1 l2_1.length c2_1]] rfl (by (try simp only [List.map_toArray, List.map_cons, List.map_nil]); first | done | rfl | (simp only [List.length_drop, List.length_take]; rfl)) ?_; (with_reducible refine (mask_Whole.calls kj5 _ _ l0 a1 _ _ l2_0 _ _ l2_1 t228 t229 _ ?side1 ?side2 ?side3 ?side4 ?side5 ?side6 A15.out).mono ?_); (case side1 => exact Kd.C_below HR0.out (by repeat (first | (with_reducible first | exact HB.out | apply below_alloc | apply pw_below_drewN | apply below_drew1 | refine below_set ?_ GE221.out | refine below_set ?_ GE227.out) | exact HB.out))); (case side2 => exact HC0.out); (case side3 => exact Kd.C_below HR2_0.out (by repeat (first | (with_reducible first | exact HB.out | apply below_alloc | apply pw_below_drewN | apply below_drew1 | refine below_set ?_ GE221.out | refine below_set ?_ GE227.out) | exact HB.out))); (case side4 => exact HC2_0.out); (case side5 => exact Kd.C_below HR2_1.out (by repeat (first | (with_reducible first | exact HB.out | apply below_alloc | apply pw_below_drewN | apply below_drew1 | refine below_set ?_ GE221.out | refine below_set ?_ GE227.out) | exact HB.out))); (case side6 => exact HC2_1.out); rintro e w23 ⟨rfl, hb⟩; refine ⟨_, rfl, ?_⟩; have n0_ := Aside0.mk (blk_below (g := gb221) (o := .cells #[.slice A2_0 l2_0.length c2_0, .slice A2_1 l2_1.length c2_1] 32 (0, 0)) (by (with_reducible repeat (first | refine blk_drewN ?_ _ | refine blk_drew ?_ | refine blk_alloc ?_ _)); refine blk_far ?_ NB221_227.out _; (with_reducible repeat (first | refine blk_drewN ?_ _ | refine blk_drew ?_ | refine blk_alloc ?_ _)); refine blk_far ?_ NB221_227.out _; (with_reducible repeat (first | refine blk_drewN ?_ _ | refine blk_drew ?_ | refine blk_alloc ?_ _)); refine blk_far ?_ NB221_227.out _; (with_reducible repeat (first | refine blk_drewN ?_ _ | refine blk_drew ?_ | refine blk_alloc ?_ _)); exact BK221.out) hb); have n1_ := Aside0.mk (blk_below (g := gb227) (o := .cells #[.int .i64 t223, .int .i64 t224, .int .i64 t225] 52 (0, 0)) (by (with_reducible repeat (first | refine blk_drewN ?_ _ | refine blk_drew ?_ | refine blk_alloc ?_ _)); refine blk_put (cs := #[.int .i64 t223, .int .i64 t224, .int .i64 0]) ?_ 2 _ rfl; (with_reducible repeat (first | refine blk_drewN ?_ _ | refine blk_drew ?_ | refine blk_alloc ?_ _)); refine blk_put (cs := #[.int .i64 t223, .int .i64 0, .int .i64 0]) ?_ 1 _ rfl; (with_reducible repeat (first | refine blk_drewN ?_ _ | refine blk_drew ?_ | refine blk_alloc ?_ _)); refine blk_put (cs := #[.int .i64 0, .int .i64 0, .int .i64 0]) ?_ 0 _ rfl; (with_reducible repeat (first | refine blk_drewN ?_ _ | refine blk_drew ?_ | refine blk_alloc ?_ _)); exact BK227.out) hb); have n2_ := Aside0.mk (below_step (by repeat (first | (with_reducible first | exact HB.out | apply below_alloc | apply pw_below_drewN | apply below_drew1 | refine below_set ?_ GE221.out | refine below_set ?_ GE227.out) | exact HB.out)) hb); clear BK221; clear BK227; clear HB; have BK221 := n0_; have BK227 := n1_; have HB := n2_; clear n0_ n1_ n2_; (try clear hb); (try clear hb2); (try clear hk); (try clear hi)))
          (try simp only [Act.put, List.setIfInBounds_toArray, List.set_cons_zero, List.set_cons_succ])
          go_cut [54] (fun v54 wc => ∃ (kq : Nat) (x54_15 : Bool), v54 = .bool x54_15 ∧ Aside0 (pantilelaw04_MaskOf.j1 kq l0 a1 t226 t228 t229 x54_15 l2_0 l2_1 t223 t224 t225 = some r) ∧ Aside0 (kq ≤ kj5) ∧ Aside0 (wc.heap[gb221]? = some (.cells #[(.slice A2_0 l2_0.length c2_0), (.slice A2_1 l2_1.length c2_1)] 32 (0, 0))) ∧ Aside0 (wc.heap[gb227]? = some (.cells #[.int .i64 t223, .int .i64 t224, .int .i64 t225] 52 (0, 0))) ∧ Aside0 (Below w.heap.size w wc))
          case first =>
            have H := HC16.out
            clear HC16
            replace H := Option.bind_eq_some_iff.mp H
            obtain ⟨t230, A240, H⟩ := H
            replace H : (if t230 = true then (pantilelaw04_MaskOf.j1 kj5 l0 a1 t226 t228 t229 ((l0.length : Int) != (l2_0.length : Int)) l2_0 l2_1 t223 t224 t225) else (pantilelaw04_MaskOf.j1 kj5 l0 a1 t226 t228 t229 true l2_0 l2_1 t223 t224 t225)) = some r := H
            have A24 := Aside0.mk A240
            clear A240
            by_cases c25 : t230 = true
            · subst c25
              have H1 : (pantilelaw04_MaskOf.j1 kj5 l0 a1 t226 t228 t229 ((l0.length : Int) != (l2_0.length : Int)) l2_0 l2_1 t223 t224 t225) = some r := by rw [if_pos rfl] at H; exact H
              clear H
              have H := H1
              clear H1
              have H' := Aside0.mk H
              clear H
              have hnb26 := NB221_227.out
              have hnc26 := NB227_221.out
              have hcz27_0 : w23.cell? ⟨gb221, 0, none⟩ = some (.slice A2_0 l2_0.length c2_0) := (blk_cell BK221.out 0).trans rfl
              have hcz27_1 : w23.cell? ⟨gb221, 1, none⟩ = some (.slice A2_1 l2_1.length c2_1) := (blk_cell BK221.out 1).trans rfl
              have hfz27_0 := blk_frozen BK221.out 0
              have hfz27_1 := blk_frozen BK221.out 1
              go_wp2_with (first | ((with_reducible refine gate_callee (f := 36) rfl ?_); refine goesL_ (some 45) rfl rfl Try.func36 (by kernel_rfl) rfl #[.agg #[.slice A2_0 l2_0.length c2_0, .slice A2_1 l2_1.length c2_1]] rfl (by (try simp only [List.map_toArray, List.map_cons, List.map_nil]); first | done | rfl | (simp only [List.length_drop, List.length_take]; rfl)) ?_; (with_reducible refine (pantileref03_Right.calls _ _ l2_0 _ _ l2_1 true _ ?side1 ?side2 ?side3 ?side4 A24.out).mono ?_); (case side1 => repeat (first | exact (Kd.C_below HR2_0.out HB.out) | (with_reducible refine Kd.C_alloc ?_ _) | (with_reducible refine Kd.C_drewN ?_ _) | (with_reducible refine Kd.C_drew ?_))); (case side2 => exact HC2_0.out); (case side3 => repeat (first | exact (Kd.C_below HR2_1.out HB.out) | (with_reducible refine Kd.C_alloc ?_ _) | (with_reducible refine Kd.C_drewN ?_ _) | (with_reducible refine Kd.C_drew ?_))); (case side4 => exact HC2_1.out); rintro e w28 ⟨rfl, hb⟩; refine ⟨_, rfl, ?_⟩; have n0_ := Aside0.mk (blk_below (g := gb221) (o := .cells #[.slice A2_0 l2_0.length c2_0, .slice A2_1 l2_1.length c2_1] 32 (0, 0)) (by (with_reducible repeat (first | refine blk_drewN ?_ _ | refine blk_drew ?_ | refine blk_alloc ?_ _)); exact BK221.out) hb); have n1_ := Aside0.mk (blk_below (g := gb227) (o := .cells #[.int .i64 t223, .int .i64 t224, .int .i64 t225] 52 (0, 0)) (by (with_reducible repeat (first | refine blk_drewN ?_ _ | refine blk_drew ?_ | refine blk_alloc ?_ _)); exact BK227.out) hb); have n2_ := Aside0.mk (below_step (by repeat (first | (with_reducible first | exact HB.out | apply below_alloc | apply pw_below_drewN | apply below_drew1 | refine below_set ?_ GE221.out | refine below_set ?_ GE227.out) | exact HB.out)) hb); clear BK221; clear BK227; clear HB; have BK221 := n0_; have BK227 := n1_; have HB := n2_; clear n0_ n1_ n2_; (try clear hb); (try clear hb2); (try clear hk); (try clear hi); have hcz29_0 : w28.cell? ⟨gb221, 0, none⟩ = some (.slice A2_0 l2_0.length c2_0) := (blk_cell BK221.out 0).trans rfl; have hcz29_1 : w28.cell? ⟨gb221, 1, none⟩ = some (.slice A2_1 l2_1.length c2_1) := (blk_cell BK221.out 1).trans rfl; have hfz29_0 := blk_frozen BK221.out 0; have hfz29_1 := blk_frozen BK221.out 1))
              go_meet
              case rel => exact ⟨_, (((l0.length : Int) != (l2_0.length : Int))), (by first | rfl | (simp; done) | (simp [*]; done)), H', ⟨by have := HJ5.out; first | omega | exact Nat.le_refl _⟩, ⟨by (with_reducible repeat (first | refine blk_drewN ?_ _ | refine blk_drew ?_ | refine blk_alloc ?_ _)); exact BK221.out⟩, ⟨by (with_reducible repeat (first | refine blk_drewN ?_ _ | refine blk_drew ?_ | refine blk_alloc ?_ _)); exact BK227.out⟩, ⟨by repeat (first | (with_reducible first | exact HB.out | apply below_alloc | apply pw_below_drewN | apply below_drew1 | refine below_set ?_ GE221.out | refine below_set ?_ GE227.out) | exact HB.out)⟩⟩
            · replace c25 := Bool.eq_false_iff.mpr c25
              subst c25
              have H1 : (pantilelaw04_MaskOf.j1 kj5 l0 a1 t226 t228 t229 true l2_0 l2_1 t223 t224 t225) = some r := by rw [if_neg (show ¬ (false = true) by decide)] at H; exact H
              clear H
              have H := H1
              clear H1
              have H' := Aside0.mk H
              clear H
              have hnb30 := NB221_227.out
              have hnc30 := NB227_221.out
              have hcz31_0 : w23.cell? ⟨gb221, 0, none⟩ = some (.slice A2_0 l2_0.length c2_0) := (blk_cell BK221.out 0).trans rfl
              have hcz31_1 : w23.cell? ⟨gb221, 1, none⟩ = some (.slice A2_1 l2_1.length c2_1) := (blk_cell BK221.out 1).trans rfl
              have hfz31_0 := blk_frozen BK221.out 0
              have hfz31_1 := blk_frozen BK221.out 1
              go_wp2_with (first | ((with_reducible refine gate_callee (f := 36) rfl ?_); refine goesL_ (some 45) rfl rfl Try.func36 (by kernel_rfl) rfl #[.agg #[.slice A2_0 l2_0.length c2_0, .slice A2_1 l2_1.length c2_1]] rfl (by (try simp only [List.map_toArray, List.map_cons, List.map_nil]); first | done | rfl | (simp only [List.length_drop, List.length_take]; rfl)) ?_; (with_reducible refine (pantileref03_Right.calls _ _ l2_0 _ _ l2_1 false _ ?side1 ?side2 ?side3 ?side4 A24.out).mono ?_); (case side1 => repeat (first | exact (Kd.C_below HR2_0.out HB.out) | (with_reducible refine Kd.C_alloc ?_ _) | (with_reducible refine Kd.C_drewN ?_ _) | (with_reducible refine Kd.C_drew ?_))); (case side2 => exact HC2_0.out); (case side3 => repeat (first | exact (Kd.C_below HR2_1.out HB.out) | (with_reducible refine Kd.C_alloc ?_ _) | (with_reducible refine Kd.C_drewN ?_ _) | (with_reducible refine Kd.C_drew ?_))); (case side4 => exact HC2_1.out); rintro e w32 ⟨rfl, hb⟩; refine ⟨_, rfl, ?_⟩; have n0_ := Aside0.mk (blk_below (g := gb221) (o := .cells #[.slice A2_0 l2_0.length c2_0, .slice A2_1 l2_1.length c2_1] 32 (0, 0)) (by (with_reducible repeat (first | refine blk_drewN ?_ _ | refine blk_drew ?_ | refine blk_alloc ?_ _)); exact BK221.out) hb); have n1_ := Aside0.mk (blk_below (g := gb227) (o := .cells #[.int .i64 t223, .int .i64 t224, .int .i64 t225] 52 (0, 0)) (by (with_reducible repeat (first | refine blk_drewN ?_ _ | refine blk_drew ?_ | refine blk_alloc ?_ _)); exact BK227.out) hb); have n2_ := Aside0.mk (below_step (by repeat (first | (with_reducible first | exact HB.out | apply below_alloc | apply pw_below_drewN | apply below_drew1 | refine below_set ?_ GE221.out | refine below_set ?_ GE227.out) | exact HB.out)) hb); clear BK221; clear BK227; clear HB; have BK221 := n0_; have BK227 := n1_; have HB := n2_; clear n0_ n1_ n2_; (try clear hb); (try clear hb2); (try clear hk); (try clear hi)))
              go_meet
              case rel => exact ⟨_, (true), (by first | rfl | (simp; done) | (simp [*]; done)), H', ⟨by have := HJ5.out; first | omega | exact Nat.le_refl _⟩, ⟨by (with_reducible repeat (first | refine blk_drewN ?_ _ | refine blk_drew ?_ | refine blk_alloc ?_ _)); exact BK221.out⟩, ⟨by (with_reducible repeat (first | refine blk_drewN ?_ _ | refine blk_drew ?_ | refine blk_alloc ?_ _)); exact BK227.out⟩, ⟨by repeat (first | (with_reducible first | exact HB.out | apply below_alloc | apply pw_below_drewN | apply below_drew1 | refine below_set ?_ GE221.out | refine below_set ?_ GE227.out) | exact HB.out)⟩⟩
          case rest =>
            clear HC16
            try clear c1
            try clear c2
            try clear p2
            try clear c3
            try clear c4
            try clear c5
            try clear c8
            try clear c9
            try clear c9b0
            try clear c9b1
            try clear c10
            try clear c10b0
            try clear c10b1
            try clear c13
            try clear c20
            try clear c25
            try clear c26
            try clear c30
            try clear hcz11_0
            try clear hcz11_1
            try clear hcz12_0
            try clear hcz12_1
            try clear hcz17_0
            try clear hcz17_1
            try clear hcz21_0
            try clear hcz21_1
            try clear hcz21_2
            try clear hcz22_0
            try clear hcz22_1
            try clear hcz27_0
            try clear hcz27_1
            try clear hcz29_0
            try clear hcz29_1
            try clear hcz31_0
            try clear hcz31_1
            try clear hfz11_0
            try clear hfz11_1
            try clear hfz12_0
            try clear hfz12_1
            try clear hfz17_0
            try clear hfz17_1
            try clear hfz21_0
            try clear hfz21_1
            try clear hfz21_2
            try clear hfz22_0
            try clear hfz22_1
            try clear hfz27_0
            try clear hfz27_1
            try clear hfz29_0
            try clear hfz29_1
            try clear hfz31_0
            try clear hfz31_1
            try clear p2
            obtain ⟨kq, x54_15, rfl, HA, HJ15, BK221, BK227, HB⟩ := hcut
            cases kq with
            | zero => exact absurd HA.out (by simp [pantilelaw04_MaskOf.j1])
            | succ kj15 =>
              have H := HA.out
              clear HA
              simp only [pantilelaw04_MaskOf.j1] at H
              by_cases c33 : x54_15 = true
              · subst c33
                have H1 : (if (t223 == 0 && (t224 == 0 && (t225 == 0))) = true then (if t226 = 2 then (if t228 = true then (some false) else (some (t229 == 2))) else (some false)) else (some false)) = some r := by rw [if_pos rfl] at H; exact H
                clear H
                have H := H1
                clear H1
                by_cases c34 : (t223 == 0 && (t224 == 0 && (t225 == 0))) = true
                · rw [if_pos c34] at H
                  have c34b0 : (t223 == 0 && (t224 == 0 && (t225 == 0))) = true := c34
                  (try (have c34b1 : decide (t223 = 0 && (t224 == 0 && (t225 == 0))) = true := by simpa using c34))
                  (try (have c34b2 : (t223 == 0 && (t224 == 0 && (t225 == 0))) = true := by simpa using c34))
                  clear c34
                  by_cases c35 : t226 = 2
                  · rw [if_pos c35] at H
                    have c35b0 : (t226 == 2) = true := beq_iff_eq.mpr c35
                    have c35b1 : (t226 != 2) = false := bne_eq_false_iff_eq.mpr c35
                    clear c35
                    by_cases c36 : t228 = true
                    · subst c36
                      have H1 : (some false) = some r := by rw [if_pos rfl] at H; exact H
                      clear H
                      have H := H1
                      clear H1
                      exact Bool.noConfusion ((Option.some.inj H).trans HRT.out)
                    · replace c36 := Bool.eq_false_iff.mpr c36
                      subst c36
                      have H1 : (some (t229 == 2)) = some r := by rw [if_neg (show ¬ (false = true) by decide)] at H; exact H
                      clear H
                      have H := H1
                      clear H1
                      obtain rfl := Option.some.inj H
                      have hnb37 := NB227_221.out
                      have hnc37 := NB221_227.out
                      have hcz38_0 : wc.cell? ⟨gb227, 0, none⟩ = some (.int .i64 t223) := (blk_cell BK227.out 0).trans rfl
                      have hcz38_1 : wc.cell? ⟨gb227, 1, none⟩ = some (.int .i64 t224) := (blk_cell BK227.out 1).trans rfl
                      have hcz38_2 : wc.cell? ⟨gb227, 2, none⟩ = some (.int .i64 t225) := (blk_cell BK227.out 2).trans rfl
                      have hfz38_0 := blk_frozen BK227.out 0
                      have hfz38_1 := blk_frozen BK227.out 1
                      have hfz38_2 := blk_frozen BK227.out 2
                      go_wp2
                      go_ret
                      exact ⟨by first | rfl | (simp [errW_none, errW_some] <;> rfl) | (simp [*, errW_none, errW_some] <;> rfl), by repeat (first | (with_reducible first | exact HB.out | apply below_alloc | apply pw_below_drewN | apply below_drew1 | refine below_set ?_ GE221.out | refine below_set ?_ GE227.out) | exact HB.out)⟩
                  · rw [if_neg c35] at H
                    have c35b0 : (t226 == 2) = false := beq_eq_false_iff_ne.mpr c35
                    have c35b1 : (t226 != 2) = true := bne_iff_ne.mpr c35
                    exact Bool.noConfusion ((Option.some.inj H).trans HRT.out)
                · rw [if_neg c34] at H
                  have c34b0 : (t223 == 0 && (t224 == 0 && (t225 == 0))) = false := by simpa using c34
                  (try (have c34b1 : decide (t223 = 0 && (t224 == 0 && (t225 == 0))) = false := by simpa using c34))
                  (try (have c34b2 : (t223 == 0 && (t224 == 0 && (t225 == 0))) = false := by simpa using c34))
                  (try (have c34b3 : ¬ (t223 = 0 && (t224 == 0 && (t225 == 0))) := by simpa using c34))
                  clear c34
                  exact Bool.noConfusion ((Option.some.inj H).trans HRT.out)
              · replace c33 := Bool.eq_false_iff.mpr c33
                subst c33
                have H1 : (if a1 < (-1) then (pantilelaw04_MaskOf.j2 kj15 l0 a1 t226 t228 t229 true l2_0 l2_1 t223 t224 t225) else (pantilelaw04_MaskOf.j2 kj15 l0 a1 t226 t228 t229 (decide (a1 > 63)) l2_0 l2_1 t223 t224 t225)) = some r := by rw [if_neg (show ¬ (false = true) by decide)] at H; exact H
                clear H
                have H := H1
                clear H1
                have HC39 := Aside0.mk H
                clear H
                go_upto_region 9 with (fail)
                go_cut [75] (fun v75 wc => ∃ (kq : Nat) (x75_38 : Bool), v75 = .bool x75_38 ∧ Aside0 (pantilelaw04_MaskOf.j2 kq l0 a1 t226 t228 t229 x75_38 l2_0 l2_1 t223 t224 t225 = some r) ∧ Aside0 (kq ≤ kj15) ∧ Aside0 (wc.heap[gb221]? = some (.cells #[(.slice A2_0 l2_0.length c2_0), (.slice A2_1 l2_1.length c2_1)] 32 (0, 0))) ∧ Aside0 (wc.heap[gb227]? = some (.cells #[.int .i64 t223, .int .i64 t224, .int .i64 t225] 52 (0, 0))) ∧ Aside0 (Below w.heap.size w wc))
                case first =>
                  have H := HC39.out
                  clear HC39
                  by_cases c40 : a1 < (-1)
                  · rw [if_pos c40] at H
                    have c40b0 : decide (a1 < (-1)) = true := decide_eq_true c40
                    clear c40
                    (first | rw [c40b0] | (simp only [i64_w, i32_w]; rw [c40b0]) | skip)
                    have H' := Aside0.mk H
                    clear H
                    go_wp2
                    go_meet
                    case rel => exact ⟨_, (true), (by first | rfl | (simp; done) | (simp [*]; done)), H', ⟨by have := HJ5.out; have := HJ15.out; first | omega | exact Nat.le_refl _⟩, ⟨by (with_reducible repeat (first | refine blk_drewN ?_ _ | refine blk_drew ?_ | refine blk_alloc ?_ _)); exact BK221.out⟩, ⟨by (with_reducible repeat (first | refine blk_drewN ?_ _ | refine blk_drew ?_ | refine blk_alloc ?_ _)); exact BK227.out⟩, ⟨by repeat (first | (with_reducible first | exact HB.out | apply below_alloc | apply pw_below_drewN | apply below_drew1 | refine below_set ?_ GE221.out | refine below_set ?_ GE227.out) | exact HB.out)⟩⟩
                  · rw [if_neg c40] at H
                    have c40b0 : decide (a1 < (-1)) = false := decide_eq_false c40
                    clear c40
                    (first | rw [c40b0] | (simp only [i64_w, i32_w]; rw [c40b0]) | skip)
                    have H' := Aside0.mk H
                    clear H
                    go_wp2
                    go_meet
                    case rel => exact ⟨_, (decide (a1 > 63)), (by first | rfl | (simp; done) | (simp [*]; done)), H', ⟨by have := HJ5.out; have := HJ15.out; first | omega | exact Nat.le_refl _⟩, ⟨by (with_reducible repeat (first | refine blk_drewN ?_ _ | refine blk_drew ?_ | refine blk_alloc ?_ _)); exact BK221.out⟩, ⟨by (with_reducible repeat (first | refine blk_drewN ?_ _ | refine blk_drew ?_ | refine blk_alloc ?_ _)); exact BK227.out⟩, ⟨by repeat (first | (with_reducible first | exact HB.out | apply below_alloc | apply pw_below_drewN | apply below_drew1 | refine below_set ?_ GE221.out | refine below_set ?_ GE227.out) | exact HB.out)⟩⟩
                case rest =>
                  clear HC39
                  try clear c1
                  try clear c2
                  try clear p2
                  try clear c3
                  try clear c4
                  try clear c5
                  try clear c8
                  try clear c9
                  try clear c9b0
                  try clear c9b1
                  try clear c10
                  try clear c10b0
                  try clear c10b1
                  try clear c13
                  try clear c20
                  try clear c25
                  try clear c26
                  try clear c30
                  try clear c33
                  try clear c34
                  try clear c34b0
                  try clear c34b1
                  try clear c34b2
                  try clear c35
                  try clear c35b0
                  try clear c35b1
                  try clear c36
                  try clear c37
                  try clear c38
                  try clear c40
                  try clear c40b0
                  try clear hcz11_0
                  try clear hcz11_1
                  try clear hcz12_0
                  try clear hcz12_1
                  try clear hcz17_0
                  try clear hcz17_1
                  try clear hcz21_0
                  try clear hcz21_1
                  try clear hcz21_2
                  try clear hcz22_0
                  try clear hcz22_1
                  try clear hcz27_0
                  try clear hcz27_1
                  try clear hcz29_0
                  try clear hcz29_1
                  try clear hcz31_0
                  try clear hcz31_1
                  try clear hcz38_0
                  try clear hcz38_1
                  try clear hcz38_2
                  try clear hfz11_0
                  try clear hfz11_1
                  try clear hfz12_0
                  try clear hfz12_1
                  try clear hfz17_0
                  try clear hfz17_1
                  try clear hfz21_0
                  try clear hfz21_1
                  try clear hfz21_2
                  try clear hfz22_0
                  try clear hfz22_1
                  try clear hfz27_0
                  try clear hfz27_1
                  try clear hfz29_0
                  try clear hfz29_1
                  try clear hfz31_0
                  try clear hfz31_1
                  try clear hfz38_0
                  try clear hfz38_1
                  try clear hfz38_2
                  try clear p2
                  obtain ⟨kq, x75_38, rfl, HA, HJ38, BK221, BK227, HB⟩ := hcut
                  cases kq with
                  | zero => exact absurd HA.out (by simp [pantilelaw04_MaskOf.j2])
                  | succ kj38 =>
                    have H := HA.out
                    clear HA
                    simp only [pantilelaw04_MaskOf.j2] at H
                    by_cases c41 : x75_38 = true
                    · subst c41
                      have H1 : (if (t223 == 0 && (t224 == 0 && (t225 == 0))) = true then (if t226 = 3 then (if t228 = true then (some false) else (some (t229 == 3))) else (some false)) else (some false)) = some r := by rw [if_pos rfl] at H; exact H
                      clear H
                      have H := H1
                      clear H1
                      by_cases c42 : (t223 == 0 && (t224 == 0 && (t225 == 0))) = true
                      · rw [if_pos c42] at H
                        have c42b0 : (t223 == 0 && (t224 == 0 && (t225 == 0))) = true := c42
                        (try (have c42b1 : decide (t223 = 0 && (t224 == 0 && (t225 == 0))) = true := by simpa using c42))
                        (try (have c42b2 : (t223 == 0 && (t224 == 0 && (t225 == 0))) = true := by simpa using c42))
                        clear c42
                        by_cases c43 : t226 = 3
                        · rw [if_pos c43] at H
                          have c43b0 : (t226 == 3) = true := beq_iff_eq.mpr c43
                          have c43b1 : (t226 != 3) = false := bne_eq_false_iff_eq.mpr c43
                          clear c43
                          by_cases c44 : t228 = true
                          · subst c44
                            have H1 : (some false) = some r := by rw [if_pos rfl] at H; exact H
                            clear H
                            have H := H1
                            clear H1
                            exact Bool.noConfusion ((Option.some.inj H).trans HRT.out)
                          · replace c44 := Bool.eq_false_iff.mpr c44
                            subst c44
                            have H1 : (some (t229 == 3)) = some r := by rw [if_neg (show ¬ (false = true) by decide)] at H; exact H
                            clear H
                            have H := H1
                            clear H1
                            obtain rfl := Option.some.inj H
                            have hnb45 := NB227_221.out
                            have hnc45 := NB221_227.out
                            have hcz46_0 : wc.cell? ⟨gb227, 0, none⟩ = some (.int .i64 t223) := (blk_cell BK227.out 0).trans rfl
                            have hcz46_1 : wc.cell? ⟨gb227, 1, none⟩ = some (.int .i64 t224) := (blk_cell BK227.out 1).trans rfl
                            have hcz46_2 : wc.cell? ⟨gb227, 2, none⟩ = some (.int .i64 t225) := (blk_cell BK227.out 2).trans rfl
                            have hfz46_0 := blk_frozen BK227.out 0
                            have hfz46_1 := blk_frozen BK227.out 1
                            have hfz46_2 := blk_frozen BK227.out 2
                            go_wp2
                            go_ret
                            exact ⟨by first | rfl | (simp [errW_none, errW_some] <;> rfl) | (simp [*, errW_none, errW_some] <;> rfl), by repeat (first | (with_reducible first | exact HB.out | apply below_alloc | apply pw_below_drewN | apply below_drew1 | refine below_set ?_ GE221.out | refine below_set ?_ GE227.out) | exact HB.out)⟩
                        · rw [if_neg c43] at H
                          have c43b0 : (t226 == 3) = false := beq_eq_false_iff_ne.mpr c43
                          have c43b1 : (t226 != 3) = true := bne_iff_ne.mpr c43
                          exact Bool.noConfusion ((Option.some.inj H).trans HRT.out)
                      · rw [if_neg c42] at H
                        have c42b0 : (t223 == 0 && (t224 == 0 && (t225 == 0))) = false := by simpa using c42
                        (try (have c42b1 : decide (t223 = 0 && (t224 == 0 && (t225 == 0))) = false := by simpa using c42))
                        (try (have c42b2 : (t223 == 0 && (t224 == 0 && (t225 == 0))) = false := by simpa using c42))
                        (try (have c42b3 : ¬ (t223 = 0 && (t224 == 0 && (t225 == 0))) := by simpa using c42))
                        clear c42
                        exact Bool.noConfusion ((Option.some.inj H).trans HRT.out)
                    · replace c41 := Bool.eq_false_iff.mpr c41
                      subst c41
                      have H1 : (if t229 = 0 then ((pantileref04_Whole.f kj38 l0 a1 l2_0 l2_1).bind fun t231 => (pantilelaw04_MaskOf.j3 kj38 l0 a1 t226 (t228 != t231) l2_0 l2_1 t223 t224 t225)) else (pantilelaw04_MaskOf.j3 kj38 l0 a1 t226 true l2_0 l2_1 t223 t224 t225)) = some r := by rw [if_neg (show ¬ (false = true) by decide)] at H; exact H
                      clear H
                      have H := H1
                      clear H1
                      have HC47 := Aside0.mk H
                      clear H
                      go_upto_region 11 with (fail)
                      go_cut [100] (fun v100 wc => ∃ (kq : Nat) (x100_46 : Bool), v100 = .bool x100_46 ∧ Aside0 (pantilelaw04_MaskOf.j3 kq l0 a1 t226 x100_46 l2_0 l2_1 t223 t224 t225 = some r) ∧ Aside0 (kq ≤ kj38) ∧ Aside0 (wc.heap[gb221]? = some (.cells #[(.slice A2_0 l2_0.length c2_0), (.slice A2_1 l2_1.length c2_1)] 32 (0, 0))) ∧ Aside0 (wc.heap[gb227]? = some (.cells #[.int .i64 t223, .int .i64 t224, .int .i64 t225] 52 (0, 0))) ∧ Aside0 (Below w.heap.size w wc))
                      case first =>
                        have H := HC47.out
                        clear HC47
                        by_cases c48 : t229 = 0
                        · rw [if_pos c48] at H
                          have c48b0 : (t229 == 0) = true := beq_iff_eq.mpr c48
                          have c48b1 : (t229 != 0) = false := bne_eq_false_iff_eq.mpr c48
                          clear c48
                          (first | rw [c48b0] | (simp only [i64_w, i32_w]; rw [c48b0]) | skip)
                          replace H := Option.bind_eq_some_iff.mp H
                          obtain ⟨t231, A490, H⟩ := H
                          replace H : (pantilelaw04_MaskOf.j3 kj38 l0 a1 t226 (t228 != t231) l2_0 l2_1 t223 t224 t225) = some r := H
                          have A49 := Aside0.mk A490
                          clear A490
                          have H' := Aside0.mk H
                          clear H
                          have hnb50 := NB221_227.out
                          have hnc50 := NB227_221.out
                          have hcz51_0 : wc.cell? ⟨gb221, 0, none⟩ = some (.slice A2_0 l2_0.length c2_0) := (blk_cell BK221.out 0).trans rfl
                          have hcz51_1 : wc.cell? ⟨gb221, 1, none⟩ = some (.slice A2_1 l2_1.length c2_1) := (blk_cell BK221.out 1).trans rfl
                          have hfz51_0 := blk_frozen BK221.out 0
                          have hfz51_1 := blk_frozen BK221.out 1
                          go_wp2_with (first | (go_at_call 49; (with_reducible refine (pantileref04_Whole.calls kj38 _ _ l0 a1 _ _ l2_0 _ _ l2_1 t231 _ ?side1 ?side2 ?side3 ?side4 ?side5 ?side6 A49.out).mono ?_); (case side1 => repeat (first | exact (Kd.C_below HR0.out HB.out) | (with_reducible refine Kd.C_alloc ?_ _) | (with_reducible refine Kd.C_drewN ?_ _) | (with_reducible refine Kd.C_drew ?_))); (case side2 => exact HC0.out); (case side3 => repeat (first | exact (Kd.C_below HR2_0.out HB.out) | (with_reducible refine Kd.C_alloc ?_ _) | (with_reducible refine Kd.C_drewN ?_ _) | (with_reducible refine Kd.C_drew ?_))); (case side4 => exact HC2_0.out); (case side5 => repeat (first | exact (Kd.C_below HR2_1.out HB.out) | (with_reducible refine Kd.C_alloc ?_ _) | (with_reducible refine Kd.C_drewN ?_ _) | (with_reducible refine Kd.C_drew ?_))); (case side6 => exact HC2_1.out); rintro e w52 ⟨rfl, hb⟩; have n0_ := Aside0.mk (blk_below (g := gb221) (o := .cells #[.slice A2_0 l2_0.length c2_0, .slice A2_1 l2_1.length c2_1] 32 (0, 0)) (by (with_reducible repeat (first | refine blk_drewN ?_ _ | refine blk_drew ?_ | refine blk_alloc ?_ _)); exact BK221.out) hb); have n1_ := Aside0.mk (blk_below (g := gb227) (o := .cells #[.int .i64 t223, .int .i64 t224, .int .i64 t225] 52 (0, 0)) (by (with_reducible repeat (first | refine blk_drewN ?_ _ | refine blk_drew ?_ | refine blk_alloc ?_ _)); exact BK227.out) hb); have n2_ := Aside0.mk (below_step (by repeat (first | (with_reducible first | exact HB.out | apply below_alloc | apply pw_below_drewN | apply below_drew1 | refine below_set ?_ GE221.out | refine below_set ?_ GE227.out) | exact HB.out)) hb); clear BK221; clear BK227; clear HB; have BK221 := n0_; have BK227 := n1_; have HB := n2_; clear n0_ n1_ n2_; (try clear hb); (try clear hb2); (try clear hk); (try clear hi)))
                          go_meet
                          case rel => exact ⟨_, ((t228 != t231)), (by first | rfl | (simp; done) | (simp [*]; done)), H', ⟨by have := HJ5.out; have := HJ15.out; have := HJ38.out; first | omega | exact Nat.le_refl _⟩, ⟨by (with_reducible repeat (first | refine blk_drewN ?_ _ | refine blk_drew ?_ | refine blk_alloc ?_ _)); exact BK221.out⟩, ⟨by (with_reducible repeat (first | refine blk_drewN ?_ _ | refine blk_drew ?_ | refine blk_alloc ?_ _)); exact BK227.out⟩, ⟨by repeat (first | (with_reducible first | exact HB.out | apply below_alloc | apply pw_below_drewN | apply below_drew1 | refine below_set ?_ GE221.out | refine below_set ?_ GE227.out) | exact HB.out)⟩⟩
                        · rw [if_neg c48] at H
                          have c48b0 : (t229 == 0) = false := beq_eq_false_iff_ne.mpr c48
                          have c48b1 : (t229 != 0) = true := bne_iff_ne.mpr c48
                          (first | rw [c48b0] | (simp only [i64_w, i32_w]; rw [c48b0]) | skip)
                          have H' := Aside0.mk H
                          clear H
                          go_wp2
                          go_meet
                          case rel => exact ⟨_, (true), (by first | rfl | (simp; done) | (simp [*]; done)), H', ⟨by have := HJ5.out; have := HJ15.out; have := HJ38.out; first | omega | exact Nat.le_refl _⟩, ⟨by (with_reducible repeat (first | refine blk_drewN ?_ _ | refine blk_drew ?_ | refine blk_alloc ?_ _)); exact BK221.out⟩, ⟨by (with_reducible repeat (first | refine blk_drewN ?_ _ | refine blk_drew ?_ | refine blk_alloc ?_ _)); exact BK227.out⟩, ⟨by repeat (first | (with_reducible first | exact HB.out | apply below_alloc | apply pw_below_drewN | apply below_drew1 | refine below_set ?_ GE221.out | refine below_set ?_ GE227.out) | exact HB.out)⟩⟩
                      case rest =>
                        clear HC47
                        try clear c1
                        try clear c2
                        try clear p2
                        try clear c3
                        try clear c4
                        try clear c5
                        try clear c8
                        try clear c9
                        try clear c9b0
                        try clear c9b1
                        try clear c10
                        try clear c10b0
                        try clear c10b1
                        try clear c13
                        try clear c20
                        try clear c25
                        try clear c26
                        try clear c30
                        try clear c33
                        try clear c34
                        try clear c34b0
                        try clear c34b1
                        try clear c34b2
                        try clear c35
                        try clear c35b0
                        try clear c35b1
                        try clear c36
                        try clear c37
                        try clear c38
                        try clear c40
                        try clear c40b0
                        try clear c41
                        try clear c42
                        try clear c42b0
                        try clear c42b1
                        try clear c42b2
                        try clear c43
                        try clear c43b0
                        try clear c43b1
                        try clear c44
                        try clear c45
                        try clear c48
                        try clear c48b0
                        try clear c48b1
                        try clear c50
                        try clear hcz11_0
                        try clear hcz11_1
                        try clear hcz12_0
                        try clear hcz12_1
                        try clear hcz17_0
                        try clear hcz17_1
                        try clear hcz21_0
                        try clear hcz21_1
                        try clear hcz21_2
                        try clear hcz22_0
                        try clear hcz22_1
                        try clear hcz27_0
                        try clear hcz27_1
                        try clear hcz29_0
                        try clear hcz29_1
                        try clear hcz31_0
                        try clear hcz31_1
                        try clear hcz38_0
                        try clear hcz38_1
                        try clear hcz38_2
                        try clear hcz46_0
                        try clear hcz46_1
                        try clear hcz46_2
                        try clear hcz51_0
                        try clear hcz51_1
                        try clear hfz11_0
                        try clear hfz11_1
                        try clear hfz12_0
                        try clear hfz12_1
                        try clear hfz17_0
                        try clear hfz17_1
                        try clear hfz21_0
                        try clear hfz21_1
                        try clear hfz21_2
                        try clear hfz22_0
                        try clear hfz22_1
                        try clear hfz27_0
                        try clear hfz27_1
                        try clear hfz29_0
                        try clear hfz29_1
                        try clear hfz31_0
                        try clear hfz31_1
                        try clear hfz38_0
                        try clear hfz38_1
                        try clear hfz38_2
                        try clear hfz46_0
                        try clear hfz46_1
                        try clear hfz46_2
                        try clear hfz51_0
                        try clear hfz51_1
                        try clear p2
                        obtain ⟨kq, x100_46, rfl, HA, HJ46, BK221, BK227, HB⟩ := hcut
                        cases kq with
                        | zero => exact absurd HA.out (by simp [pantilelaw04_MaskOf.j3])
                        | succ kj46 =>
                          have H := HA.out
                          clear HA
                          simp only [pantilelaw04_MaskOf.j3] at H
                          by_cases c53 : x100_46 = true
                          · subst c53
                            have H1 : (some false) = some r := by rw [if_pos rfl] at H; exact H
                            clear H
                            have H := H1
                            clear H1
                            exact Bool.noConfusion ((Option.some.inj H).trans HRT.out)
                          · replace c53 := Bool.eq_false_iff.mpr c53
                            subst c53
                            have H1 : (if a1 = (-1) then (if (t223 == 0 && (t224 == 0 && (t225 == 0))) = true then (some (t226 == 3)) else (some false)) else ((pantileref04_Of.f kj46 l0 a1 l2_0 l2_1).bind fun bt232 => (if t226 = 0 then (some (t223 == (l0.length : Int) && (t224 == bt232.1 && (t225 == bt232.2)))) else (some false)))) = some r := by rw [if_neg (show ¬ (false = true) by decide)] at H; exact H
                            clear H
                            have H := H1
                            clear H1
                            by_cases c54 : a1 = (-1)
                            · rw [if_pos c54] at H
                              have c54b0 : (a1 == (-1)) = true := beq_iff_eq.mpr c54
                              have c54b1 : (a1 != (-1)) = false := bne_eq_false_iff_eq.mpr c54
                              clear c54
                              by_cases c55 : (t223 == 0 && (t224 == 0 && (t225 == 0))) = true
                              · rw [if_pos c55] at H
                                have c55b0 : (t223 == 0 && (t224 == 0 && (t225 == 0))) = true := c55
                                (try (have c55b1 : decide (t223 = 0 && (t224 == 0 && (t225 == 0))) = true := by simpa using c55))
                                (try (have c55b2 : (t223 == 0 && (t224 == 0 && (t225 == 0))) = true := by simpa using c55))
                                clear c55
                                obtain rfl := Option.some.inj H
                                have hnb56 := NB227_221.out
                                have hnc56 := NB221_227.out
                                have hcz57_0 : wc.cell? ⟨gb227, 0, none⟩ = some (.int .i64 t223) := (blk_cell BK227.out 0).trans rfl
                                have hcz57_1 : wc.cell? ⟨gb227, 1, none⟩ = some (.int .i64 t224) := (blk_cell BK227.out 1).trans rfl
                                have hcz57_2 : wc.cell? ⟨gb227, 2, none⟩ = some (.int .i64 t225) := (blk_cell BK227.out 2).trans rfl
                                have hfz57_0 := blk_frozen BK227.out 0
                                have hfz57_1 := blk_frozen BK227.out 1
                                have hfz57_2 := blk_frozen BK227.out 2
                                go_wp2
                                go_ret
                                exact ⟨by first | rfl | (simp [errW_none, errW_some] <;> rfl) | (simp [*, errW_none, errW_some] <;> rfl), by repeat (first | (with_reducible first | exact HB.out | apply below_alloc | apply pw_below_drewN | apply below_drew1 | refine below_set ?_ GE221.out | refine below_set ?_ GE227.out) | exact HB.out)⟩
                              · rw [if_neg c55] at H
                                have c55b0 : (t223 == 0 && (t224 == 0 && (t225 == 0))) = false := by simpa using c55
                                (try (have c55b1 : decide (t223 = 0 && (t224 == 0 && (t225 == 0))) = false := by simpa using c55))
                                (try (have c55b2 : (t223 == 0 && (t224 == 0 && (t225 == 0))) = false := by simpa using c55))
                                (try (have c55b3 : ¬ (t223 = 0 && (t224 == 0 && (t225 == 0))) := by simpa using c55))
                                clear c55
                                exact Bool.noConfusion ((Option.some.inj H).trans HRT.out)
                            · rw [if_neg c54] at H
                              have c54b0 : (a1 == (-1)) = false := beq_eq_false_iff_ne.mpr c54
                              have c54b1 : (a1 != (-1)) = true := bne_iff_ne.mpr c54
                              replace H := Option.bind_eq_some_iff.mp H
                              obtain ⟨⟨t232, t233⟩, A580, H⟩ := H
                              replace H : (if t226 = 0 then (some (t223 == (l0.length : Int) && (t224 == t232 && (t225 == t233)))) else (some false)) = some r := H
                              have A58 := Aside0.mk A580
                              clear A580
                              by_cases c59 : t226 = 0
                              · rw [if_pos c59] at H
                                have c59b0 : (t226 == 0) = true := beq_iff_eq.mpr c59
                                have c59b1 : (t226 != 0) = false := bne_eq_false_iff_eq.mpr c59
                                clear c59
                                obtain rfl := Option.some.inj H
                                have hnb60 := NB221_227.out
                                have hnc60 := NB227_221.out
                                have hcz61_0 : wc.cell? ⟨gb221, 0, none⟩ = some (.slice A2_0 l2_0.length c2_0) := (blk_cell BK221.out 0).trans rfl
                                have hcz61_1 : wc.cell? ⟨gb221, 1, none⟩ = some (.slice A2_1 l2_1.length c2_1) := (blk_cell BK221.out 1).trans rfl
                                have hfz61_0 := blk_frozen BK221.out 0
                                have hfz61_1 := blk_frozen BK221.out 1
                                go_wp2_with (first | ((with_reducible refine gate_callee (f := 50) rfl ?_); refine goesL_ (some 114) rfl rfl Try.func50 (by kernel_rfl) rfl #[.slice A0 l0.length c0, .int .i64 a1, .agg #[.slice A2_0 l2_0.length c2_0, .slice A2_1 l2_1.length c2_1]] rfl (by (try simp only [List.map_toArray, List.map_cons, List.map_nil]); first | done | rfl | (simp only [List.length_drop, List.length_take]; rfl)) ?_; (with_reducible refine (pantileref04_Of.calls kj46 _ _ l0 a1 _ _ l2_0 _ _ l2_1 t232 t233 _ ?side1 ?side2 ?side3 ?side4 ?side5 ?side6 A58.out).mono ?_); (case side1 => repeat (first | exact (Kd.C_below HR0.out HB.out) | (with_reducible refine Kd.C_alloc ?_ _) | (with_reducible refine Kd.C_drewN ?_ _) | (with_reducible refine Kd.C_drew ?_))); (case side2 => exact HC0.out); (case side3 => repeat (first | exact (Kd.C_below HR2_0.out HB.out) | (with_reducible refine Kd.C_alloc ?_ _) | (with_reducible refine Kd.C_drewN ?_ _) | (with_reducible refine Kd.C_drew ?_))); (case side4 => exact HC2_0.out); (case side5 => repeat (first | exact (Kd.C_below HR2_1.out HB.out) | (with_reducible refine Kd.C_alloc ?_ _) | (with_reducible refine Kd.C_drewN ?_ _) | (with_reducible refine Kd.C_drew ?_))); (case side6 => exact HC2_1.out); rintro e w62 ⟨rfl, hb⟩; refine ⟨_, rfl, ?_⟩; have n0_ := Aside0.mk (blk_below (g := gb221) (o := .cells #[.slice A2_0 l2_0.length c2_0, .slice A2_1 l2_1.length c2_1] 32 (0, 0)) (by (with_reducible repeat (first | refine blk_drewN ?_ _ | refine blk_drew ?_ | refine blk_alloc ?_ _)); exact BK221.out) hb); have n1_ := Aside0.mk (blk_below (g := gb227) (o := .cells #[.int .i64 t223, .int .i64 t224, .int .i64 t225] 52 (0, 0)) (by (with_reducible repeat (first | refine blk_drewN ?_ _ | refine blk_drew ?_ | refine blk_alloc ?_ _)); exact BK227.out) hb); have n2_ := Aside0.mk (below_step (by repeat (first | (with_reducible first | exact HB.out | apply below_alloc | apply pw_below_drewN | apply below_drew1 | refine below_set ?_ GE221.out | refine below_set ?_ GE227.out) | exact HB.out)) hb); clear BK221; clear BK227; clear HB; have BK221 := n0_; have BK227 := n1_; have HB := n2_; clear n0_ n1_ n2_; (try clear hb); (try clear hb2); (try clear hk); (try clear hi); have hcz63_0 : w62.cell? ⟨gb227, 0, none⟩ = some (.int .i64 t223) := (blk_cell BK227.out 0).trans rfl; have hcz63_1 : w62.cell? ⟨gb227, 1, none⟩ = some (.int .i64 t224) := (blk_cell BK227.out 1).trans rfl; have hcz63_2 : w62.cell? ⟨gb227, 2, none⟩ = some (.int .i64 t225) := (blk_cell BK227.out 2).trans rfl; have hfz63_0 := blk_frozen BK227.out 0; have hfz63_1 := blk_frozen BK227.out 1; have hfz63_2 := blk_frozen BK227.out 2))
                                go_ret
                                exact ⟨by first | rfl | (simp [errW_none, errW_some] <;> rfl) | (simp [*, errW_none, errW_some] <;> rfl), by repeat (first | (with_reducible first | exact HB.out | apply below_alloc | apply pw_below_drewN | apply below_drew1 | refine below_set ?_ GE221.out | refine below_set ?_ GE227.out) | exact HB.out)⟩
                              · rw [if_neg c59] at H
                                have c59b0 : (t226 == 0) = false := beq_eq_false_iff_ne.mpr c59
                                have c59b1 : (t226 != 0) = true := bne_iff_ne.mpr c59
                                exact Bool.noConfusion ((Option.some.inj H).trans HRT.out)
  · replace c5 := Bool.eq_false_iff.mpr c5
    subst c5
    have H1 : (some false) = some r := by rw [if_neg (show ¬ (false = true) by decide)] at H; exact H
    clear H
    have H := H1
    clear H1
    exact Bool.noConfusion ((Option.some.inj H).trans HRT.out)

/-- THE ONE PURE STATEMENT of pantilelaw04_MaskOf: yours. -/
def pantilelaw04_MaskOf.Pure : Prop := ∀ (l0 : List Int) (a1 : Int) (l2_0 : List Int) (l2_1 : List Int), l0.length ≤ maxLen → l0.length * 8 ≤ 140737488351232 → (∀ x ∈ l0, (Lit.int .u64 x).wf = true) → (Lit.int .i64 a1).wf = true → l2_0.length ≤ maxLen → l2_0.length * 8 ≤ 140737488351232 → (∀ x ∈ l2_0, (Lit.int .u64 x).wf = true) → l2_1.length ≤ maxLen → l2_1.length * 8 ≤ 140737488351232 → (∀ x ∈ l2_1, (Lit.int .u64 x).wf = true) → ∃ k, pantilelaw04_MaskOf.f k l0 a1 l2_0 l2_1 = some true
theorem pantilelaw04_MaskOf.walk (P : pantilelaw04_MaskOf.Pure) (a0 : Option Addr) (len0 cap0 : Nat) (z0 : List Int) (a1 : Int) (a2_0 : Option Addr) (len2_0 cap2_0 : Nat) (z2_0 : List Int) (a2_1 : Option Addr) (len2_1 cap2_1 : Nat) (z2_1 : List Int) (w : World) (w0 : (a0 = none ∧ len0 = 0 ∧ cap0 = 0 ∧ z0 = []) ∨ ∃ x, a0 = some x ∧ len0 ≤ cap0 ∧ cap0 ≤ maxLen ∧ z0.length = cap0 ∧ (∀ i, i < z0.length → w.cell? (x.add i) = some (.int .u64 (z0.getD i 0))) ∧ ∀ n ∈ z0, (Lit.int .u64 n).wf = true) (y0 : len0 * 8 ≤ 140737488351232) (w1 : (Lit.int .i64 a1).wf = true) (w2_0 : (a2_0 = none ∧ len2_0 = 0 ∧ cap2_0 = 0 ∧ z2_0 = []) ∨ ∃ x, a2_0 = some x ∧ len2_0 ≤ cap2_0 ∧ cap2_0 ≤ maxLen ∧ z2_0.length = cap2_0 ∧ (∀ i, i < z2_0.length → w.cell? (x.add i) = some (.int .u64 (z2_0.getD i 0))) ∧ ∀ n ∈ z2_0, (Lit.int .u64 n).wf = true) (y2_0 : len2_0 * 8 ≤ 140737488351232) (w2_1 : (a2_1 = none ∧ len2_1 = 0 ∧ cap2_1 = 0 ∧ z2_1 = []) ∨ ∃ x, a2_1 = some x ∧ len2_1 ≤ cap2_1 ∧ cap2_1 ≤ maxLen ∧ z2_1.length = cap2_1 ∧ (∀ i, i < z2_1.length → w.cell? (x.add i) = some (.int .u64 (z2_1.getD i 0))) ∧ ∀ n ∈ z2_1, (Lit.int .u64 n).wf = true) (y2_1 : len2_1 * 8 ≤ 140737488351232) :
    Calls Try.prog 8 #[.slice a0 len0 cap0, .int .i64 a1, .agg #[.slice a2_0 len2_0 cap2_0, .slice a2_1 len2_1 cap2_1]] w fun e w' => e = .returned (.bool true) ∧ Below w.heap.size w w' := by
  obtain ⟨l0, rfl, hr0, hm0, hw0, hc0⟩ := ReadsInt.ofRowC w0
  obtain ⟨l2_0, rfl, hr2_0, hm2_0, hw2_0, hc2_0⟩ := ReadsInt.ofRowC w2_0
  obtain ⟨l2_1, rfl, hr2_1, hm2_1, hw2_1, hc2_1⟩ := ReadsInt.ofRowC w2_1
  obtain ⟨k, h⟩ := P l0 a1 l2_0 l2_1 hm0 y0 hw0 w1 hm2_0 y2_0 hw2_0 hm2_1 y2_1 hw2_1
  refine (pantilelaw04_MaskOf.calls k _ _ l0 a1 _ _ l2_0 _ _ l2_1 true w (Kd.C_of_reads (d := (0 : Int)) (h1 := fun _ => rfl) hr0) hc0 (Kd.C_of_reads (d := (0 : Int)) (h1 := fun _ => rfl) hr2_0) hc2_0 (Kd.C_of_reads (d := (0 : Int)) (h1 := fun _ => rfl) hr2_1) hc2_1 rfl h).mono ?_
  rintro e w' ⟨rfl, hd⟩
  exact ⟨rfl, hd⟩

end Go.Proofs.Ythdphjbecibeaaa.PMaskOf
