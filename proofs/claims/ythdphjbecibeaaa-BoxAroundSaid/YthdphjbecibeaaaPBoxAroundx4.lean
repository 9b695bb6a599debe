-- Written by wip/tools/print2.py, a program of this session, over the kit's print of the program. Lean checks it.
import Derived.Test.YthdphjbecibeaaaPBoxAroundx0
import Derived.Test.YthdphjbecibeaaaPBoxAroundx3
namespace Go.Proofs.Ythdphjbecibeaaa.PBoxAround
open Go.RowKit Go.Proofs.YthdphjbecibeaaaW.PrintWords Go.Proofs.YthdphjbecibeaaaW.PrintLast Go.Proofs.YthdphjbecibeaaaW.PrintMore
attribute [local go_sem] max2_int min2_int max_two min_two max_three min_three max_four min_four   -- for this text's walks alone
set_option linter.unusedVariables false
set_option linter.unusedSimpArgs false

/-! ### box_In: function 32 -/
def box_In.l0 : Nat → List Int → Int → Int → List Int → List Int → Option (Bool × Int)
  | 0, _, _, _, _, _ => none
  | k + 1, x12, x13, x14, x219000, x219001 => if x14 < x13 then (if 0 ≤ x14 then (if x14 < (x12.length : Int) then (if x14 < (x219000.length : Int) then (if (rd x12 x14) < (rd x219000 x14) then (some (false, 0)) else (if x14 < (x219001.length : Int) then (if (rd x12 x14) > (rd x219001 x14) then (some (false, 0)) else (box_In.l0 k x12 x13 (wrap64 (x14 + 1)) x219000 x219001)) else (none))) else (none)) else (none)) else (none)) else (some (true, 0))
def box_In.f (k : Nat) (l0_0 : List Int) (l0_1 : List Int) (l1 : List Int) : Option (Bool × Int) := (box_alike.f l0_0 l0_1 l1).bind fun t219 => (if t219 = true then (box_In.l0 k l1 (l1.length : Int) 0 l0_0 l0_1) else (some (false, 2)))
theorem box_In.mono_l : ∀ k, (∀ y0 y1 y2 y3 y4, LeO (box_In.l0 k y0 y1 y2 y3 y4) (box_In.l0 (k + 1) y0 y1 y2 y3 y4))
  | 0 => fun _ _ _ _ _ r h => by simp [box_In.l0] at h
  | k + 1 => by
    have ih0 := box_In.mono_l k
    · intro y0 y1 y2 y3 y4
      unfold box_In.l0
      repeat' first
      | (with_reducible exact ih0 _ _ _ _ _)
      | (with_reducible exact LeO.refl _)
      | (with_reducible exact LeO.none _)
      | (with_reducible refine LeO.ite ?_ ?_)
      | (with_reducible refine LeO.bind ?_ (fun _ => ?_))
      | exact ih0 _ _ _ _ _
      | exact LeO.none _
      | refine LeO.ite ?_ ?_
      | refine LeO.bind ?_ (fun _ => ?_)
theorem box_In.mono : ∀ a0 a1 a2 k, LeO (box_In.f k a0 a1 a2) (box_In.f (k + 1) a0 a1 a2) := by
  intro a0 a1 a2 k
  have ih0 := box_In.mono_l k
  unfold box_In.f
  repeat' first
      | (with_reducible exact ih0 _ _ _ _ _)
      | (with_reducible exact LeO.refl _)
      | (with_reducible exact LeO.none _)
      | (with_reducible refine LeO.ite ?_ ?_)
      | (with_reducible refine LeO.bind ?_ (fun _ => ?_))
      | exact ih0 _ _ _ _ _
      | exact LeO.none _
      | refine LeO.ite ?_ ?_
      | refine LeO.bind ?_ (fun _ => ?_)
set_option maxHeartbeats 8000000 in
set_option maxRecDepth 100000 in
theorem box_In.calls (k : Nat) (A0_0 : Option Addr) (c0_0 : Nat) (l0_0 : List Int) (A0_1 : Option Addr) (c0_1 : Nat) (l0_1 : List Int) (A1 : Option Addr) (c1 : Nat) (l1 : List Int) (r1 : Bool) (r2 : Int) (w : World) (hr0_0 : Kd.C (Kd.int .u64) w A0_0 l0_0.length l0_0) (hc0_0 : l0_0.length ≤ c0_0) (hr0_1 : Kd.C (Kd.int .u64) w A0_1 l0_1.length l0_1) (hc0_1 : l0_1.length ≤ c0_1) (hr1 : Kd.C (Kd.int .u64) w A1 l1.length l1) (hc1 : l1.length ≤ c1) (h : box_In.f k l0_0 l0_1 l1 = some (r1, r2)) :
    Calls Try.prog 32 #[.agg #[.slice A0_0 l0_0.length c0_0, .slice A0_1 l0_1.length c0_1], .slice A1 l1.length c1] w fun e w' => e = .returned (.tuple #[.bool r1, .int .i64 r2]) ∧ Below w.heap.size w w' := by
  have hu32 := Try.underlying32
  have HR0_0 := Aside0.mk hr0_0
  have HC0_0 := Aside0.mk hc0_0
  clear hr0_0 hc0_0
  have HR0_1 := Aside0.mk hr0_1
  have HC0_1 := Aside0.mk hc0_1
  clear hr0_1 hc0_1
  have HR1 := Aside0.mk hr1
  have HC1 := Aside0.mk hc1
  clear hr1 hc1
  have HB := Aside0.mk (Below.refl w.heap.size w)
  have H : ((box_alike.f l0_0 l0_1 l1).bind fun t219 => (if t219 = true then (box_In.l0 k l1 (l1.length : Int) 0 l0_0 l0_1) else (some (false, 2)))) = some (r1, r2) := h
  clear h
  replace H := Option.bind_eq_some_iff.mp H
  obtain ⟨t219, A30, H⟩ := H
  replace H : (if t219 = true then (box_In.l0 k l1 (l1.length : Int) 0 l0_0 l0_1) else (some (false, 2))) = some (r1, r2) := H
  have A3 := Aside0.mk A30
  clear A30
  by_cases c4 : t219 = true
  · subst c4
    have H1 : (box_In.l0 k l1 (l1.length : Int) 0 l0_0 l0_1) = some (r1, r2) := by rw [if_pos rfl] at H; exact H
    clear H
    have H := H1
    clear H1
    have H' := Aside0.mk H
    clear H
    go_enter Try.func32, Try.ntmps32
    go_wp2_with (first | ((with_reducible refine gate_dst (N := 2) rfl ?_); refine box_event ?hg (N := 2) ?hd (cs := #[.slice A0_0 l0_0.length c0_0, .slice A0_1 l0_1.length c0_1]) (t := 32) ?hr ?_; (case hd => rfl); (case hg => rfl); (case hr => first | (go_simp; done) | (go_simp; rfl)); intro gb218 hg w5 hbox hb; have n0_ := Aside0.mk (below_step (by repeat (first | (with_reducible first | exact HB.out | apply below_alloc | apply pw_below_drewN | apply below_drew1) | exact HB.out)) hb); have n1_ := Aside0.mk (hbox); have n2_ := Aside0.mk ((by rw [hg]; exact (below_size (by repeat (first | (with_reducible first | exact HB.out | apply below_alloc | apply pw_below_drewN | apply below_drew1) | exact HB.out))) : w.heap.size ≤ gb218)); have n3_ := Aside0.mk ((by rw [hg]; exact (below_size (by repeat (first | (with_reducible first | exact HB.out | apply below_alloc | apply pw_below_drewN | apply below_drew1) | exact HB.out))) : w.heap.size ≤ gb218)); clear HB; have HB := n0_; have BK218 := n1_; have GW218 := n2_; have GE218 := n3_; clear n0_ n1_ n2_ n3_; clear hb hbox hg; have hcz6_0 : w5.cell? ⟨gb218, 0, none⟩ = some (.slice A0_0 l0_0.length c0_0) := (blk_cell BK218.out 0).trans rfl; have hcz6_1 : w5.cell? ⟨gb218, 1, none⟩ = some (.slice A0_1 l0_1.length c0_1) := (blk_cell BK218.out 1).trans rfl; have hfz6_0 := blk_frozen BK218.out 0; have hfz6_1 := blk_frozen BK218.out 1) | ((with_reducible refine gate_callee (f := 78) rfl ?_); refine goesL_ (some 10) rfl rfl Try.func78 (by kernel_rfl) rfl #[.agg #[.slice A0_0 l0_0.length c0_0, .slice A0_1 l0_1.length c0_1], .slice A1 l1.length c1] rfl (by (try simp only [List.map_toArray, List.map_cons, List.map_nil]); first | done | rfl | (simp only [List.length_drop, List.length_take]; rfl)) ?_; (with_reducible refine (box_alike.calls _ _ l0_0 _ _ l0_1 _ _ l1 true _ ?side1 ?side2 ?side3 ?side4 ?side5 ?side6 A3.out).mono ?_); (case side1 => repeat (first | exact (Kd.C_below HR0_0.out HB.out) | (with_reducible refine Kd.C_alloc ?_ _) | (with_reducible refine Kd.C_drewN ?_ _) | (with_reducible refine Kd.C_drew ?_))); (case side2 => exact HC0_0.out); (case side3 => repeat (first | exact (Kd.C_below HR0_1.out HB.out) | (with_reducible refine Kd.C_alloc ?_ _) | (with_reducible refine Kd.C_drewN ?_ _) | (with_reducible refine Kd.C_drew ?_))); (case side4 => exact HC0_1.out); (case side5 => repeat (first | exact (Kd.C_below HR1.out HB.out) | (with_reducible refine Kd.C_alloc ?_ _) | (with_reducible refine Kd.C_drewN ?_ _) | (with_reducible refine Kd.C_drew ?_))); (case side6 => exact HC1.out); rintro e w7 ⟨rfl, hb⟩; refine ⟨_, rfl, ?_⟩; have n0_ := Aside0.mk (blk_below (g := gb218) (o := .cells #[.slice A0_0 l0_0.length c0_0, .slice A0_1 l0_1.length c0_1] 32 (0, 0)) (by (with_reducible repeat (first | refine blk_drewN ?_ _ | refine blk_drew ?_ | refine blk_alloc ?_ _)); exact BK218.out) hb); have n1_ := Aside0.mk (below_step (by repeat (first | (with_reducible first | exact HB.out | apply below_alloc | apply pw_below_drewN | apply below_drew1 | refine below_set ?_ GE218.out) | exact HB.out)) hb); clear BK218; clear HB; have BK218 := n0_; have HB := n1_; clear n0_ n1_; (try clear hb); (try clear hb2); (try clear hk); (try clear hi)))
    go_loopg [14] k (fun kq v14 w' => ∃ (x14_1 : Int), v14 = .int .i64 x14_1 ∧ Aside0 (box_In.l0 kq l1 (l1.length : Int) x14_1 l0_0 l0_1 = some (r1, r2)) ∧ Aside0 (kq ≤ k) ∧ Aside0 (w'.heap[gb218]? = some (.cells #[(.slice A0_0 l0_0.length c0_0), (.slice A0_1 l0_1.length c0_1)] 32 (0, 0))) ∧ Aside0 (Below w.heap.size w w'))
    case atStart => exact ⟨(0), (by first | rfl | (simp; done) | (simp [*]; done)), H', ⟨Nat.le_refl _⟩, ⟨by (with_reducible repeat (first | refine blk_drewN ?_ _ | refine blk_drew ?_ | refine blk_alloc ?_ _)); exact BK218.out⟩, ⟨by repeat (first | (with_reducible first | exact HB.out | apply below_alloc | apply pw_below_drewN | apply below_drew1 | refine below_set ?_ GE218.out) | exact HB.out)⟩⟩
    case round =>
      clear H'
      try clear c1
      try clear p2
      try clear c3
      try clear c4
      try clear c7
      try clear hcz6_0
      try clear hcz6_1
      try clear hfz6_0
      try clear hfz6_1
      obtain ⟨x14_1, rfl, HA, HK1, BK218, HB⟩ := hrel
      cases gk with
      | zero => exact absurd HA.out (by simp [box_In.l0])
      | succ k1 =>
        have H := HA.out
        clear HA
        simp only [box_In.l0] at H
        by_cases c8 : x14_1 < (l1.length : Int)
        · rw [if_pos c8] at H
          have c8b0 : decide (x14_1 < (l1.length : Int)) = true := decide_eq_true c8
          clear c8
          by_cases c9 : 0 ≤ x14_1
          · rw [if_pos c9] at H
            have c9b0 : decide (0 ≤ x14_1) = true := decide_eq_true c9
            clear c9
            by_cases c10 : x14_1 < (l1.length : Int)
            · rw [if_pos c10] at H
              have c10b0 : decide (x14_1 < (l1.length : Int)) = true := decide_eq_true c10
              clear c10
              by_cases c11 : x14_1 < (l0_0.length : Int)
              · rw [if_pos c11] at H
                have c11b0 : decide (x14_1 < (l0_0.length : Int)) = true := decide_eq_true c11
                clear c11
                by_cases c12 : (rd l1 x14_1) < (rd l0_0 x14_1)
                · rw [if_pos c12] at H
                  have c12b0 : decide ((rd l1 x14_1) < (rd l0_0 x14_1)) = true := decide_eq_true c12
                  clear c12
                  simp only [Option.some.injEq, Prod.mk.injEq] at H
                  obtain ⟨rfl, rfl⟩ := H
                  have p220 : 0 ≤ (x14_1 : Int) := of_decide_eq_true (by first | (with_reducible assumption) | assumption)
                  have q220 : x14_1 < (l1.length : Int) := of_decide_eq_true (by first | (with_reducible assumption) | assumption)
                  obtain ⟨ad220, e220, hx220_0⟩ := Kd.at_int HR1.out x14_1 p220 q220
                  cases e220
                  replace hx220_0 := (HB.out.cell (World.block_lt_of_cell? w _ hx220_0)).trans hx220_0
                  replace p220 := eq_true p220
                  replace q220 := eq_true q220
                  have hcz13_0 : wr.cell? ⟨gb218, 0, none⟩ = some (.slice A0_0 l0_0.length c0_0) := (blk_cell BK218.out 0).trans rfl
                  have hcz13_1 : wr.cell? ⟨gb218, 1, none⟩ = some (.slice A0_1 l0_1.length c0_1) := (blk_cell BK218.out 1).trans rfl
                  have hfz13_0 := blk_frozen BK218.out 0
                  have hfz13_1 := blk_frozen BK218.out 1
                  have p221 : 0 ≤ (x14_1 : Int) := of_decide_eq_true (by first | (with_reducible assumption) | assumption)
                  have q221 : x14_1 < (l0_0.length : Int) := of_decide_eq_true (by first | (with_reducible assumption) | assumption)
                  obtain ⟨ad221, e221, hx221_0⟩ := Kd.at_int HR0_0.out x14_1 p221 q221
                  cases e221
                  replace hx221_0 := (HB.out.cell (World.block_lt_of_cell? w _ hx221_0)).trans hx221_0
                  replace p221 := eq_true p221
                  replace q221 := eq_true q221
                  go_wp2
                  go_ret2
                  exact ⟨by first | rfl | (simp [errW_none, errW_some] <;> rfl) | (simp [*, errW_none, errW_some] <;> rfl), by repeat (first | (with_reducible first | exact HB.out | apply below_alloc | apply pw_below_drewN | apply below_drew1 | refine below_set ?_ GE218.out) | exact HB.out)⟩
                · rw [if_neg c12] at H
                  have c12b0 : decide ((rd l1 x14_1) < (rd l0_0 x14_1)) = false := decide_eq_false c12
                  clear c12
                  by_cases c14 : x14_1 < (l0_1.length : Int)
                  · rw [if_pos c14] at H
                    have c14b0 : decide (x14_1 < (l0_1.length : Int)) = true := decide_eq_true c14
                    clear c14
                    by_cases c15 : (rd l1 x14_1) > (rd l0_1 x14_1)
                    · rw [if_pos c15] at H
                      have c15b0 : decide ((rd l0_1 x14_1) < (rd l1 x14_1)) = true := decide_eq_true c15
                      clear c15
                      simp only [Option.some.injEq, Prod.mk.injEq] at H
                      obtain ⟨rfl, rfl⟩ := H
                      have p220 : 0 ≤ (x14_1 : Int) := of_decide_eq_true (by first | (with_reducible assumption) | assumption)
                      have q220 : x14_1 < (l1.length : Int) := of_decide_eq_true (by first | (with_reducible assumption) | assumption)
                      obtain ⟨ad220, e220, hx220_0⟩ := Kd.at_int HR1.out x14_1 p220 q220
                      cases e220
                      replace hx220_0 := (HB.out.cell (World.block_lt_of_cell? w _ hx220_0)).trans hx220_0
                      replace p220 := eq_true p220
                      replace q220 := eq_true q220
                      have hcz16_0 : wr.cell? ⟨gb218, 0, none⟩ = some (.slice A0_0 l0_0.length c0_0) := (blk_cell BK218.out 0).trans rfl
                      have hcz16_1 : wr.cell? ⟨gb218, 1, none⟩ = some (.slice A0_1 l0_1.length c0_1) := (blk_cell BK218.out 1).trans rfl
                      have hfz16_0 := blk_frozen BK218.out 0
                      have hfz16_1 := blk_frozen BK218.out 1
                      have p221 : 0 ≤ (x14_1 : Int) := of_decide_eq_true (by first | (with_reducible assumption) | assumption)
                      have q221 : x14_1 < (l0_0.length : Int) := of_decide_eq_true (by first | (with_reducible assumption) | assumption)
                      obtain ⟨ad221, e221, hx221_0⟩ := Kd.at_int HR0_0.out x14_1 p221 q221
                      cases e221
                      replace hx221_0 := (HB.out.cell (World.block_lt_of_cell? w _ hx221_0)).trans hx221_0
                      replace p221 := eq_true p221
                      replace q221 := eq_true q221
                      have p222 : 0 ≤ (x14_1 : Int) := of_decide_eq_true (by first | (with_reducible assumption) | assumption)
                      have q222 : x14_1 < (l0_1.length : Int) := of_decide_eq_true (by first | (with_reducible assumption) | assumption)
                      obtain ⟨ad222, e222, hx222_0⟩ := Kd.at_int HR0_1.out x14_1 p222 q222
                      cases e222
                      replace hx222_0 := (HB.out.cell (World.block_lt_of_cell? w _ hx222_0)).trans hx222_0
                      replace p222 := eq_true p222
                      replace q222 := eq_true q222
                      go_wp2
                      go_ret2
                      exact ⟨by first | rfl | (simp [errW_none, errW_some] <;> rfl) | (simp [*, errW_none, errW_some] <;> rfl), by repeat (first | (with_reducible first | exact HB.out | apply below_alloc | apply pw_below_drewN | apply below_drew1 | refine below_set ?_ GE218.out) | exact HB.out)⟩
                    · rw [if_neg c15] at H
                      have c15b0 : decide ((rd l0_1 x14_1) < (rd l1 x14_1)) = false := decide_eq_false c15
                      clear c15
                      have H' := Aside0.mk H
                      clear H
                      have p220 : 0 ≤ (x14_1 : Int) := of_decide_eq_true (by first | (with_reducible assumption) | assumption)
                      have q220 : x14_1 < (l1.length : Int) := of_decide_eq_true (by first | (with_reducible assumption) | assumption)
                      obtain ⟨ad220, e220, hx220_0⟩ := Kd.at_int HR1.out x14_1 p220 q220
                      cases e220
                      replace hx220_0 := (HB.out.cell (World.block_lt_of_cell? w _ hx220_0)).trans hx220_0
                      replace p220 := eq_true p220
                      replace q220 := eq_true q220
                      have hcz17_0 : wr.cell? ⟨gb218, 0, none⟩ = some (.slice A0_0 l0_0.length c0_0) := (blk_cell BK218.out 0).trans rfl
                      have hcz17_1 : wr.cell? ⟨gb218, 1, none⟩ = some (.slice A0_1 l0_1.length c0_1) := (blk_cell BK218.out 1).trans rfl
                      have hfz17_0 := blk_frozen BK218.out 0
                      have hfz17_1 := blk_frozen BK218.out 1
                      have p221 : 0 ≤ (x14_1 : Int) := of_decide_eq_true (by first | (with_reducible assumption) | assumption)
                      have q221 : x14_1 < (l0_0.length : Int) := of_decide_eq_true (by first | (with_reducible assumption) | assumption)
                      obtain ⟨ad221, e221, hx221_0⟩ := Kd.at_int HR0_0.out x14_1 p221 q221
                      cases e221
                      replace hx221_0 := (HB.out.cell (World.block_lt_of_cell? w _ hx221_0)).trans hx221_0
                      replace p221 := eq_true p221
                      replace q221 := eq_true q221
                      have p222 : 0 ≤ (x14_1 : Int) := of_decide_eq_true (by first | (with_reducible assumption) | assumption)
                      have q222 : x14_1 < (l0_1.length : Int) := of_decide_eq_true (by first | (with_reducible assumption) | assumption)
                      obtain ⟨ad222, e222, hx222_0⟩ := Kd.at_int HR0_1.out x14_1 p222 q222
                      cases e222
                      replace hx222_0 := (HB.out.cell (World.block_lt_of_cell? w _ hx222_0)).trans hx222_0
                      replace p222 := eq_true p222
                      replace q222 := eq_true q222
                      go_wp2
                      go_roundg k1
                      case measure => have := HK1.out; omega
                      case rel => exact ⟨(wrap64 (x14_1 + 1)), (by first | rfl | (simp; done) | (simp [*]; done)), H', ⟨by have := HK1.out; omega⟩, ⟨by (with_reducible repeat (first | refine blk_drewN ?_ _ | refine blk_drew ?_ | refine blk_alloc ?_ _)); exact BK218.out⟩, ⟨by repeat (first | (with_reducible first | exact HB.out | apply below_alloc | apply pw_below_drewN | apply below_drew1 | refine below_set ?_ GE218.out) | exact HB.out)⟩⟩
                  · rw [if_neg c14] at H
                    exact absurd H (by simp)
              · rw [if_neg c11] at H
                exact absurd H (by simp)
            · rw [if_neg c10] at H
              exact absurd H (by simp)
          · rw [if_neg c9] at H
            exact absurd H (by simp)
        · rw [if_neg c8] at H
          have c8b0 : decide (x14_1 < (l1.length : Int)) = false := decide_eq_false c8
          clear c8
          simp only [Option.some.injEq, Prod.mk.injEq] at H
          obtain ⟨rfl, rfl⟩ := H
          go_wp2
          go_ret2
          exact ⟨by first | rfl | (simp [errW_none, errW_some] <;> rfl) | (simp [*, errW_none, errW_some] <;> rfl), by repeat (first | (with_reducible first | exact HB.out | apply below_alloc | apply pw_below_drewN | apply below_drew1 | refine below_set ?_ GE218.out) | exact HB.out)⟩
  · replace c4 := Bool.eq_false_iff.mpr c4
    subst c4
    have H1 : (some (false, 2)) = some (r1, r2) := by rw [if_neg (show ¬ (false = true) by decide)] at H; exact H
    clear H
    have H := H1
    clear H1
    simp only [Option.some.injEq, Prod.mk.injEq] at H
    obtain ⟨rfl, rfl⟩ := H
    go_enter Try.func32, Try.ntmps32
    go_wp2_with (first | ((with_reducible refine gate_dst (N := 2) rfl ?_); refine box_event ?hg (N := 2) ?hd (cs := #[.slice A0_0 l0_0.length c0_0, .slice A0_1 l0_1.length c0_1]) (t := 32) ?hr ?_; (case hd => rfl); (case hg => rfl); (case hr => first | (go_simp; done) | (go_simp; rfl)); intro gb218 hg w18 hbox hb; have n0_ := Aside0.mk (below_step (by repeat (first | (with_reducible first | exact HB.out | apply below_alloc | apply pw_below_drewN | apply below_drew1) | exact HB.out)) hb); have n1_ := Aside0.mk (hbox); have n2_ := Aside0.mk ((by rw [hg]; exact (below_size (by repeat (first | (with_reducible first | exact HB.out | apply below_alloc | apply pw_below_drewN | apply below_drew1) | exact HB.out))) : w.heap.size ≤ gb218)); have n3_ := Aside0.mk ((by rw [hg]; exact (below_size (by repeat (first | (with_reducible first | exact HB.out | apply below_alloc | apply pw_below_drewN | apply below_drew1) | exact HB.out))) : w.heap.size ≤ gb218)); clear HB; have HB := n0_; have BK218 := n1_; have GW218 := n2_; have GE218 := n3_; clear n0_ n1_ n2_ n3_; clear hb hbox hg; have hcz19_0 : w18.cell? ⟨gb218, 0, none⟩ = some (.slice A0_0 l0_0.length c0_0) := (blk_cell BK218.out 0).trans rfl; have hcz19_1 : w18.cell? ⟨gb218, 1, none⟩ = some (.slice A0_1 l0_1.length c0_1) := (blk_cell BK218.out 1).trans rfl; have hfz19_0 := blk_frozen BK218.out 0; have hfz19_1 := blk_frozen BK218.out 1) | ((with_reducible refine gate_callee (f := 78) rfl ?_); refine goesL_ (some 10) rfl rfl Try.func78 (by kernel_rfl) rfl #[.agg #[.slice A0_0 l0_0.length c0_0, .slice A0_1 l0_1.length c0_1], .slice A1 l1.length c1] rfl (by (try simp only [List.map_toArray, List.map_cons, List.map_nil]); first | done | rfl | (simp only [List.length_drop, List.length_take]; rfl)) ?_; (with_reducible refine (box_alike.calls _ _ l0_0 _ _ l0_1 _ _ l1 false _ ?side1 ?side2 ?side3 ?side4 ?side5 ?side6 A3.out).mono ?_); (case side1 => repeat (first | exact (Kd.C_below HR0_0.out HB.out) | (with_reducible refine Kd.C_alloc ?_ _) | (with_reducible refine Kd.C_drewN ?_ _) | (with_reducible refine Kd.C_drew ?_))); (case side2 => exact HC0_0.out); (case side3 => repeat (first | exact (Kd.C_below HR0_1.out HB.out) | (with_reducible refine Kd.C_alloc ?_ _) | (with_reducible refine Kd.C_drewN ?_ _) | (with_reducible refine Kd.C_drew ?_))); (case side4 => exact HC0_1.out); (case side5 => repeat (first | exact (Kd.C_below HR1.out HB.out) | (with_reducible refine Kd.C_alloc ?_ _) | (with_reducible refine Kd.C_drewN ?_ _) | (with_reducible refine Kd.C_drew ?_))); (case side6 => exact HC1.out); rintro e w20 ⟨rfl, hb⟩; refine ⟨_, rfl, ?_⟩; have n0_ := Aside0.mk (blk_below (g := gb218) (o := .cells #[.slice A0_0 l0_0.length c0_0, .slice A0_1 l0_1.length c0_1] 32 (0, 0)) (by (with_reducible repeat (first | refine blk_drewN ?_ _ | refine blk_drew ?_ | refine blk_alloc ?_ _)); exact BK218.out) hb); have n1_ := Aside0.mk (below_step (by repeat (first | (with_reducible first | exact HB.out | apply below_alloc | apply pw_below_drewN | apply below_drew1 | refine below_set ?_ GE218.out) | exact HB.out)) hb); clear BK218; clear HB; have BK218 := n0_; have HB := n1_; clear n0_ n1_; (try clear hb); (try clear hb2); (try clear hk); (try clear hi)))
    go_ret2
    exact ⟨by first | rfl | (simp [errW_none, errW_some] <;> rfl) | (simp [*, errW_none, errW_some] <;> rfl), by repeat (first | (with_reducible first | exact HB.out | apply below_alloc | apply pw_below_drewN | apply below_drew1 | refine below_set ?_ GE218.out) | exact HB.out)⟩

/-! ### pantileref03_Far: function 33 -/
def pantileref03_Far.l0 : Nat → List Int → List Int → Int → Int → Option (Int)
  | 0, _, _, _, _ => none
  | k + 1, x0, x1, x5, x6 => if x6 < (x0.length : Int) then (if 0 ≤ x6 then (if x6 < (x1.length : Int) then (if (rd x0 x6) < (rd x1 x6) then (if (IntKind.u64.wrap ((rd x1 x6) - (rd x0 x6))) > x5 then (pantileref03_Far.l0 k x0 x1 (IntKind.u64.wrap ((rd x1 x6) - (rd x0 x6))) (wrap64 (x6 + 1))) else (pantileref03_Far.l0 k x0 x1 x5 (wrap64 (x6 + 1)))) else (if (IntKind.u64.wrap ((rd x0 x6) - (rd x1 x6))) > x5 then (pantileref03_Far.l0 k x0 x1 (IntKind.u64.wrap ((rd x0 x6) - (rd x1 x6))) (wrap64 (x6 + 1))) else (pantileref03_Far.l0 k x0 x1 x5 (wrap64 (x6 + 1))))) else (none)) else (none)) else (some x5)
def pantileref03_Far.f (k : Nat) (l0 : List Int) (l1 : List Int) : Option (Int) := pantileref03_Far.l0 k l0 l1 0 0
theorem pantileref03_Far.mono_l : ∀ k, (∀ y0 y1 y2 y3, LeO (pantileref03_Far.l0 k y0 y1 y2 y3) (pantileref03_Far.l0 (k + 1) y0 y1 y2 y3))
  | 0 => fun _ _ _ _ r h => by simp [pantileref03_Far.l0] at h
  | k + 1 => by
    have ih0 := pantileref03_Far.mono_l k
    · intro y0 y1 y2 y3
      unfold pantileref03_Far.l0
      repeat' first
      | (with_reducible exact ih0 _ _ _ _)
      | (with_reducible exact LeO.refl _)
      | (with_reducible exact LeO.none _)
      | (with_reducible refine LeO.ite ?_ ?_)
      | (with_reducible refine LeO.bind ?_ (fun _ => ?_))
      | exact ih0 _ _ _ _
      | exact LeO.none _
      | refine LeO.ite ?_ ?_
      | refine LeO.bind ?_ (fun _ => ?_)
theorem pantileref03_Far.mono : ∀ a0 a1 k, LeO (pantileref03_Far.f k a0 a1) (pantileref03_Far.f (k + 1) a0 a1) := by
  intro a0 a1 k
  have ih0 := pantileref03_Far.mono_l k
  unfold pantileref03_Far.f
  repeat' first
      | (with_reducible exact ih0 _ _ _ _)
      | (with_reducible exact LeO.refl _)
      | (with_reducible exact LeO.none _)
      | (with_reducible refine LeO.ite ?_ ?_)
      | (with_reducible refine LeO.bind ?_ (fun _ => ?_))
      | exact ih0 _ _ _ _
      | exact LeO.none _
      | refine LeO.ite ?_ ?_
      | refine LeO.bind ?_ (fun _ => ?_)
set_option maxHeartbeats 8000000 in
set_option maxRecDepth 100000 in
theorem pantileref03_Far.calls (k : Nat) (A0 : Option Addr) (c0 : Nat) (l0 : List Int) (A1 : Option Addr) (c1 : Nat) (l1 : List Int) (r : Int) (w : World) (hr0 : Kd.C (Kd.int .u64) w A0 l0.length l0) (hc0 : l0.length ≤ c0) (hr1 : Kd.C (Kd.int .u64) w A1 l1.length l1) (hc1 : l1.length ≤ c1) (h : pantileref03_Far.f k l0 l1 = some r) :
    Calls Try.prog 33 #[.slice A0 l0.length c0, .slice A1 l1.length c1] w fun e w' => e = .returned (.int .u64 r) ∧ Drawn0 w w' := by
  have HR0 := Aside0.mk hr0
  have HC0 := Aside0.mk hc0
  clear hr0 hc0
  have HR1 := Aside0.mk hr1
  have HC1 := Aside0.mk hc1
  clear hr1 hc1
  have H : (pantileref03_Far.l0 k l0 l1 0 0) = some r := h
  clear h
  have H' := Aside0.mk H
  clear H
  go_enter Try.func33, Try.ntmps33
  go_wp2
  repeat (go_quiet (fail); try go_wp2)
  go_loopg [5, 6] k (fun kq v5 v6 w' => ∃ (x5_1 : Int) (x6_1 : Int), v5 = .int .u64 x5_1 ∧ v6 = .int .i64 x6_1 ∧ Aside0 (pantileref03_Far.l0 kq l0 l1 x5_1 x6_1 = some r) ∧ Aside0 (kq ≤ k) ∧ Drawn0 w w')
  case atStart => exact ⟨(0), (0), (by first | rfl | (simp; done) | (simp [*]; done)), (by first | rfl | (simp; done) | (simp [*]; done)), H', ⟨Nat.le_refl _⟩, by repeat (first | exact Drawn0.refl _ | apply Drawn0.step)⟩
  case round =>
    clear H'
    try clear c1
    try clear p2
    obtain ⟨x5_1, x6_1, rfl, rfl, HA, HK1, ⟨m1, rfl⟩⟩ := hrel
    cases gk with
    | zero => exact absurd HA.out (by simp [pantileref03_Far.l0])
    | succ k1 =>
      have H := HA.out
      clear HA
      simp only [pantileref03_Far.l0] at H
      by_cases c3 : x6_1 < (l0.length : Int)
      · rw [if_pos c3] at H
        have c3b0 : decide (x6_1 < (l0.length : Int)) = true := decide_eq_true c3
        clear c3
        by_cases c4 : 0 ≤ x6_1
        · rw [if_pos c4] at H
          have c4b0 : decide (0 ≤ x6_1) = true := decide_eq_true c4
          clear c4
          by_cases c5 : x6_1 < (l1.length : Int)
          · rw [if_pos c5] at H
            have c5b0 : decide (x6_1 < (l1.length : Int)) = true := decide_eq_true c5
            clear c5
            by_cases c6 : (rd l0 x6_1) < (rd l1 x6_1)
            · rw [if_pos c6] at H
              have c6b0 : decide ((rd l0 x6_1) < (rd l1 x6_1)) = true := decide_eq_true c6
              clear c6
              by_cases c7 : (IntKind.u64.wrap ((rd l1 x6_1) - (rd l0 x6_1))) > x5_1
              · rw [if_pos c7] at H
                have c7b0 : decide (x5_1 < (IntKind.u64.wrap ((rd l1 x6_1) - (rd l0 x6_1)))) = true := decide_eq_true c7
                clear c7
                have H' := Aside0.mk H
                clear H
                have p223 : 0 ≤ (x6_1 : Int) := of_decide_eq_true (by first | (with_reducible assumption) | assumption)
                have q223 : x6_1 < (l0.length : Int) := of_decide_eq_true (by first | (with_reducible assumption) | assumption)
                obtain ⟨ad223, e223, hx223_0⟩ := Kd.at_int HR0.out x6_1 p223 q223
                cases e223
                replace p223 := eq_true p223
                replace q223 := eq_true q223
                have p224 : 0 ≤ (x6_1 : Int) := of_decide_eq_true (by first | (with_reducible assumption) | assumption)
                have q224 : x6_1 < (l1.length : Int) := of_decide_eq_true (by first | (with_reducible assumption) | assumption)
                obtain ⟨ad224, e224, hx224_0⟩ := Kd.at_int HR1.out x6_1 p224 q224
                cases e224
                replace p224 := eq_true p224
                replace q224 := eq_true q224
                have p225 : 0 ≤ (x6_1 : Int) := of_decide_eq_true (by first | (with_reducible assumption) | assumption)
                have q225 : x6_1 < (l0.length : Int) := of_decide_eq_true (by first | (with_reducible assumption) | assumption)
                obtain ⟨ad225, e225, hx225_0⟩ := Kd.at_int HR0.out x6_1 p225 q225
                obtain rfl : ad223 = ad225 := (by injection e225)
                replace p225 := eq_true p225
                replace q225 := eq_true q225
                have p226 : 0 ≤ (x6_1 : Int) := of_decide_eq_true (by first | (with_reducible assumption) | assumption)
                have q226 : x6_1 < (l1.length : Int) := of_decide_eq_true (by first | (with_reducible assumption) | assumption)
                obtain ⟨ad226, e226, hx226_0⟩ := Kd.at_int HR1.out x6_1 p226 q226
                obtain rfl : ad224 = ad226 := (by injection e226)
                replace p226 := eq_true p226
                replace q226 := eq_true q226
                have p227 : 0 ≤ (x6_1 : Int) := of_decide_eq_true (by first | (with_reducible assumption) | assumption)
                have q227 : x6_1 < (l1.length : Int) := of_decide_eq_true (by first | (with_reducible assumption) | assumption)
                obtain ⟨ad227, e227, hx227_0⟩ := Kd.at_int HR1.out x6_1 p227 q227
                obtain rfl : ad224 = ad227 := (by injection e227)
                replace p227 := eq_true p227
                replace q227 := eq_true q227
                have p228 : 0 ≤ (x6_1 : Int) := of_decide_eq_true (by first | (with_reducible assumption) | assumption)
                have q228 : x6_1 < (l0.length : Int) := of_decide_eq_true (by first | (with_reducible assumption) | assumption)
                obtain ⟨ad228, e228, hx228_0⟩ := Kd.at_int HR0.out x6_1 p228 q228
                obtain rfl : ad223 = ad228 := (by injection e228)
                replace p228 := eq_true p228
                replace q228 := eq_true q228
                go_wp2
                repeat (go_quiet (fail); try go_wp2)
                go_roundg k1
                case measure => have := HK1.out; omega
                case rel => exact ⟨(IntKind.u64.wrap ((rd l1 x6_1) - (rd l0 x6_1))), (wrap64 (x6_1 + 1)), (by first | rfl | (simp; done) | (simp [*]; done)), (by first | rfl | (simp; done) | (simp [*]; done)), H', ⟨by have := HK1.out; omega⟩, by repeat (first | exact Drawn0.refl _ | apply Drawn0.step)⟩
              · rw [if_neg c7] at H
                have c7b0 : decide (x5_1 < (IntKind.u64.wrap ((rd l1 x6_1) - (rd l0 x6_1)))) = false := decide_eq_false c7
                clear c7
                have H' := Aside0.mk H
                clear H
                have p223 : 0 ≤ (x6_1 : Int) := of_decide_eq_true (by first | (with_reducible assumption) | assumption)
                have q223 : x6_1 < (l0.length : Int) := of_decide_eq_true (by first | (with_reducible assumption) | assumption)
                obtain ⟨ad223, e223, hx223_0⟩ := Kd.at_int HR0.out x6_1 p223 q223
                cases e223
                replace p223 := eq_true p223
                replace q223 := eq_true q223
                have p224 : 0 ≤ (x6_1 : Int) := of_decide_eq_true (by first | (with_reducible assumption) | assumption)
                have q224 : x6_1 < (l1.length : Int) := of_decide_eq_true (by first | (with_reducible assumption) | assumption)
                obtain ⟨ad224, e224, hx224_0⟩ := Kd.at_int HR1.out x6_1 p224 q224
                cases e224
                replace p224 := eq_true p224
                replace q224 := eq_true q224
                have p225 : 0 ≤ (x6_1 : Int) := of_decide_eq_true (by first | (with_reducible assumption) | assumption)
                have q225 : x6_1 < (l0.length : Int) := of_decide_eq_true (by first | (with_reducible assumption) | assumption)
                obtain ⟨ad225, e225, hx225_0⟩ := Kd.at_int HR0.out x6_1 p225 q225
                obtain rfl : ad223 = ad225 := (by injection e225)
                replace p225 := eq_true p225
                replace q225 := eq_true q225
                have p226 : 0 ≤ (x6_1 : Int) := of_decide_eq_true (by first | (with_reducible assumption) | assumption)
                have q226 : x6_1 < (l1.length : Int) := of_decide_eq_true (by first | (with_reducible assumption) | assumption)
                obtain ⟨ad226, e226, hx226_0⟩ := Kd.at_int HR1.out x6_1 p226 q226
                obtain rfl : ad224 = ad226 := (by injection e226)
                replace p226 := eq_true p226
                replace q226 := eq_true q226
                have p227 : 0 ≤ (x6_1 : Int) := of_decide_eq_true (by first | (with_reducible assumption) | assumption)
                have q227 : x6_1 < (l1.length : Int) := of_decide_eq_true (by first | (with_reducible assumption) | assumption)
                obtain ⟨ad227, e227, hx227_0⟩ := Kd.at_int HR1.out x6_1 p227 q227
                obtain rfl : ad224 = ad227 := (by injection e227)
                replace p227 := eq_true p227
                replace q227 := eq_true q227
                have p228 : 0 ≤ (x6_1 : Int) := of_decide_eq_true (by first | (with_reducible assumption) | assumption)
                have q228 : x6_1 < (l0.length : Int) := of_decide_eq_true (by first | (with_reducible assumption) | assumption)
                obtain ⟨ad228, e228, hx228_0⟩ := Kd.at_int HR0.out x6_1 p228 q228
                obtain rfl : ad223 = ad228 := (by injection e228)
                replace p228 := eq_true p228
                replace q228 := eq_true q228
                go_wp2
                repeat (go_quiet (fail); try go_wp2)
                go_roundg k1
                case measure => have := HK1.out; omega
                case rel => exact ⟨(x5_1), (wrap64 (x6_1 + 1)), (by first | rfl | (simp; done) | (simp [*]; done)), (by first | rfl | (simp; done) | (simp [*]; done)), H', ⟨by have := HK1.out; omega⟩, by repeat (first | exact Drawn0.refl _ | apply Drawn0.step)⟩
            · rw [if_neg c6] at H
              have c6b0 : decide ((rd l0 x6_1) < (rd l1 x6_1)) = false := decide_eq_false c6
              clear c6
              by_cases c8 : (IntKind.u64.wrap ((rd l0 x6_1) - (rd l1 x6_1))) > x5_1
              · rw [if_pos c8] at H
                have c8b0 : decide (x5_1 < (IntKind.u64.wrap ((rd l0 x6_1) - (rd l1 x6_1)))) = true := decide_eq_true c8
                clear c8
                have H' := Aside0.mk H
                clear H
                have p223 : 0 ≤ (x6_1 : Int) := of_decide_eq_true (by first | (with_reducible assumption) | assumption)
                have q223 : x6_1 < (l0.length : Int) := of_decide_eq_true (by first | (with_reducible assumption) | assumption)
                obtain ⟨ad223, e223, hx223_0⟩ := Kd.at_int HR0.out x6_1 p223 q223
                cases e223
                replace p223 := eq_true p223
                replace q223 := eq_true q223
                have p224 : 0 ≤ (x6_1 : Int) := of_decide_eq_true (by first | (with_reducible assumption) | assumption)
                have q224 : x6_1 < (l1.length : Int) := of_decide_eq_true (by first | (with_reducible assumption) | assumption)
                obtain ⟨ad224, e224, hx224_0⟩ := Kd.at_int HR1.out x6_1 p224 q224
                cases e224
                replace p224 := eq_true p224
                replace q224 := eq_true q224
                have p225 : 0 ≤ (x6_1 : Int) := of_decide_eq_true (by first | (with_reducible assumption) | assumption)
                have q225 : x6_1 < (l0.length : Int) := of_decide_eq_true (by first | (with_reducible assumption) | assumption)
                obtain ⟨ad225, e225, hx225_0⟩ := Kd.at_int HR0.out x6_1 p225 q225
                obtain rfl : ad223 = ad225 := (by injection e225)
                replace p225 := eq_true p225
                replace q225 := eq_true q225
                have p226 : 0 ≤ (x6_1 : Int) := of_decide_eq_true (by first | (with_reducible assumption) | assumption)
                have q226 : x6_1 < (l1.length : Int) := of_decide_eq_true (by first | (with_reducible assumption) | assumption)
                obtain ⟨ad226, e226, hx226_0⟩ := Kd.at_int HR1.out x6_1 p226 q226
                obtain rfl : ad224 = ad226 := (by injection e226)
                replace p226 := eq_true p226
                replace q226 := eq_true q226
                go_wp2
                repeat (go_quiet (fail); try go_wp2)
                go_roundg k1
                case measure => have := HK1.out; omega
                case rel => exact ⟨(IntKind.u64.wrap ((rd l0 x6_1) - (rd l1 x6_1))), (wrap64 (x6_1 + 1)), (by first | rfl | (simp; done) | (simp [*]; done)), (by first | rfl | (simp; done) | (simp [*]; done)), H', ⟨by have := HK1.out; omega⟩, by repeat (first | exact Drawn0.refl _ | apply Drawn0.step)⟩
              · rw [if_neg c8] at H
                have c8b0 : decide (x5_1 < (IntKind.u64.wrap ((rd l0 x6_1) - (rd l1 x6_1)))) = false := decide_eq_false c8
                clear c8
                have H' := Aside0.mk H
                clear H
                have p223 : 0 ≤ (x6_1 : Int) := of_decide_eq_true (by first | (with_reducible assumption) | assumption)
                have q223 : x6_1 < (l0.length : Int) := of_decide_eq_true (by first | (with_reducible assumption) | assumption)
                obtain ⟨ad223, e223, hx223_0⟩ := Kd.at_int HR0.out x6_1 p223 q223
                cases e223
                replace p223 := eq_true p223
                replace q223 := eq_true q223
                have p224 : 0 ≤ (x6_1 : Int) := of_decide_eq_true (by first | (with_reducible assumption) | assumption)
                have q224 : x6_1 < (l1.length : Int) := of_decide_eq_true (by first | (with_reducible assumption) | assumption)
                obtain ⟨ad224, e224, hx224_0⟩ := Kd.at_int HR1.out x6_1 p224 q224
                cases e224
                replace p224 := eq_true p224
                replace q224 := eq_true q224
                have p225 : 0 ≤ (x6_1 : Int) := of_decide_eq_true (by first | (with_reducible assumption) | assumption)
                have q225 : x6_1 < (l0.length : Int) := of_decide_eq_true (by first | (with_reducible assumption) | assumption)
                obtain ⟨ad225, e225, hx225_0⟩ := Kd.at_int HR0.out x6_1 p225 q225
                obtain rfl : ad223 = ad225 := (by injection e225)
                replace p225 := eq_true p225
                replace q225 := eq_true q225
                have p226 : 0 ≤ (x6_1 : Int) := of_decide_eq_true (by first | (with_reducible assumption) | assumption)
                have q226 : x6_1 < (l1.length : Int) := of_decide_eq_true (by first | (with_reducible assumption) | assumption)
                obtain ⟨ad226, e226, hx226_0⟩ := Kd.at_int HR1.out x6_1 p226 q226
                obtain rfl : ad224 = ad226 := (by injection e226)
                replace p226 := eq_true p226
                replace q226 := eq_true q226
                go_wp2
                repeat (go_quiet (fail); try go_wp2)
                go_roundg k1
                case measure => have := HK1.out; omega
                case rel => exact ⟨(x5_1), (wrap64 (x6_1 + 1)), (by first | rfl | (simp; done) | (simp [*]; done)), (by first | rfl | (simp; done) | (simp [*]; done)), H', ⟨by have := HK1.out; omega⟩, by repeat (first | exact Drawn0.refl _ | apply Drawn0.step)⟩
          · rw [if_neg c5] at H
            exact absurd H (by simp)
        · rw [if_neg c4] at H
          exact absurd H (by simp)
      · rw [if_neg c3] at H
        have c3b0 : decide (x6_1 < (l0.length : Int)) = false := decide_eq_false c3
        clear c3
        obtain rfl := Option.some.inj H
        go_wp2
        repeat (go_quiet (fail); try go_wp2)
        go_ret
        exact ⟨by first | rfl | (simp; done) | (simp [*]; done), by repeat (first | exact Drawn0.refl _ | apply Drawn0.step)⟩

end Go.Proofs.Ythdphjbecibeaaa.PBoxAround
