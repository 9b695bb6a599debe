-- Written by wip/tools/print2.py, a program of this session, over the kit's print of the program. Lean checks it.
import Derived.Test.YthdphjbecibeaaaPMaskWalkx0
import Derived.Test.YthdphjbecibeaaaPMaskWalkx4
import Derived.Test.YthdphjbecibeaaaPMaskWalkx5
import Derived.Test.YthdphjbecibeaaaPMaskWalkx6
namespace Go.Proofs.Ythdphjbecibeaaa.PMaskWalk
open Go.RowKit Go.Proofs.YthdphjbecibeaaaW.PrintWords Go.Proofs.YthdphjbecibeaaaW.PrintLast Go.Proofs.YthdphjbecibeaaaW.PrintMore
attribute [local go_sem] max2_int min2_int max_two min_two max_three min_three max_four min_four   -- for this text's walks alone
set_option linter.unusedVariables false
set_option linter.unusedSimpArgs false

/-! ### pantilelaw04_MaskWalk: function 12 -/
mutual
def pantilelaw04_MaskWalk.j0 : Nat → Bool → Int → Int → Int → Option (Bool)
  | 0, _, _, _, _ => none
  | k + 1, x21, x174000, x174001, x174002 => if x21 = true then (some true) else ((mask_Mask_First.f x174000 x174001 x174002).bind fun bt176 => (pantilelaw04_MaskWalk.l0 k 0 (-1) bt176.1 bt176.2 x174000 x174001 x174002))
def pantilelaw04_MaskWalk.l0 : Nat → Int → Int → Int → Bool → Int → Int → Int → Option (Bool)
  | 0, _, _, _, _, _, _, _ => none
  | k + 1, x3, x4, x5, x6, x174000, x174001, x174002 => if x6 = true then (if x5 ≤ x4 then (some false) else ((mask_Mask_Has.f x174000 x174001 x174002 x5).bind fun t180 => (if t180 = true then ((pantileref04_Has.f k x174000 x174001 x174002 x5).bind fun t181 => (if t181 = true then (if x3 > 5000 then (some false) else ((mask_Mask_Next.f k x174000 x174001 x174002 x5).bind fun bt182 => (pantilelaw04_MaskWalk.l0 k (wrap64 (x3 + 1)) x5 bt182.1 bt182.2 x174000 x174001 x174002))) else (some false))) else (some false)))) else ((mask_Mask_Count.f x174000 x174001 x174002).bind fun t178 => (if x3 = t178 then ((mask_Mask_None.f x174000 x174001 x174002).bind fun t179 => (some ((x3 == 0) == t179))) else (some false)))
end
def pantilelaw04_MaskWalk.f (k : Nat) (a0_0 : Int) (a0_1 : Int) (a0_2 : Int) : Option (Bool) := (pantilelaw04_awake.f k).bind fun t174 => (if t174 = true then (if a0_0 > 12 then (pantilelaw04_MaskWalk.j0 k true a0_0 a0_1 a0_2) else ((pantileref04_Right.f k a0_0 a0_1 a0_2).bind fun t175 => (pantilelaw04_MaskWalk.j0 k (!t175) a0_0 a0_1 a0_2))) else (some false))
theorem pantilelaw04_MaskWalk.mono_l : ∀ k, (∀ y0 y1 y2 y3, LeO (pantilelaw04_MaskWalk.j0 k y0 y1 y2 y3) (pantilelaw04_MaskWalk.j0 (k + 1) y0 y1 y2 y3)) ∧ (∀ y0 y1 y2 y3 y4 y5 y6, LeO (pantilelaw04_MaskWalk.l0 k y0 y1 y2 y3 y4 y5 y6) (pantilelaw04_MaskWalk.l0 (k + 1) y0 y1 y2 y3 y4 y5 y6))
  | 0 => ⟨fun _ _ _ _ r h => by simp [pantilelaw04_MaskWalk.j0] at h, fun _ _ _ _ _ _ _ r h => by simp [pantilelaw04_MaskWalk.l0] at h⟩
  | k + 1 => by
    obtain ⟨ih0, ih1⟩ := pantilelaw04_MaskWalk.mono_l k
    refine ⟨?_, ?_⟩
    · intro y0 y1 y2 y3
      unfold pantilelaw04_MaskWalk.j0
      repeat' first
      | (with_reducible exact ih0 _ _ _ _)
      | (with_reducible exact ih1 _ _ _ _ _ _ _)
      | (with_reducible exact mask_Mask_Next.mono _ _ _ _ _)
      | (with_reducible exact pantilelaw04_awake.mono _)
      | (with_reducible exact pantileref04_Has.mono _ _ _ _ _)
      | (with_reducible exact pantileref04_Right.mono _ _ _ _)
      | (with_reducible exact LeO.refl _)
      | (with_reducible exact LeO.none _)
      | (with_reducible refine LeO.ite ?_ ?_)
      | (with_reducible refine LeO.bind ?_ (fun _ => ?_))
      | exact ih0 _ _ _ _
      | exact ih1 _ _ _ _ _ _ _
      | exact mask_Mask_Next.mono _ _ _ _ _
      | exact pantilelaw04_awake.mono _
      | exact pantileref04_Has.mono _ _ _ _ _
      | exact pantileref04_Right.mono _ _ _ _
      | exact LeO.none _
      | refine LeO.ite ?_ ?_
      | refine LeO.bind ?_ (fun _ => ?_)
    · intro y0 y1 y2 y3 y4 y5 y6
      unfold pantilelaw04_MaskWalk.l0
      repeat' first
      | (with_reducible exact ih0 _ _ _ _)
      | (with_reducible exact ih1 _ _ _ _ _ _ _)
      | (with_reducible exact mask_Mask_Next.mono _ _ _ _ _)
      | (with_reducible exact pantilelaw04_awake.mono _)
      | (with_reducible exact pantileref04_Has.mono _ _ _ _ _)
      | (with_reducible exact pantileref04_Right.mono _ _ _ _)
      | (with_reducible exact LeO.refl _)
      | (with_reducible exact LeO.none _)
      | (with_reducible refine LeO.ite ?_ ?_)
      | (with_reducible refine LeO.bind ?_ (fun _ => ?_))
      | exact ih0 _ _ _ _
      | exact ih1 _ _ _ _ _ _ _
      | exact mask_Mask_Next.mono _ _ _ _ _
      | exact pantilelaw04_awake.mono _
      | exact pantileref04_Has.mono _ _ _ _ _
      | exact pantileref04_Right.mono _ _ _ _
      | exact LeO.none _
      | refine LeO.ite ?_ ?_
      | refine LeO.bind ?_ (fun _ => ?_)
theorem pantilelaw04_MaskWalk.mono : ∀ a0 a1 a2 k, LeO (pantilelaw04_MaskWalk.f k a0 a1 a2) (pantilelaw04_MaskWalk.f (k + 1) a0 a1 a2) := by
  intro a0 a1 a2 k
  obtain ⟨ih0, ih1⟩ := pantilelaw04_MaskWalk.mono_l k
  unfold pantilelaw04_MaskWalk.f
  repeat' first
      | (with_reducible exact ih0 _ _ _ _)
      | (with_reducible exact ih1 _ _ _ _ _ _ _)
      | (with_reducible exact mask_Mask_Next.mono _ _ _ _ _)
      | (with_reducible exact pantilelaw04_awake.mono _)
      | (with_reducible exact pantileref04_Has.mono _ _ _ _ _)
      | (with_reducible exact pantileref04_Right.mono _ _ _ _)
      | (with_reducible exact LeO.refl _)
      | (with_reducible exact LeO.none _)
      | (with_reducible refine LeO.ite ?_ ?_)
      | (with_reducible refine LeO.bind ?_ (fun _ => ?_))
      | exact ih0 _ _ _ _
      | exact ih1 _ _ _ _ _ _ _
      | exact mask_Mask_Next.mono _ _ _ _ _
      | exact pantilelaw04_awake.mono _
      | exact pantileref04_Has.mono _ _ _ _ _
      | exact pantileref04_Right.mono _ _ _ _
      | exact LeO.none _
      | refine LeO.ite ?_ ?_
      | refine LeO.bind ?_ (fun _ => ?_)
set_option maxHeartbeats 8000000 in
set_option maxRecDepth 100000 in
theorem pantilelaw04_MaskWalk.calls (k : Nat) (a0_0 : Int) (a0_1 : Int) (a0_2 : Int) (r : Bool) (w : World) (hrt : r = true) (h : pantilelaw04_MaskWalk.f k a0_0 a0_1 a0_2 = some r) :
    Calls Try.prog 12 #[.agg #[.int .i64 a0_0, .int .i64 a0_1, .int .i64 a0_2]] w fun e w' => e = .returned (.bool r) ∧ Below w.heap.size w w' := by
  have hu52 := Try.underlying52
  have HRT := Aside0.mk hrt
  clear hrt
  have HB := Aside0.mk (Below.refl w.heap.size w)
  have H : ((pantilelaw04_awake.f k).bind fun t174 => (if t174 = true then (if a0_0 > 12 then (pantilelaw04_MaskWalk.j0 k true a0_0 a0_1 a0_2) else ((pantileref04_Right.f k a0_0 a0_1 a0_2).bind fun t175 => (pantilelaw04_MaskWalk.j0 k (!t175) a0_0 a0_1 a0_2))) else (some false))) = some r := h
  clear h
  replace H := Option.bind_eq_some_iff.mp H
  obtain ⟨t174, A20, H⟩ := H
  replace H : (if t174 = true then (if a0_0 > 12 then (pantilelaw04_MaskWalk.j0 k true a0_0 a0_1 a0_2) else ((pantileref04_Right.f k a0_0 a0_1 a0_2).bind fun t175 => (pantilelaw04_MaskWalk.j0 k (!t175) a0_0 a0_1 a0_2))) else (some false)) = some r := H
  have A2 := Aside0.mk A20
  clear A20
  by_cases c3 : t174 = true
  · subst c3
    have H1 : (if a0_0 > 12 then (pantilelaw04_MaskWalk.j0 k true a0_0 a0_1 a0_2) else ((pantileref04_Right.f k a0_0 a0_1 a0_2).bind fun t175 => (pantilelaw04_MaskWalk.j0 k (!t175) a0_0 a0_1 a0_2))) = some r := by rw [if_pos rfl] at H; exact H
    clear H
    have H := H1
    clear H1
    have HC4 := Aside0.mk H
    clear H
    go_enter Try.func12, Try.ntmps12
    go_upto_region 3 with (first | ((with_reducible refine gate_dst (N := 1) rfl ?_); refine box_event ?hg (N := 1) ?hd (cs := #[.int .i64 a0_0, .int .i64 a0_1, .int .i64 a0_2]) (t := 52) ?hr ?_; (case hd => rfl); (case hg => rfl); (case hr => first | (go_simp; done) | (go_simp; rfl)); intro gb173 hg w5 hbox hb; have n0_ := Aside0.mk (below_step (by repeat (first | (with_reducible first | exact HB.out | apply below_alloc | apply pw_below_drewN | apply below_drew1) | exact HB.out)) hb); have n1_ := Aside0.mk (hbox); have n2_ := Aside0.mk ((by rw [hg]; exact (below_size (by repeat (first | (with_reducible first | exact HB.out | apply below_alloc | apply pw_below_drewN | apply below_drew1) | exact HB.out))) : w.heap.size ≤ gb173)); have n3_ := Aside0.mk ((by rw [hg]; exact (below_size (by repeat (first | (with_reducible first | exact HB.out | apply below_alloc | apply pw_below_drewN | apply below_drew1) | exact HB.out))) : w.heap.size ≤ gb173)); clear HB; have HB := n0_; have BK173 := n1_; have GW173 := n2_; have GE173 := n3_; clear n0_ n1_ n2_ n3_; clear hb hbox hg) | ((with_reducible refine gate_callee (f := 35) rfl ?_); refine goesL_ (some 7) rfl rfl Try.func35 (by kernel_rfl) rfl #[] rfl (by (try simp only [List.map_toArray, List.map_cons, List.map_nil]); first | done | rfl | (simp only [List.length_drop, List.length_take]; rfl)) ?_; (with_reducible refine (pantilelaw04_awake.calls k  true _ A2.out).mono ?_); rintro e w6 ⟨rfl, hb⟩; refine ⟨_, rfl, ?_⟩; have n0_ := Aside0.mk (blk_below (g := gb173) (o := .cells #[.int .i64 a0_0, .int .i64 a0_1, .int .i64 a0_2] 52 (0, 0)) (by (with_reducible repeat (first | refine blk_drewN ?_ _ | refine blk_drew ?_ | refine blk_alloc ?_ _)); exact BK173.out) hb); have n1_ := Aside0.mk (below_step (by repeat (first | (with_reducible first | exact HB.out | apply below_alloc | apply pw_below_drewN | apply below_drew1 | refine below_set ?_ GE173.out) | exact HB.out)) hb); clear BK173; clear HB; have BK173 := n0_; have HB := n1_; clear n0_ n1_; (try clear hb); (try clear hb2); (try clear hk); (try clear hi)))
    (try simp only [Act.put, List.setIfInBounds_toArray, List.set_cons_zero, List.set_cons_succ])
    go_cut [21] (fun v21 wc => ∃ (kq : Nat) (x21_3 : Bool), v21 = .bool x21_3 ∧ Aside0 (pantilelaw04_MaskWalk.j0 kq x21_3 a0_0 a0_1 a0_2 = some r) ∧ Aside0 (kq ≤ k) ∧ Aside0 (wc.heap[gb173]? = some (.cells #[.int .i64 a0_0, .int .i64 a0_1, .int .i64 a0_2] 52 (0, 0))) ∧ Aside0 (Below w.heap.size w wc))
    case first =>
      have H := HC4.out
      clear HC4
      by_cases c7 : a0_0 > 12
      · rw [if_pos c7] at H
        have c7b0 : decide (12 < a0_0) = true := decide_eq_true c7
        clear c7
        (first | rw [c7b0] | (simp only [i64_w, i32_w]; rw [c7b0]) | skip)
        have H' := Aside0.mk H
        clear H
        have hcz8_0 : w6.cell? ⟨gb173, 0, none⟩ = some (.int .i64 a0_0) := (blk_cell BK173.out 0).trans rfl
        have hcz8_1 : w6.cell? ⟨gb173, 1, none⟩ = some (.int .i64 a0_1) := (blk_cell BK173.out 1).trans rfl
        have hcz8_2 : w6.cell? ⟨gb173, 2, none⟩ = some (.int .i64 a0_2) := (blk_cell BK173.out 2).trans rfl
        have hfz8_0 := blk_frozen BK173.out 0
        have hfz8_1 := blk_frozen BK173.out 1
        have hfz8_2 := blk_frozen BK173.out 2
        go_wp2
        go_meet
        case rel => exact ⟨_, (true), (by first | rfl | (simp; done) | (simp [*]; done)), H', ⟨by first | omega | exact Nat.le_refl _⟩, ⟨by (with_reducible repeat (first | refine blk_drewN ?_ _ | refine blk_drew ?_ | refine blk_alloc ?_ _)); exact BK173.out⟩, ⟨by repeat (first | (with_reducible first | exact HB.out | apply below_alloc | apply pw_below_drewN | apply below_drew1 | refine below_set ?_ GE173.out) | exact HB.out)⟩⟩
      · rw [if_neg c7] at H
        have c7b0 : decide (12 < a0_0) = false := decide_eq_false c7
        clear c7
        (first | rw [c7b0] | (simp only [i64_w, i32_w]; rw [c7b0]) | skip)
        replace H := Option.bind_eq_some_iff.mp H
        obtain ⟨t175, A90, H⟩ := H
        replace H : (pantilelaw04_MaskWalk.j0 k (!t175) a0_0 a0_1 a0_2) = some r := H
        have A9 := Aside0.mk A90
        clear A90
        have H' := Aside0.mk H
        clear H
        have hcz10_0 : w6.cell? ⟨gb173, 0, none⟩ = some (.int .i64 a0_0) := (blk_cell BK173.out 0).trans rfl
        have hcz10_1 : w6.cell? ⟨gb173, 1, none⟩ = some (.int .i64 a0_1) := (blk_cell BK173.out 1).trans rfl
        have hcz10_2 : w6.cell? ⟨gb173, 2, none⟩ = some (.int .i64 a0_2) := (blk_cell BK173.out 2).trans rfl
        have hfz10_0 := blk_frozen BK173.out 0
        have hfz10_1 := blk_frozen BK173.out 1
        have hfz10_2 := blk_frozen BK173.out 2
        go_wp2_with (first | (go_at_call 58; (with_reducible refine (pantileref04_Right.calls k a0_0 a0_1 a0_2 t175 _ A9.out).mono ?_); rintro e w' ⟨rfl, ⟨nd, rfl⟩⟩))
        go_meet
        case rel => exact ⟨_, (!t175), (by first | rfl | (simp; done) | (simp [*]; done)), H', ⟨by first | omega | exact Nat.le_refl _⟩, ⟨by (with_reducible repeat (first | refine blk_drewN ?_ _ | refine blk_drew ?_ | refine blk_alloc ?_ _)); exact BK173.out⟩, ⟨by repeat (first | (with_reducible first | exact HB.out | apply below_alloc | apply pw_below_drewN | apply below_drew1 | refine below_set ?_ GE173.out) | exact HB.out)⟩⟩
    case rest =>
      clear HC4
      try clear c1
      try clear p2
      try clear c3
      try clear c7
      try clear c7b0
      try clear hcz10_0
      try clear hcz10_1
      try clear hcz10_2
      try clear hcz8_0
      try clear hcz8_1
      try clear hcz8_2
      try clear hfz10_0
      try clear hfz10_1
      try clear hfz10_2
      try clear hfz8_0
      try clear hfz8_1
      try clear hfz8_2
      obtain ⟨kq, x21_3, rfl, HA, HJ3, BK173, HB⟩ := hcut
      cases kq with
      | zero => exact absurd HA.out (by simp [pantilelaw04_MaskWalk.j0])
      | succ kj3 =>
        have H := HA.out
        clear HA
        simp only [pantilelaw04_MaskWalk.j0] at H
        by_cases c11 : x21_3 = true
        · subst c11
          have H1 : (some true) = some r := by rw [if_pos rfl] at H; exact H
          clear H
          have H := H1
          clear H1
          obtain rfl := Option.some.inj H
          go_wp2
          go_ret
          exact ⟨by first | rfl | (simp [errW_none, errW_some] <;> rfl) | (simp [*, errW_none, errW_some] <;> rfl), by repeat (first | (with_reducible first | exact HB.out | apply below_alloc | apply pw_below_drewN | apply below_drew1 | refine below_set ?_ GE173.out) | exact HB.out)⟩
        · replace c11 := Bool.eq_false_iff.mpr c11
          subst c11
          have H1 : ((mask_Mask_First.f a0_0 a0_1 a0_2).bind fun bt176 => (pantilelaw04_MaskWalk.l0 kj3 0 (-1) bt176.1 bt176.2 a0_0 a0_1 a0_2)) = some r := by rw [if_neg (show ¬ (false = true) by decide)] at H; exact H
          clear H
          have H := H1
          clear H1
          replace H := Option.bind_eq_some_iff.mp H
          obtain ⟨⟨t176, t177⟩, A120, H⟩ := H
          replace H : (pantilelaw04_MaskWalk.l0 kj3 0 (-1) t176 t177 a0_0 a0_1 a0_2) = some r := H
          have A12 := Aside0.mk A120
          clear A120
          have H' := Aside0.mk H
          clear H
          have hcz13_0 : wc.cell? ⟨gb173, 0, none⟩ = some (.int .i64 a0_0) := (blk_cell BK173.out 0).trans rfl
          have hcz13_1 : wc.cell? ⟨gb173, 1, none⟩ = some (.int .i64 a0_1) := (blk_cell BK173.out 1).trans rfl
          have hcz13_2 : wc.cell? ⟨gb173, 2, none⟩ = some (.int .i64 a0_2) := (blk_cell BK173.out 2).trans rfl
          have hfz13_0 := blk_frozen BK173.out 0
          have hfz13_1 := blk_frozen BK173.out 1
          have hfz13_2 := blk_frozen BK173.out 2
          go_wp2_with (first | ((with_reducible refine gate_callee (f := 56) rfl ?_); refine goesL_ (some 24) rfl rfl Try.func56 (by kernel_rfl) rfl #[.agg #[.int .i64 a0_0, .int .i64 a0_1, .int .i64 a0_2]] rfl (by (try simp only [List.map_toArray, List.map_cons, List.map_nil]); first | done | rfl | (simp only [List.length_drop, List.length_take]; rfl)) ?_; (with_reducible refine (mask_Mask_First.calls a0_0 a0_1 a0_2 t176 t177 _ A12.out).mono ?_); rintro e w14 ⟨rfl, hb⟩; refine ⟨_, rfl, ?_⟩; have n0_ := Aside0.mk (blk_below (g := gb173) (o := .cells #[.int .i64 a0_0, .int .i64 a0_1, .int .i64 a0_2] 52 (0, 0)) (by (with_reducible repeat (first | refine blk_drewN ?_ _ | refine blk_drew ?_ | refine blk_alloc ?_ _)); exact BK173.out) hb); have n1_ := Aside0.mk (below_step (by repeat (first | (with_reducible first | exact HB.out | apply below_alloc | apply pw_below_drewN | apply below_drew1 | refine below_set ?_ GE173.out) | exact HB.out)) hb); clear BK173; clear HB; have BK173 := n0_; have HB := n1_; clear n0_ n1_; (try clear hb); (try clear hb2); (try clear hk); (try clear hi)))
          go_loopg [3, 4, 5, 6] kj3 (fun kq v3 v4 v5 v6 w' => ∃ (x3_2 : Int) (x4_2 : Int) (x5_2 : Int) (x6_2 : Bool), v3 = .int .i64 x3_2 ∧ v4 = .int .i64 x4_2 ∧ v5 = .int .i64 x5_2 ∧ v6 = .bool x6_2 ∧ Aside0 (pantilelaw04_MaskWalk.l0 kq x3_2 x4_2 x5_2 x6_2 a0_0 a0_1 a0_2 = some r) ∧ Aside0 (kq ≤ kj3) ∧ Aside0 (w'.heap[gb173]? = some (.cells #[.int .i64 a0_0, .int .i64 a0_1, .int .i64 a0_2] 52 (0, 0))) ∧ Aside0 (Below w.heap.size w w'))
          case atStart => exact ⟨(0), ((-1)), (t176), (t177), (by first | rfl | (simp; done) | (simp [*]; done)), (by first | rfl | (simp; done) | (simp [*]; done)), (by first | rfl | (simp; done) | (simp [*]; done)), (by first | rfl | (simp; done) | (simp [*]; done)), H', ⟨Nat.le_refl _⟩, ⟨by (with_reducible repeat (first | refine blk_drewN ?_ _ | refine blk_drew ?_ | refine blk_alloc ?_ _)); exact BK173.out⟩, ⟨by repeat (first | (with_reducible first | exact HB.out | apply below_alloc | apply pw_below_drewN | apply below_drew1 | refine below_set ?_ GE173.out) | exact HB.out)⟩⟩
          case round =>
            clear H'
            try clear c1
            try clear p2
            try clear c3
            try clear c5
            try clear c7
            try clear c7b0
            try clear c11
            try clear c12
            try clear hcz10_0
            try clear hcz10_1
            try clear hcz10_2
            try clear hcz13_0
            try clear hcz13_1
            try clear hcz13_2
            try clear hcz8_0
            try clear hcz8_1
            try clear hcz8_2
            try clear hfz10_0
            try clear hfz10_1
            try clear hfz10_2
            try clear hfz13_0
            try clear hfz13_1
            try clear hfz13_2
            try clear hfz8_0
            try clear hfz8_1
            try clear hfz8_2
            try clear p2
            obtain ⟨x3_2, x4_2, x5_2, x6_2, rfl, rfl, rfl, rfl, HA, HK2, BK173, HB⟩ := hrel
            cases gk with
            | zero => exact absurd HA.out (by simp [pantilelaw04_MaskWalk.l0])
            | succ k2 =>
              have H := HA.out
              clear HA
              simp only [pantilelaw04_MaskWalk.l0] at H
              by_cases c15 : x6_2 = true
              · subst c15
                have H1 : (if x5_2 ≤ x4_2 then (some false) else ((mask_Mask_Has.f a0_0 a0_1 a0_2 x5_2).bind fun t180 => (if t180 = true then ((pantileref04_Has.f k2 a0_0 a0_1 a0_2 x5_2).bind fun t181 => (if t181 = true then (if x3_2 > 5000 then (some false) else ((mask_Mask_Next.f k2 a0_0 a0_1 a0_2 x5_2).bind fun bt182 => (pantilelaw04_MaskWalk.l0 k2 (wrap64 (x3_2 + 1)) x5_2 bt182.1 bt182.2 a0_0 a0_1 a0_2))) else (some false))) else (some false)))) = some r := by rw [if_pos rfl] at H; exact H
                clear H
                have H := H1
                clear H1
                by_cases c16 : x5_2 ≤ x4_2
                · rw [if_pos c16] at H
                  have c16b0 : decide (x5_2 ≤ x4_2) = true := decide_eq_true c16
                  clear c16
                  exact Bool.noConfusion ((Option.some.inj H).trans HRT.out)
                · rw [if_neg c16] at H
                  have c16b0 : decide (x5_2 ≤ x4_2) = false := decide_eq_false c16
                  clear c16
                  replace H := Option.bind_eq_some_iff.mp H
                  obtain ⟨t180, A170, H⟩ := H
                  replace H : (if t180 = true then ((pantileref04_Has.f k2 a0_0 a0_1 a0_2 x5_2).bind fun t181 => (if t181 = true then (if x3_2 > 5000 then (some false) else ((mask_Mask_Next.f k2 a0_0 a0_1 a0_2 x5_2).bind fun bt182 => (pantilelaw04_MaskWalk.l0 k2 (wrap64 (x3_2 + 1)) x5_2 bt182.1 bt182.2 a0_0 a0_1 a0_2))) else (some false))) else (some false)) = some r := H
                  have A17 := Aside0.mk A170
                  clear A170
                  by_cases c18 : t180 = true
                  · subst c18
                    have H1 : ((pantileref04_Has.f k2 a0_0 a0_1 a0_2 x5_2).bind fun t181 => (if t181 = true then (if x3_2 > 5000 then (some false) else ((mask_Mask_Next.f k2 a0_0 a0_1 a0_2 x5_2).bind fun bt182 => (pantilelaw04_MaskWalk.l0 k2 (wrap64 (x3_2 + 1)) x5_2 bt182.1 bt182.2 a0_0 a0_1 a0_2))) else (some false))) = some r := by rw [if_pos rfl] at H; exact H
                    clear H
                    have H := H1
                    clear H1
                    replace H := Option.bind_eq_some_iff.mp H
                    obtain ⟨t181, A190, H⟩ := H
                    replace H : (if t181 = true then (if x3_2 > 5000 then (some false) else ((mask_Mask_Next.f k2 a0_0 a0_1 a0_2 x5_2).bind fun bt182 => (pantilelaw04_MaskWalk.l0 k2 (wrap64 (x3_2 + 1)) x5_2 bt182.1 bt182.2 a0_0 a0_1 a0_2))) else (some false)) = some r := H
                    have A19 := Aside0.mk A190
                    clear A190
                    by_cases c20 : t181 = true
                    · subst c20
                      have H1 : (if x3_2 > 5000 then (some false) else ((mask_Mask_Next.f k2 a0_0 a0_1 a0_2 x5_2).bind fun bt182 => (pantilelaw04_MaskWalk.l0 k2 (wrap64 (x3_2 + 1)) x5_2 bt182.1 bt182.2 a0_0 a0_1 a0_2))) = some r := by rw [if_pos rfl] at H; exact H
                      clear H
                      have H := H1
                      clear H1
                      by_cases c21 : x3_2 > 5000
                      · rw [if_pos c21] at H
                        have c21b0 : decide (5000 < x3_2) = true := decide_eq_true c21
                        clear c21
                        exact Bool.noConfusion ((Option.some.inj H).trans HRT.out)
                      · rw [if_neg c21] at H
                        have c21b0 : decide (5000 < x3_2) = false := decide_eq_false c21
                        clear c21
                        replace H := Option.bind_eq_some_iff.mp H
                        obtain ⟨⟨t182, t183⟩, A220, H⟩ := H
                        replace H : (pantilelaw04_MaskWalk.l0 k2 (wrap64 (x3_2 + 1)) x5_2 t182 t183 a0_0 a0_1 a0_2) = some r := H
                        have A22 := Aside0.mk A220
                        clear A220
                        have H' := Aside0.mk H
                        clear H
                        have hcz23_0 : wr.cell? ⟨gb173, 0, none⟩ = some (.int .i64 a0_0) := (blk_cell BK173.out 0).trans rfl
                        have hcz23_1 : wr.cell? ⟨gb173, 1, none⟩ = some (.int .i64 a0_1) := (blk_cell BK173.out 1).trans rfl
                        have hcz23_2 : wr.cell? ⟨gb173, 2, none⟩ = some (.int .i64 a0_2) := (blk_cell BK173.out 2).trans rfl
                        have hfz23_0 := blk_frozen BK173.out 0
                        have hfz23_1 := blk_frozen BK173.out 1
                        have hfz23_2 := blk_frozen BK173.out 2
                        go_wp2_with (first | (go_at_call 42; (with_reducible refine (mask_Mask_Has.calls a0_0 a0_1 a0_2 x5_2 true _ A17.out).mono ?_); rintro e w24 ⟨rfl, hb⟩; have n0_ := Aside0.mk (blk_below (g := gb173) (o := .cells #[.int .i64 a0_0, .int .i64 a0_1, .int .i64 a0_2] 52 (0, 0)) (by (with_reducible repeat (first | refine blk_drewN ?_ _ | refine blk_drew ?_ | refine blk_alloc ?_ _)); exact BK173.out) hb); have n1_ := Aside0.mk (below_step (by repeat (first | (with_reducible first | exact HB.out | apply below_alloc | apply pw_below_drewN | apply below_drew1 | refine below_set ?_ GE173.out) | exact HB.out)) hb); clear BK173; clear HB; have BK173 := n0_; have HB := n1_; clear n0_ n1_; (try clear hb); (try clear hb2); (try clear hk); (try clear hi); have hcz25_0 : w24.cell? ⟨gb173, 0, none⟩ = some (.int .i64 a0_0) := (blk_cell BK173.out 0).trans rfl; have hcz25_1 : w24.cell? ⟨gb173, 1, none⟩ = some (.int .i64 a0_1) := (blk_cell BK173.out 1).trans rfl; have hcz25_2 : w24.cell? ⟨gb173, 2, none⟩ = some (.int .i64 a0_2) := (blk_cell BK173.out 2).trans rfl; have hfz25_0 := blk_frozen BK173.out 0; have hfz25_1 := blk_frozen BK173.out 1; have hfz25_2 := blk_frozen BK173.out 2) | (go_at_call 61; (with_reducible refine (pantileref04_Has.calls k2 a0_0 a0_1 a0_2 x5_2 true _ A19.out).mono ?_); rintro e w' ⟨rfl, ⟨nd, rfl⟩⟩) | ((with_reducible refine gate_callee (f := 57) rfl ?_); refine goesL_ (some 58) rfl rfl Try.func57 (by kernel_rfl) rfl #[.agg #[.int .i64 a0_0, .int .i64 a0_1, .int .i64 a0_2], .int .i64 x5_2] rfl (by (try simp only [List.map_toArray, List.map_cons, List.map_nil]); first | done | rfl | (simp only [List.length_drop, List.length_take]; rfl)) ?_; (with_reducible refine (mask_Mask_Next.calls k2 a0_0 a0_1 a0_2 x5_2 t182 t183 _ A22.out).mono ?_); rintro e w26 ⟨rfl, hb⟩; refine ⟨_, rfl, ?_⟩; have n0_ := Aside0.mk (blk_below (g := gb173) (o := .cells #[.int .i64 a0_0, .int .i64 a0_1, .int .i64 a0_2] 52 (0, 0)) (by (with_reducible repeat (first | refine blk_drewN ?_ _ | refine blk_drew ?_ | refine blk_alloc ?_ _)); exact BK173.out) hb); have n1_ := Aside0.mk (below_step (by repeat (first | (with_reducible first | exact HB.out | apply below_alloc | apply pw_below_drewN | apply below_drew1 | refine below_set ?_ GE173.out) | exact HB.out)) hb); clear BK173; clear HB; have BK173 := n0_; have HB := n1_; clear n0_ n1_; (try clear hb); (try clear hb2); (try clear hk); (try clear hi)))
                        go_roundg k2
                        case measure => have := HJ3.out; have := HK2.out; omega
                        case rel => exact ⟨(wrap64 (x3_2 + 1)), (x5_2), (t182), (t183), (by first | rfl | (simp; done) | (simp [*]; done)), (by first | rfl | (simp; done) | (simp [*]; done)), (by first | rfl | (simp; done) | (simp [*]; done)), (by first | rfl | (simp; done) | (simp [*]; done)), H', ⟨by have := HJ3.out; have := HK2.out; omega⟩, ⟨by (with_reducible repeat (first | refine blk_drewN ?_ _ | refine blk_drew ?_ | refine blk_alloc ?_ _)); exact BK173.out⟩, ⟨by repeat (first | (with_reducible first | exact HB.out | apply below_alloc | apply pw_below_drewN | apply below_drew1 | refine below_set ?_ GE173.out) | exact HB.out)⟩⟩
                    · replace c20 := Bool.eq_false_iff.mpr c20
                      subst c20
                      have H1 : (some false) = some r := by rw [if_neg (show ¬ (false = true) by decide)] at H; exact H
                      clear H
                      have H := H1
                      clear H1
                      exact Bool.noConfusion ((Option.some.inj H).trans HRT.out)
                  · replace c18 := Bool.eq_false_iff.mpr c18
                    subst c18
                    have H1 : (some false) = some r := by rw [if_neg (show ¬ (false = true) by decide)] at H; exact H
                    clear H
                    have H := H1
                    clear H1
                    exact Bool.noConfusion ((Option.some.inj H).trans HRT.out)
              · replace c15 := Bool.eq_false_iff.mpr c15
                subst c15
                have H1 : ((mask_Mask_Count.f a0_0 a0_1 a0_2).bind fun t178 => (if x3_2 = t178 then ((mask_Mask_None.f a0_0 a0_1 a0_2).bind fun t179 => (some ((x3_2 == 0) == t179))) else (some false))) = some r := by rw [if_neg (show ¬ (false = true) by decide)] at H; exact H
                clear H
                have H := H1
                clear H1
                replace H := Option.bind_eq_some_iff.mp H
                obtain ⟨t178, A270, H⟩ := H
                replace H : (if x3_2 = t178 then ((mask_Mask_None.f a0_0 a0_1 a0_2).bind fun t179 => (some ((x3_2 == 0) == t179))) else (some false)) = some r := H
                have A27 := Aside0.mk A270
                clear A270
                by_cases c28 : x3_2 = t178
                · rw [if_pos c28] at H
                  have c28b0 : (x3_2 == t178) = true := beq_iff_eq.mpr c28
                  have c28b1 : (x3_2 != t178) = false := bne_eq_false_iff_eq.mpr c28
                  clear c28
                  replace H := Option.bind_eq_some_iff.mp H
                  obtain ⟨t179, A290, H⟩ := H
                  replace H : (some ((x3_2 == 0) == t179)) = some r := H
                  have A29 := Aside0.mk A290
                  clear A290
                  obtain rfl := Option.some.inj H
                  have hcz30_0 : wr.cell? ⟨gb173, 0, none⟩ = some (.int .i64 a0_0) := (blk_cell BK173.out 0).trans rfl
                  have hcz30_1 : wr.cell? ⟨gb173, 1, none⟩ = some (.int .i64 a0_1) := (blk_cell BK173.out 1).trans rfl
                  have hcz30_2 : wr.cell? ⟨gb173, 2, none⟩ = some (.int .i64 a0_2) := (blk_cell BK173.out 2).trans rfl
                  have hfz30_0 := blk_frozen BK173.out 0
                  have hfz30_1 := blk_frozen BK173.out 1
                  have hfz30_2 := blk_frozen BK173.out 2
                  go_wp2_with (first | ((with_reducible refine gate_callee (f := 59) rfl ?_); refine goesL_ (some 63) rfl rfl Try.func59 (by kernel_rfl) rfl #[.agg #[.int .i64 a0_0, .int .i64 a0_1, .int .i64 a0_2]] rfl (by (try simp only [List.map_toArray, List.map_cons, List.map_nil]); first | done | rfl | (simp only [List.length_drop, List.length_take]; rfl)) ?_; (with_reducible refine (mask_Mask_Count.calls a0_0 a0_1 a0_2 t178 _ A27.out).mono ?_); rintro e w31 ⟨rfl, hb⟩; refine ⟨_, rfl, ?_⟩; have n0_ := Aside0.mk (blk_below (g := gb173) (o := .cells #[.int .i64 a0_0, .int .i64 a0_1, .int .i64 a0_2] 52 (0, 0)) (by (with_reducible repeat (first | refine blk_drewN ?_ _ | refine blk_drew ?_ | refine blk_alloc ?_ _)); exact BK173.out) hb); have n1_ := Aside0.mk (below_step (by repeat (first | (with_reducible first | exact HB.out | apply below_alloc | apply pw_below_drewN | apply below_drew1 | refine below_set ?_ GE173.out) | exact HB.out)) hb); clear BK173; clear HB; have BK173 := n0_; have HB := n1_; clear n0_ n1_; (try clear hb); (try clear hb2); (try clear hk); (try clear hi); have hcz32_0 : w31.cell? ⟨gb173, 0, none⟩ = some (.int .i64 a0_0) := (blk_cell BK173.out 0).trans rfl; have hcz32_1 : w31.cell? ⟨gb173, 1, none⟩ = some (.int .i64 a0_1) := (blk_cell BK173.out 1).trans rfl; have hcz32_2 : w31.cell? ⟨gb173, 2, none⟩ = some (.int .i64 a0_2) := (blk_cell BK173.out 2).trans rfl; have hfz32_0 := blk_frozen BK173.out 0; have hfz32_1 := blk_frozen BK173.out 1; have hfz32_2 := blk_frozen BK173.out 2) | (go_at_call 41; (with_reducible refine (mask_Mask_None.calls a0_0 a0_1 a0_2 t179 _ A29.out).mono ?_); rintro e w33 ⟨rfl, hb⟩; have n0_ := Aside0.mk (blk_below (g := gb173) (o := .cells #[.int .i64 a0_0, .int .i64 a0_1, .int .i64 a0_2] 52 (0, 0)) (by (with_reducible repeat (first | refine blk_drewN ?_ _ | refine blk_drew ?_ | refine blk_alloc ?_ _)); exact BK173.out) hb); have n1_ := Aside0.mk (below_step (by repeat (first | (with_reducible first | exact HB.out | apply below_alloc | apply pw_below_drewN | apply below_drew1 | refine below_set ?_ GE173.out) | exact HB.out)) hb); clear BK173; clear HB; have BK173 := n0_; have HB := n1_; clear n0_ n1_; (try clear hb); (try clear hb2); (try clear hk); (try clear hi)))
                  go_ret
                  exact ⟨by first | rfl | (simp [errW_none, errW_some] <;> rfl) | (simp [*, errW_none, errW_some] <;> rfl), by repeat (first | (with_reducible first | exact HB.out | apply below_alloc | apply pw_below_drewN | apply below_drew1 | refine below_set ?_ GE173.out) | exact HB.out)⟩
                · rw [if_neg c28] at H
                  have c28b0 : (x3_2 == t178) = false := beq_eq_false_iff_ne.mpr c28
                  have c28b1 : (x3_2 != t178) = true := bne_iff_ne.mpr c28
                  exact Bool.noConfusion ((Option.some.inj H).trans HRT.out)
  · replace c3 := Bool.eq_false_iff.mpr c3
    subst c3
    have H1 : (some false) = some r := by rw [if_neg (show ¬ (false = true) by decide)] at H; exact H
    clear H
    have H := H1
    clear H1
    exact Bool.noConfusion ((Option.some.inj H).trans HRT.out)

/-- THE ONE PURE STATEMENT of pantilelaw04_MaskWalk: yours. -/
def pantilelaw04_MaskWalk.Pure : Prop := ∀ (a0_0 : Int) (a0_1 : Int) (a0_2 : Int), (Lit.int .i64 a0_0).wf = true → (Lit.int .i64 a0_1).wf = true → (Lit.int .i64 a0_2).wf = true → ∃ k, pantilelaw04_MaskWalk.f k a0_0 a0_1 a0_2 = some true
theorem pantilelaw04_MaskWalk.walk (P : pantilelaw04_MaskWalk.Pure) (a0_0 : Int) (a0_1 : Int) (a0_2 : Int) (w : World) (w0_0 : (Lit.int .i64 a0_0).wf = true) (w0_1 : (Lit.int .i64 a0_1).wf = true) (w0_2 : (Lit.int .i64 a0_2).wf = true) :
    Calls Try.prog 12 #[.agg #[.int .i64 a0_0, .int .i64 a0_1, .int .i64 a0_2]] w fun e w' => e = .returned (.bool true) ∧ Below w.heap.size w w' := by
  obtain ⟨k, h⟩ := P a0_0 a0_1 a0_2 w0_0 w0_1 w0_2
  refine (pantilelaw04_MaskWalk.calls k a0_0 a0_1 a0_2 true w rfl h).mono ?_
  rintro e w' ⟨rfl, hd⟩
  exact ⟨rfl, hd⟩

end Go.Proofs.Ythdphjbecibeaaa.PMaskWalk
