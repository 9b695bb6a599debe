-- Written by wip/tools/print2.py, a program of this session, over the kit's print of the program. Lean checks it.
import Derived.Test.YthdphjbecibeaaaPCoverOncex0
import Derived.Test.YthdphjbecibeaaaPCoverOncex1
import Derived.Test.YthdphjbecibeaaaPCoverOncex2
namespace Go.Proofs.Ythdphjbecibeaaa.PCoverOnce
open Go.RowKit Go.Proofs.YthdphjbecibeaaaW.PrintWords Go.Proofs.YthdphjbecibeaaaW.PrintLast Go.Proofs.YthdphjbecibeaaaW.PrintMore
attribute [local go_sem] max2_int min2_int max_two min_two max_three min_three max_four min_four   -- for this text's walks alone
set_option linter.unusedVariables false
set_option linter.unusedSimpArgs false

/-! ### cover_Least: function 68 -/
def cover_Least.f (k : Nat) (l0_0 : List Int) (l0_1 : List Int) : Option (List Int × Int × Int) := (box_Empty.f k l0_0 l0_1).bind fun bt144 => (if bt144.2 = 0 then (if bt144.1 = true then (some (([] : List Int), 0, 3)) else ((zbits_Part.f k l0_0 l0_1).bind fun bt146 => ((zbits_Cut.f k l0_0 bt146.1).bind fun bt148 => (some (bt148.1, bt146.1, 0))))) else (some (([] : List Int), 0, bt144.2)))
theorem cover_Least.mono : ∀ a0 a1 k, LeO (cover_Least.f k a0 a1) (cover_Least.f (k + 1) a0 a1) := by
  intro a0 a1 k
  unfold cover_Least.f
  repeat' first
      | (with_reducible exact box_Empty.mono _ _ _)
      | (with_reducible exact zbits_Cut.mono _ _ _)
      | (with_reducible exact zbits_Part.mono _ _ _)
      | (with_reducible exact LeO.refl _)
      | (with_reducible exact LeO.none _)
      | (with_reducible refine LeO.ite ?_ ?_)
      | (with_reducible refine LeO.bind ?_ (fun _ => ?_))
      | exact box_Empty.mono _ _ _
      | exact zbits_Cut.mono _ _ _
      | exact zbits_Part.mono _ _ _
      | exact LeO.none _
      | refine LeO.ite ?_ ?_
      | refine LeO.bind ?_ (fun _ => ?_)
set_option maxHeartbeats 8000000 in
set_option maxRecDepth 100000 in
theorem cover_Least.calls (k : Nat) (A0_0 : Option Addr) (c0_0 : Nat) (l0_0 : List Int) (A0_1 : Option Addr) (c0_1 : Nat) (l0_1 : List Int) (r1 : List Int) (r2 : Int) (r3 : Int) (w : World) (hr0_0 : Kd.C (Kd.int .u64) w A0_0 l0_0.length l0_0) (hc0_0 : l0_0.length ≤ c0_0) (hr0_1 : Kd.C (Kd.int .u64) w A0_1 l0_1.length l0_1) (hc0_1 : l0_1.length ≤ c0_1) (h : cover_Least.f k l0_0 l0_1 = some (r1, r2, r3)) :
    Calls Try.prog 68 #[.agg #[.slice A0_0 l0_0.length c0_0, .slice A0_1 l0_1.length c0_1]] w fun e w' => ∃ v0_ : Value, e = .returned (.tuple #[.agg #[v0_, .int .i64 r2], .int .i64 r3]) ∧ Kd.R (Kd.int .u64) 30 w' w.heap.size (fun _ => True) v0_ r1 ∧ Below w.heap.size w w' := by
  have hu32 := Try.underlying32
  have hu89 := Try.underlying89
  have HR0_0 := Aside0.mk hr0_0
  have HC0_0 := Aside0.mk hc0_0
  clear hr0_0 hc0_0
  have HR0_1 := Aside0.mk hr0_1
  have HC0_1 := Aside0.mk hc0_1
  clear hr0_1 hc0_1
  have HB := Aside0.mk (Below.refl w.heap.size w)
  have H : ((box_Empty.f k l0_0 l0_1).bind fun bt144 => (if bt144.2 = 0 then (if bt144.1 = true then (some (([] : List Int), 0, 3)) else ((zbits_Part.f k l0_0 l0_1).bind fun bt146 => ((zbits_Cut.f k l0_0 bt146.1).bind fun bt148 => (some (bt148.1, bt146.1, 0))))) else (some (([] : List Int), 0, bt144.2)))) = some (r1, r2, r3) := h
  clear h
  replace H := Option.bind_eq_some_iff.mp H
  obtain ⟨⟨t144, t145⟩, A20, H⟩ := H
  replace H : (if t145 = 0 then (if t144 = true then (some (([] : List Int), 0, 3)) else ((zbits_Part.f k l0_0 l0_1).bind fun bt146 => ((zbits_Cut.f k l0_0 bt146.1).bind fun bt148 => (some (bt148.1, bt146.1, 0))))) else (some (([] : List Int), 0, t145))) = some (r1, r2, r3) := H
  have A2 := Aside0.mk A20
  clear A20
  by_cases c3 : t145 = 0
  · rw [if_pos c3] at H
    have c3b0 : (t145 == 0) = true := beq_iff_eq.mpr c3
    have c3b1 : (t145 != 0) = false := bne_eq_false_iff_eq.mpr c3
    clear c3
    by_cases c4 : t144 = true
    · subst c4
      have H1 : (some (([] : List Int), 0, 3)) = some (r1, r2, r3) := by rw [if_pos rfl] at H; exact H
      clear H
      have H := H1
      clear H1
      simp only [Option.some.injEq, Prod.mk.injEq] at H
      obtain ⟨rfl, rfl, rfl⟩ := H
      go_enter Try.func68, Try.ntmps68
      go_wp2_with (first | ((with_reducible refine gate_dst (N := 1) rfl ?_); refine box_event ?hg (N := 1) ?hd (cs := #[.slice A0_0 l0_0.length c0_0, .slice A0_1 l0_1.length c0_1]) (t := 32) ?hr ?_; (case hd => rfl); (case hg => rfl); (case hr => first | (go_simp; done) | (go_simp; rfl)); intro gb142 hg w5 hbox hb; have n0_ := Aside0.mk (below_step (by repeat (first | (with_reducible first | exact HB.out | apply below_alloc | apply pw_below_drewN | apply below_drew1) | exact HB.out)) hb); have n1_ := Aside0.mk (hbox); have n2_ := Aside0.mk ((by rw [hg]; exact (below_size (by repeat (first | (with_reducible first | exact HB.out | apply below_alloc | apply pw_below_drewN | apply below_drew1) | exact HB.out))) : w.heap.size ≤ gb142)); have n3_ := Aside0.mk ((by rw [hg]; exact (below_size (by repeat (first | (with_reducible first | exact HB.out | apply below_alloc | apply pw_below_drewN | apply below_drew1) | exact HB.out))) : w.heap.size ≤ gb142)); clear HB; have HB := n0_; have BK142 := n1_; have GW142 := n2_; have GE142 := n3_; clear n0_ n1_ n2_ n3_; clear hb hbox hg) | ((with_reducible refine gate_dst (N := 2) rfl ?_); refine box_event ?hg (N := 2) ?hd (cs := #[.slice none 0 0, .int .i64 0]) (t := 89) ?hr ?_; (case hd => rfl); (case hg => rfl); (case hr => first | (go_simp; done) | (go_simp; rfl)); intro gb143 hg w6 hbox hb; have n0_ := Aside0.mk (blk_below (g := gb142) (o := .cells #[.slice A0_0 l0_0.length c0_0, .slice A0_1 l0_1.length c0_1] 32 (0, 0)) (by (with_reducible repeat (first | refine blk_drewN ?_ _ | refine blk_drew ?_ | refine blk_alloc ?_ _)); exact BK142.out) hb); have n1_ := Aside0.mk (below_step (by repeat (first | (with_reducible first | exact HB.out | apply below_alloc | apply pw_below_drewN | apply below_drew1 | refine below_set ?_ GE142.out) | exact HB.out)) hb); have n2_ := Aside0.mk (hbox); have n3_ := Aside0.mk ((by rw [hg]; exact (below_size (by repeat (first | (with_reducible first | exact HB.out | apply below_alloc | apply pw_below_drewN | apply below_drew1 | refine below_set ?_ GE142.out) | exact HB.out))) : w.heap.size ≤ gb143)); have n4_ := Aside0.mk ((by rw [hg]; exact (below_size (by repeat (first | (with_reducible first | exact HB.out | apply below_alloc | apply pw_below_drewN | apply below_drew1 | refine below_set ?_ GE142.out) | exact HB.out))) : w.heap.size ≤ gb143)); have n5_ := Aside0.mk ((by rw [hg]; exact Nat.ne_of_lt (blk_lt (g := gb142) (o := .cells #[.slice A0_0 l0_0.length c0_0, .slice A0_1 l0_1.length c0_1] 32 (0, 0)) (by (with_reducible repeat (first | refine blk_drewN ?_ _ | refine blk_drew ?_ | refine blk_alloc ?_ _)); exact BK142.out)) : gb142 ≠ gb143)); have n6_ := Aside0.mk ((by rw [hg]; exact Nat.ne_of_gt (blk_lt (g := gb142) (o := .cells #[.slice A0_0 l0_0.length c0_0, .slice A0_1 l0_1.length c0_1] 32 (0, 0)) (by (with_reducible repeat (first | refine blk_drewN ?_ _ | refine blk_drew ?_ | refine blk_alloc ?_ _)); exact BK142.out)) : gb143 ≠ gb142)); clear BK142; clear HB; have BK142 := n0_; have HB := n1_; have BK143 := n2_; have GW143 := n3_; have GE143 := n4_; have NB142_143 := n5_; have NB143_142 := n6_; clear n0_ n1_ n2_ n3_ n4_ n5_ n6_; clear hb hbox hg; have hnb7 := NB142_143.out; have hnc7 := NB143_142.out; have hcz8_0 : w6.cell? ⟨gb142, 0, none⟩ = some (.slice A0_0 l0_0.length c0_0) := (blk_cell BK142.out 0).trans rfl; have hcz8_1 : w6.cell? ⟨gb142, 1, none⟩ = some (.slice A0_1 l0_1.length c0_1) := (blk_cell BK142.out 1).trans rfl; have hfz8_0 := blk_frozen BK142.out 0; have hfz8_1 := blk_frozen BK142.out 1) | ((with_reducible refine gate_callee (f := 62) rfl ?_); refine goesL_ (some 12) rfl rfl Try.func62 (by kernel_rfl) rfl #[.agg #[.slice A0_0 l0_0.length c0_0, .slice A0_1 l0_1.length c0_1]] rfl (by (try simp only [List.map_toArray, List.map_cons, List.map_nil]); first | done | rfl | (simp only [List.length_drop, List.length_take]; rfl)) ?_; (with_reducible refine (box_Empty.calls k _ _ l0_0 _ _ l0_1 true t145 _ ?side1 ?side2 ?side3 ?side4 A2.out).mono ?_); (case side1 => repeat (first | exact (Kd.C_below HR0_0.out HB.out) | (with_reducible refine Kd.C_alloc ?_ _) | (with_reducible refine Kd.C_drewN ?_ _) | (with_reducible refine Kd.C_drew ?_))); (case side2 => exact HC0_0.out); (case side3 => repeat (first | exact (Kd.C_below HR0_1.out HB.out) | (with_reducible refine Kd.C_alloc ?_ _) | (with_reducible refine Kd.C_drewN ?_ _) | (with_reducible refine Kd.C_drew ?_))); (case side4 => exact HC0_1.out); rintro e w9 ⟨rfl, hb⟩; refine ⟨_, rfl, ?_⟩; have n0_ := Aside0.mk (blk_below (g := gb142) (o := .cells #[.slice A0_0 l0_0.length c0_0, .slice A0_1 l0_1.length c0_1] 32 (0, 0)) (by (with_reducible repeat (first | refine blk_drewN ?_ _ | refine blk_drew ?_ | refine blk_alloc ?_ _)); exact BK142.out) hb); have n1_ := Aside0.mk (blk_below (g := gb143) (o := .cells #[.slice none 0 0, .int .i64 0] 89 (0, 0)) (by (with_reducible repeat (first | refine blk_drewN ?_ _ | refine blk_drew ?_ | refine blk_alloc ?_ _)); exact BK143.out) hb); have n2_ := Aside0.mk (below_step (by repeat (first | (with_reducible first | exact HB.out | apply below_alloc | apply pw_below_drewN | apply below_drew1 | refine below_set ?_ GE142.out | refine below_set ?_ GE143.out) | exact HB.out)) hb); clear BK142; clear BK143; clear HB; have BK142 := n0_; have BK143 := n1_; have HB := n2_; clear n0_ n1_ n2_; (try clear hb); (try clear hb2); (try clear hk); (try clear hi); have hcz10_0 : w9.cell? ⟨gb143, 0, none⟩ = some (.slice none 0 0) := (blk_cell BK143.out 0).trans rfl; have hcz10_1 : w9.cell? ⟨gb143, 1, none⟩ = some (.int .i64 0) := (blk_cell BK143.out 1).trans rfl; have hfz10_0 := blk_frozen BK143.out 0; have hfz10_1 := blk_frozen BK143.out 1))
      refine bodyPost_ret (results_ct rfl _ _ gb143 89 #[.slice none 0 0, .int .i64 0] (0, 0) _ rfl (by (with_reducible repeat (first | refine blk_drewN ?_ _ | refine blk_drew ?_ | refine blk_alloc ?_ _)); refine blk_put (cs := #[.slice none 0 0, .int .i64 0]) ?_ 1 _ rfl; (with_reducible repeat (first | refine blk_drewN ?_ _ | refine blk_drew ?_ | refine blk_alloc ?_ _)); refine blk_put (cs := #[.slice none 0 0, .int .i64 0]) ?_ 0 _ rfl; (with_reducible repeat (first | refine blk_drewN ?_ _ | refine blk_drew ?_ | refine blk_alloc ?_ _)); exact BK143.out) Try.underlying89 rfl (by kernel_rfl)) rfl ?_
      exact ⟨_, by first | rfl | (simp [errW_none, errW_some] <;> rfl) | (simp [*, errW_none, errW_some] <;> rfl), by first | exact Kd.R_nil _ _ _ _ _ | exact Kd.N_nil _ _ _ _ _ | exact Kd.V_nil _ _ _ _ _ | exact Kd.Q_nil _ _ _ _ _ | exact Kd.S_nil _ _ _ _ _, by repeat (first | (with_reducible first | exact HB.out | apply below_alloc | apply pw_below_drewN | apply below_drew1 | refine below_set ?_ GE142.out | refine below_set ?_ GE143.out) | exact HB.out)⟩
    · replace c4 := Bool.eq_false_iff.mpr c4
      subst c4
      have H1 : ((zbits_Part.f k l0_0 l0_1).bind fun bt146 => ((zbits_Cut.f k l0_0 bt146.1).bind fun bt148 => (some (bt148.1, bt146.1, 0)))) = some (r1, r2, r3) := by rw [if_neg (show ¬ (false = true) by decide)] at H; exact H
      clear H
      have H := H1
      clear H1
      replace H := Option.bind_eq_some_iff.mp H
      obtain ⟨⟨t146, t147⟩, A110, H⟩ := H
      replace H : ((zbits_Cut.f k l0_0 t146).bind fun bt148 => (some (bt148.1, t146, 0))) = some (r1, r2, r3) := H
      have A11 := Aside0.mk A110
      clear A110
      replace H := Option.bind_eq_some_iff.mp H
      obtain ⟨⟨t148, t149⟩, A120, H⟩ := H
      replace H : (some (t148, t146, 0)) = some (r1, r2, r3) := H
      have A12 := Aside0.mk A120
      clear A120
      simp only [Option.some.injEq, Prod.mk.injEq] at H
      obtain ⟨rfl, rfl, rfl⟩ := H
      go_enter Try.func68, Try.ntmps68
      go_wp2_with (first | ((with_reducible refine gate_dst (N := 1) rfl ?_); refine box_event ?hg (N := 1) ?hd (cs := #[.slice A0_0 l0_0.length c0_0, .slice A0_1 l0_1.length c0_1]) (t := 32) ?hr ?_; (case hd => rfl); (case hg => rfl); (case hr => first | (go_simp; done) | (go_simp; rfl)); intro gb142 hg w13 hbox hb; have n0_ := Aside0.mk (below_step (by repeat (first | (with_reducible first | exact HB.out | apply below_alloc | apply pw_below_drewN | apply below_drew1) | exact HB.out)) hb); have n1_ := Aside0.mk (hbox); have n2_ := Aside0.mk ((by rw [hg]; exact (below_size (by repeat (first | (with_reducible first | exact HB.out | apply below_alloc | apply pw_below_drewN | apply below_drew1) | exact HB.out))) : w.heap.size ≤ gb142)); have n3_ := Aside0.mk ((by rw [hg]; exact (below_size (by repeat (first | (with_reducible first | exact HB.out | apply below_alloc | apply pw_below_drewN | apply below_drew1) | exact HB.out))) : w.heap.size ≤ gb142)); clear HB; have HB := n0_; have BK142 := n1_; have GW142 := n2_; have GE142 := n3_; clear n0_ n1_ n2_ n3_; clear hb hbox hg) | ((with_reducible refine gate_dst (N := 2) rfl ?_); refine box_event ?hg (N := 2) ?hd (cs := #[.slice none 0 0, .int .i64 0]) (t := 89) ?hr ?_; (case hd => rfl); (case hg => rfl); (case hr => first | (go_simp; done) | (go_simp; rfl)); intro gb143 hg w14 hbox hb; have n0_ := Aside0.mk (blk_below (g := gb142) (o := .cells #[.slice A0_0 l0_0.length c0_0, .slice A0_1 l0_1.length c0_1] 32 (0, 0)) (by (with_reducible repeat (first | refine blk_drewN ?_ _ | refine blk_drew ?_ | refine blk_alloc ?_ _)); exact BK142.out) hb); have n1_ := Aside0.mk (below_step (by repeat (first | (with_reducible first | exact HB.out | apply below_alloc | apply pw_below_drewN | apply below_drew1 | refine below_set ?_ GE142.out) | exact HB.out)) hb); have n2_ := Aside0.mk (hbox); have n3_ := Aside0.mk ((by rw [hg]; exact (below_size (by repeat (first | (with_reducible first | exact HB.out | apply below_alloc | apply pw_below_drewN | apply below_drew1 | refine below_set ?_ GE142.out) | exact HB.out))) : w.heap.size ≤ gb143)); have n4_ := Aside0.mk ((by rw [hg]; exact (below_size (by repeat (first | (with_reducible first | exact HB.out | apply below_alloc | apply pw_below_drewN | apply below_drew1 | refine below_set ?_ GE142.out) | exact HB.out))) : w.heap.size ≤ gb143)); have n5_ := Aside0.mk ((by rw [hg]; exact Nat.ne_of_lt (blk_lt (g := gb142) (o := .cells #[.slice A0_0 l0_0.length c0_0, .slice A0_1 l0_1.length c0_1] 32 (0, 0)) (by (with_reducible repeat (first | refine blk_drewN ?_ _ | refine blk_drew ?_ | refine blk_alloc ?_ _)); exact BK142.out)) : gb142 ≠ gb143)); have n6_ := Aside0.mk ((by rw [hg]; exact Nat.ne_of_gt (blk_lt (g := gb142) (o := .cells #[.slice A0_0 l0_0.length c0_0, .slice A0_1 l0_1.length c0_1] 32 (0, 0)) (by (with_reducible repeat (first | refine blk_drewN ?_ _ | refine blk_drew ?_ | refine blk_alloc ?_ _)); exact BK142.out)) : gb143 ≠ gb142)); clear BK142; clear HB; have BK142 := n0_; have HB := n1_; have BK143 := n2_; have GW143 := n3_; have GE143 := n4_; have NB142_143 := n5_; have NB143_142 := n6_; clear n0_ n1_ n2_ n3_ n4_ n5_ n6_; clear hb hbox hg; have hnb15 := NB142_143.out; have hnc15 := NB143_142.out; have hcz16_0 : w14.cell? ⟨gb142, 0, none⟩ = some (.slice A0_0 l0_0.length c0_0) := (blk_cell BK142.out 0).trans rfl; have hcz16_1 : w14.cell? ⟨gb142, 1, none⟩ = some (.slice A0_1 l0_1.length c0_1) := (blk_cell BK142.out 1).trans rfl; have hfz16_0 := blk_frozen BK142.out 0; have hfz16_1 := blk_frozen BK142.out 1) | ((with_reducible refine gate_callee (f := 62) rfl ?_); refine goesL_ (some 12) rfl rfl Try.func62 (by kernel_rfl) rfl #[.agg #[.slice A0_0 l0_0.length c0_0, .slice A0_1 l0_1.length c0_1]] rfl (by (try simp only [List.map_toArray, List.map_cons, List.map_nil]); first | done | rfl | (simp only [List.length_drop, List.length_take]; rfl)) ?_; (with_reducible refine (box_Empty.calls k _ _ l0_0 _ _ l0_1 false t145 _ ?side1 ?side2 ?side3 ?side4 A2.out).mono ?_); (case side1 => repeat (first | exact (Kd.C_below HR0_0.out HB.out) | (with_reducible refine Kd.C_alloc ?_ _) | (with_reducible refine Kd.C_drewN ?_ _) | (with_reducible refine Kd.C_drew ?_))); (case side2 => exact HC0_0.out); (case side3 => repeat (first | exact (Kd.C_below HR0_1.out HB.out) | (with_reducible refine Kd.C_alloc ?_ _) | (with_reducible refine Kd.C_drewN ?_ _) | (with_reducible refine Kd.C_drew ?_))); (case side4 => exact HC0_1.out); rintro e w17 ⟨rfl, hb⟩; refine ⟨_, rfl, ?_⟩; have n0_ := Aside0.mk (blk_below (g := gb142) (o := .cells #[.slice A0_0 l0_0.length c0_0, .slice A0_1 l0_1.length c0_1] 32 (0, 0)) (by (with_reducible repeat (first | refine blk_drewN ?_ _ | refine blk_drew ?_ | refine blk_alloc ?_ _)); exact BK142.out) hb); have n1_ := Aside0.mk (blk_below (g := gb143) (o := .cells #[.slice none 0 0, .int .i64 0] 89 (0, 0)) (by (with_reducible repeat (first | refine blk_drewN ?_ _ | refine blk_drew ?_ | refine blk_alloc ?_ _)); exact BK143.out) hb); have n2_ := Aside0.mk (below_step (by repeat (first | (with_reducible first | exact HB.out | apply below_alloc | apply pw_below_drewN | apply below_drew1 | refine below_set ?_ GE142.out | refine below_set ?_ GE143.out) | exact HB.out)) hb); clear BK142; clear BK143; clear HB; have BK142 := n0_; have BK143 := n1_; have HB := n2_; clear n0_ n1_ n2_; (try clear hb); (try clear hb2); (try clear hk); (try clear hi); have hcz18_0 : w17.cell? ⟨gb142, 0, none⟩ = some (.slice A0_0 l0_0.length c0_0) := (blk_cell BK142.out 0).trans rfl; have hcz18_1 : w17.cell? ⟨gb142, 1, none⟩ = some (.slice A0_1 l0_1.length c0_1) := (blk_cell BK142.out 1).trans rfl; have hfz18_0 := blk_frozen BK142.out 0; have hfz18_1 := blk_frozen BK142.out 1) | ((with_reducible refine gate_callee (f := 19) rfl ?_); refine goesL_ (some 28) rfl rfl Try.func19 (by kernel_rfl) rfl #[.slice A0_0 l0_0.length c0_0, .slice A0_1 l0_1.length c0_1] rfl (by (try simp only [List.map_toArray, List.map_cons, List.map_nil]); first | done | rfl | (simp only [List.length_drop, List.length_take]; rfl)) ?_; (with_reducible refine (zbits_Part.calls k _ _ l0_0 _ _ l0_1 t146 t147 _ ?side1 ?side2 ?side3 ?side4 A11.out).mono ?_); (case side1 => repeat (first | exact (Kd.C_below HR0_0.out HB.out) | (with_reducible refine Kd.C_alloc ?_ _) | (with_reducible refine Kd.C_drewN ?_ _) | (with_reducible refine Kd.C_drew ?_))); (case side2 => exact HC0_0.out); (case side3 => repeat (first | exact (Kd.C_below HR0_1.out HB.out) | (with_reducible refine Kd.C_alloc ?_ _) | (with_reducible refine Kd.C_drewN ?_ _) | (with_reducible refine Kd.C_drew ?_))); (case side4 => exact HC0_1.out); rintro e w' ⟨rfl, ⟨nd, rfl⟩⟩; refine ⟨_, rfl, ?_⟩; (try (rw [drewN_self w17]; generalize hq_ : World.drewN w17 _ = w17; have n0_ : Aside0 (w17.heap[gb142]? = some (.cells #[.slice A0_0 l0_0.length c0_0, .slice A0_1 l0_1.length c0_1] 32 (0, 0))) := ⟨by rw [← hq_]; exact (by (with_reducible repeat (first | refine blk_drewN ?_ _ | refine blk_drew ?_ | refine blk_alloc ?_ _)); exact BK142.out)⟩; have n1_ : Aside0 (w17.heap[gb143]? = some (.cells #[.slice none 0 0, .int .i64 0] 89 (0, 0))) := ⟨by rw [← hq_]; exact (by (with_reducible repeat (first | refine blk_drewN ?_ _ | refine blk_drew ?_ | refine blk_alloc ?_ _)); exact BK143.out)⟩; have n2_ : Aside0 (Below w.heap.size w w17) := ⟨by rw [← hq_]; exact (by repeat (first | (with_reducible first | exact HB.out | apply below_alloc | apply pw_below_drewN | apply below_drew1 | refine below_set ?_ GE142.out | refine below_set ?_ GE143.out) | exact HB.out))⟩; clear BK142 BK143 HB hq_; have BK142 := n0_; have BK143 := n1_; have HB := n2_; clear n0_ n1_ n2_)); have hcy_0 : w17.cell? ⟨gb142, 0, none⟩ = some (.slice A0_0 l0_0.length c0_0) := (blk_cell BK142.out 0).trans rfl; have hcy_1 : w17.cell? ⟨gb142, 1, none⟩ = some (.slice A0_1 l0_1.length c0_1) := (blk_cell BK142.out 1).trans rfl) | ((with_reducible refine gate_callee (f := 34) rfl ?_); refine goesL_ (some 35) rfl rfl Try.func34 (by kernel_rfl) rfl #[.slice A0_0 l0_0.length c0_0, .int .i64 t146] rfl (by (try simp only [List.map_toArray, List.map_cons, List.map_nil]); first | done | rfl | (simp only [List.length_drop, List.length_take]; rfl)) ?_; (with_reducible refine (zbits_Cut.calls k _ _ l0_0 t146 t148 t149 _ ?side1 ?side2 A12.out).mono ?_); (case side1 => repeat (first | exact (Kd.C_below HR0_0.out HB.out) | (with_reducible refine Kd.C_alloc ?_ _) | (with_reducible refine Kd.C_drewN ?_ _) | (with_reducible refine Kd.C_drew ?_))); (case side2 => exact HC0_0.out); rintro e w19 ⟨v150, rfl, ho0, hb⟩; refine ⟨_, rfl, ?_⟩; have n0_ := Aside0.mk (Kd.R_lower ho0 (below_size (by repeat (first | (with_reducible first | exact HB.out | apply below_alloc | apply pw_below_drewN | apply below_drew1 | refine below_set ?_ GE142.out | refine below_set ?_ GE143.out) | exact HB.out)))); have n1_ := Aside0.mk (blk_below (g := gb142) (o := .cells #[.slice A0_0 l0_0.length c0_0, .slice A0_1 l0_1.length c0_1] 32 (0, 0)) (by (with_reducible repeat (first | refine blk_drewN ?_ _ | refine blk_drew ?_ | refine blk_alloc ?_ _)); exact BK142.out) hb); have n2_ := Aside0.mk (blk_below (g := gb143) (o := .cells #[.slice none 0 0, .int .i64 0] 89 (0, 0)) (by (with_reducible repeat (first | refine blk_drewN ?_ _ | refine blk_drew ?_ | refine blk_alloc ?_ _)); exact BK143.out) hb); have n3_ := Aside0.mk (below_step (by repeat (first | (with_reducible first | exact HB.out | apply below_alloc | apply pw_below_drewN | apply below_drew1 | refine below_set ?_ GE142.out | refine below_set ?_ GE143.out) | exact HB.out)) hb); clear BK142; clear BK143; clear HB; have HO151 := n0_; have BK142 := n1_; have BK143 := n2_; have HB := n3_; clear n0_ n1_ n2_ n3_; (try clear hb); (try clear hb2); (try clear hk); (try clear hi); (try clear ho0); obtain ⟨Ao20, co20, eo20⟩ := Kd.R_slice HO151.out; subst eo20; have hcz21_0 : w19.cell? ⟨gb143, 0, none⟩ = some (.slice none 0 0) := (blk_cell BK143.out 0).trans rfl; have hcz21_1 : w19.cell? ⟨gb143, 1, none⟩ = some (.int .i64 0) := (blk_cell BK143.out 1).trans rfl; have hfz21_0 := blk_frozen BK143.out 0; have hfz21_1 := blk_frozen BK143.out 1))
      refine bodyPost_ret (results_ct rfl _ _ gb143 89 #[.slice Ao20 t148.length co20, .int .i64 t146] (0, 0) _ rfl (by (with_reducible repeat (first | refine blk_drewN ?_ _ | refine blk_drew ?_ | refine blk_alloc ?_ _)); refine blk_put (cs := #[.slice Ao20 t148.length co20, .int .i64 0]) ?_ 1 _ rfl; (with_reducible repeat (first | refine blk_drewN ?_ _ | refine blk_drew ?_ | refine blk_alloc ?_ _)); refine blk_put (cs := #[.slice none 0 0, .int .i64 0]) ?_ 0 _ rfl; (with_reducible repeat (first | refine blk_drewN ?_ _ | refine blk_drew ?_ | refine blk_alloc ?_ _)); exact BK143.out) Try.underlying89 rfl (by kernel_rfl)) rfl ?_
      exact ⟨_, by first | rfl | (simp [errW_none, errW_some] <;> rfl) | (simp [*, errW_none, errW_some] <;> rfl), by (with_reducible repeat (first | apply Kd.R_alloc | apply Kd.R_drewN | apply Kd.R_drew)); exact Kd.R_mono (Kd.R_far (p := ⟨gb143, 1, none⟩) (Kd.R_far (p := ⟨gb143, 0, none⟩) (Kd.R_types HO151.out BK143.out (by decide)) (fun _ hk => hk.2) (.slice Ao20 t148.length co20)) (fun _ hk => hk.2) (.int .i64 t146)) (fun _ hk => trivial), by repeat (first | (with_reducible first | exact HB.out | apply below_alloc | apply pw_below_drewN | apply below_drew1 | refine below_set ?_ GE142.out | refine below_set ?_ GE143.out) | exact HB.out)⟩
  · rw [if_neg c3] at H
    have c3b0 : (t145 == 0) = false := beq_eq_false_iff_ne.mpr c3
    have c3b1 : (t145 != 0) = true := bne_iff_ne.mpr c3
    simp only [Option.some.injEq, Prod.mk.injEq] at H
    obtain ⟨rfl, rfl, rfl⟩ := H
    go_enter Try.func68, Try.ntmps68
    go_wp2_with (first | ((with_reducible refine gate_dst (N := 1) rfl ?_); refine box_event ?hg (N := 1) ?hd (cs := #[.slice A0_0 l0_0.length c0_0, .slice A0_1 l0_1.length c0_1]) (t := 32) ?hr ?_; (case hd => rfl); (case hg => rfl); (case hr => first | (go_simp; done) | (go_simp; rfl)); intro gb142 hg w22 hbox hb; have n0_ := Aside0.mk (below_step (by repeat (first | (with_reducible first | exact HB.out | apply below_alloc | apply pw_below_drewN | apply below_drew1) | exact HB.out)) hb); have n1_ := Aside0.mk (hbox); have n2_ := Aside0.mk ((by rw [hg]; exact (below_size (by repeat (first | (with_reducible first | exact HB.out | apply below_alloc | apply pw_below_drewN | apply below_drew1) | exact HB.out))) : w.heap.size ≤ gb142)); have n3_ := Aside0.mk ((by rw [hg]; exact (below_size (by repeat (first | (with_reducible first | exact HB.out | apply below_alloc | apply pw_below_drewN | apply below_drew1) | exact HB.out))) : w.heap.size ≤ gb142)); clear HB; have HB := n0_; have BK142 := n1_; have GW142 := n2_; have GE142 := n3_; clear n0_ n1_ n2_ n3_; clear hb hbox hg) | ((with_reducible refine gate_dst (N := 2) rfl ?_); refine box_event ?hg (N := 2) ?hd (cs := #[.slice none 0 0, .int .i64 0]) (t := 89) ?hr ?_; (case hd => rfl); (case hg => rfl); (case hr => first | (go_simp; done) | (go_simp; rfl)); intro gb143 hg w23 hbox hb; have n0_ := Aside0.mk (blk_below (g := gb142) (o := .cells #[.slice A0_0 l0_0.length c0_0, .slice A0_1 l0_1.length c0_1] 32 (0, 0)) (by (with_reducible repeat (first | refine blk_drewN ?_ _ | refine blk_drew ?_ | refine blk_alloc ?_ _)); exact BK142.out) hb); have n1_ := Aside0.mk (below_step (by repeat (first | (with_reducible first | exact HB.out | apply below_alloc | apply pw_below_drewN | apply below_drew1 | refine below_set ?_ GE142.out) | exact HB.out)) hb); have n2_ := Aside0.mk (hbox); have n3_ := Aside0.mk ((by rw [hg]; exact (below_size (by repeat (first | (with_reducible first | exact HB.out | apply below_alloc | apply pw_below_drewN | apply below_drew1 | refine below_set ?_ GE142.out) | exact HB.out))) : w.heap.size ≤ gb143)); have n4_ := Aside0.mk ((by rw [hg]; exact (below_size (by repeat (first | (with_reducible first | exact HB.out | apply below_alloc | apply pw_below_drewN | apply below_drew1 | refine below_set ?_ GE142.out) | exact HB.out))) : w.heap.size ≤ gb143)); have n5_ := Aside0.mk ((by rw [hg]; exact Nat.ne_of_lt (blk_lt (g := gb142) (o := .cells #[.slice A0_0 l0_0.length c0_0, .slice A0_1 l0_1.length c0_1] 32 (0, 0)) (by (with_reducible repeat (first | refine blk_drewN ?_ _ | refine blk_drew ?_ | refine blk_alloc ?_ _)); exact BK142.out)) : gb142 ≠ gb143)); have n6_ := Aside0.mk ((by rw [hg]; exact Nat.ne_of_gt (blk_lt (g := gb142) (o := .cells #[.slice A0_0 l0_0.length c0_0, .slice A0_1 l0_1.length c0_1] 32 (0, 0)) (by (with_reducible repeat (first | refine blk_drewN ?_ _ | refine blk_drew ?_ | refine blk_alloc ?_ _)); exact BK142.out)) : gb143 ≠ gb142)); clear BK142; clear HB; have BK142 := n0_; have HB := n1_; have BK143 := n2_; have GW143 := n3_; have GE143 := n4_; have NB142_143 := n5_; have NB143_142 := n6_; clear n0_ n1_ n2_ n3_ n4_ n5_ n6_; clear hb hbox hg; have hnb24 := NB142_143.out; have hnc24 := NB143_142.out; have hcz25_0 : w23.cell? ⟨gb142, 0, none⟩ = some (.slice A0_0 l0_0.length c0_0) := (blk_cell BK142.out 0).trans rfl; have hcz25_1 : w23.cell? ⟨gb142, 1, none⟩ = some (.slice A0_1 l0_1.length c0_1) := (blk_cell BK142.out 1).trans rfl; have hfz25_0 := blk_frozen BK142.out 0; have hfz25_1 := blk_frozen BK142.out 1) | ((with_reducible refine gate_callee (f := 62) rfl ?_); refine goesL_ (some 12) rfl rfl Try.func62 (by kernel_rfl) rfl #[.agg #[.slice A0_0 l0_0.length c0_0, .slice A0_1 l0_1.length c0_1]] rfl (by (try simp only [List.map_toArray, List.map_cons, List.map_nil]); first | done | rfl | (simp only [List.length_drop, List.length_take]; rfl)) ?_; (with_reducible refine (box_Empty.calls k _ _ l0_0 _ _ l0_1 t144 t145 _ ?side1 ?side2 ?side3 ?side4 A2.out).mono ?_); (case side1 => repeat (first | exact (Kd.C_below HR0_0.out HB.out) | (with_reducible refine Kd.C_alloc ?_ _) | (with_reducible refine Kd.C_drewN ?_ _) | (with_reducible refine Kd.C_drew ?_))); (case side2 => exact HC0_0.out); (case side3 => repeat (first | exact (Kd.C_below HR0_1.out HB.out) | (with_reducible refine Kd.C_alloc ?_ _) | (with_reducible refine Kd.C_drewN ?_ _) | (with_reducible refine Kd.C_drew ?_))); (case side4 => exact HC0_1.out); rintro e w26 ⟨rfl, hb⟩; refine ⟨_, rfl, ?_⟩; have n0_ := Aside0.mk (blk_below (g := gb142) (o := .cells #[.slice A0_0 l0_0.length c0_0, .slice A0_1 l0_1.length c0_1] 32 (0, 0)) (by (with_reducible repeat (first | refine blk_drewN ?_ _ | refine blk_drew ?_ | refine blk_alloc ?_ _)); exact BK142.out) hb); have n1_ := Aside0.mk (blk_below (g := gb143) (o := .cells #[.slice none 0 0, .int .i64 0] 89 (0, 0)) (by (with_reducible repeat (first | refine blk_drewN ?_ _ | refine blk_drew ?_ | refine blk_alloc ?_ _)); exact BK143.out) hb); have n2_ := Aside0.mk (below_step (by repeat (first | (with_reducible first | exact HB.out | apply below_alloc | apply pw_below_drewN | apply below_drew1 | refine below_set ?_ GE142.out | refine below_set ?_ GE143.out) | exact HB.out)) hb); clear BK142; clear BK143; clear HB; have BK142 := n0_; have BK143 := n1_; have HB := n2_; clear n0_ n1_ n2_; (try clear hb); (try clear hb2); (try clear hk); (try clear hi); have hcz27_0 : w26.cell? ⟨gb143, 0, none⟩ = some (.slice none 0 0) := (blk_cell BK143.out 0).trans rfl; have hcz27_1 : w26.cell? ⟨gb143, 1, none⟩ = some (.int .i64 0) := (blk_cell BK143.out 1).trans rfl; have hfz27_0 := blk_frozen BK143.out 0; have hfz27_1 := blk_frozen BK143.out 1))
    refine bodyPost_ret (results_ct rfl _ _ gb143 89 #[.slice none 0 0, .int .i64 0] (0, 0) _ rfl (by (with_reducible repeat (first | refine blk_drewN ?_ _ | refine blk_drew ?_ | refine blk_alloc ?_ _)); refine blk_put (cs := #[.slice none 0 0, .int .i64 0]) ?_ 1 _ rfl; (with_reducible repeat (first | refine blk_drewN ?_ _ | refine blk_drew ?_ | refine blk_alloc ?_ _)); refine blk_put (cs := #[.slice none 0 0, .int .i64 0]) ?_ 0 _ rfl; (with_reducible repeat (first | refine blk_drewN ?_ _ | refine blk_drew ?_ | refine blk_alloc ?_ _)); exact BK143.out) Try.underlying89 rfl (by kernel_rfl)) rfl ?_
    exact ⟨_, by first | rfl | (simp [errW_none, errW_some] <;> rfl) | (simp [*, errW_none, errW_some] <;> rfl), by first | exact Kd.R_nil _ _ _ _ _ | exact Kd.N_nil _ _ _ _ _ | exact Kd.V_nil _ _ _ _ _ | exact Kd.Q_nil _ _ _ _ _ | exact Kd.S_nil _ _ _ _ _, by repeat (first | (with_reducible first | exact HB.out | apply below_alloc | apply pw_below_drewN | apply below_drew1 | refine below_set ?_ GE142.out | refine below_set ?_ GE143.out) | exact HB.out)⟩

/-! ### mask_check: function 82 -/
def mask_check.j0 : Nat → Int → Int → Bool → Option (Int)
  | 0, _, _, _ => none
  | k + 1, x1, x2, x9 => if x9 = true then (some 2) else (if x1 < x2 then (some 3) else (if x1 > 63 then (some 3) else (some 0)))
def mask_check.f (k : Nat) (l0 : List Int) (a1 : Int) (a2 : Int) (l3_0 : List Int) (l3_1 : List Int) : Option (Int) := (zbits_Right.f l0).bind fun t153 => (if t153 = true then (if (l3_0.length : Int) = (l0.length : Int) then (mask_check.j0 k a1 a2 ((l3_1.length : Int) != (l0.length : Int))) else (mask_check.j0 k a1 a2 true)) else (mask_check.j0 k a1 a2 true))
theorem mask_check.mono_l : ∀ k, (∀ y0 y1 y2, LeO (mask_check.j0 k y0 y1 y2) (mask_check.j0 (k + 1) y0 y1 y2))
  | 0 => fun _ _ _ r h => by simp [mask_check.j0] at h
  | k + 1 => by
    have ih0 := mask_check.mono_l k
    · intro y0 y1 y2
      unfold mask_check.j0
      repeat' first
      | (with_reducible exact ih0 _ _ _)
      | (with_reducible exact LeO.refl _)
      | (with_reducible exact LeO.none _)
      | (with_reducible refine LeO.ite ?_ ?_)
      | (with_reducible refine LeO.bind ?_ (fun _ => ?_))
      | exact ih0 _ _ _
      | exact LeO.none _
      | refine LeO.ite ?_ ?_
      | refine LeO.bind ?_ (fun _ => ?_)
theorem mask_check.mono : ∀ a0 a1 a2 a3 a4 k, LeO (mask_check.f k a0 a1 a2 a3 a4) (mask_check.f (k + 1) a0 a1 a2 a3 a4) := by
  intro a0 a1 a2 a3 a4 k
  have ih0 := mask_check.mono_l k
  unfold mask_check.f
  repeat' first
      | (with_reducible exact ih0 _ _ _)
      | (with_reducible exact LeO.refl _)
      | (with_reducible exact LeO.none _)
      | (with_reducible refine LeO.ite ?_ ?_)
      | (with_reducible refine LeO.bind ?_ (fun _ => ?_))
      | exact ih0 _ _ _
      | exact LeO.none _
      | refine LeO.ite ?_ ?_
      | refine LeO.bind ?_ (fun _ => ?_)
set_option maxHeartbeats 8000000 in
set_option maxRecDepth 100000 in
theorem mask_check.calls (k : Nat) (A0 : Option Addr) (c0 : Nat) (l0 : List Int) (a1 : Int) (a2 : Int) (A3_0 : Option Addr) (c3_0 : Nat) (l3_0 : List Int) (A3_1 : Option Addr) (c3_1 : Nat) (l3_1 : List Int) (r : Int) (w : World) (hr0 : Kd.C (Kd.int .u64) w A0 l0.length l0) (hc0 : l0.length ≤ c0) (hr3_0 : Kd.C (Kd.int .u64) w A3_0 l3_0.length l3_0) (hc3_0 : l3_0.length ≤ c3_0) (hr3_1 : Kd.C (Kd.int .u64) w A3_1 l3_1.length l3_1) (hc3_1 : l3_1.length ≤ c3_1) (h : mask_check.f k l0 a1 a2 l3_0 l3_1 = some r) :
    Calls Try.prog 82 #[.slice A0 l0.length c0, .int .i64 a1, .int .i64 a2, .agg #[.slice A3_0 l3_0.length c3_0, .slice A3_1 l3_1.length c3_1]] w fun e w' => e = .returned (.int .i64 r) ∧ Below w.heap.size w w' := by
  have hu32 := Try.underlying32
  have HR0 := Aside0.mk hr0
  have HC0 := Aside0.mk hc0
  clear hr0 hc0
  have HR3_0 := Aside0.mk hr3_0
  have HC3_0 := Aside0.mk hc3_0
  clear hr3_0 hc3_0
  have HR3_1 := Aside0.mk hr3_1
  have HC3_1 := Aside0.mk hc3_1
  clear hr3_1 hc3_1
  have HB := Aside0.mk (Below.refl w.heap.size w)
  have H : ((zbits_Right.f l0).bind fun t153 => (if t153 = true then (if (l3_0.length : Int) = (l0.length : Int) then (mask_check.j0 k a1 a2 ((l3_1.length : Int) != (l0.length : Int))) else (mask_check.j0 k a1 a2 true)) else (mask_check.j0 k a1 a2 true))) = some r := h
  clear h
  have HC5 := Aside0.mk H
  clear H
  go_enter Try.func82, Try.ntmps82
  go_upto_region 1 with (first | ((with_reducible refine gate_dst (N := 7) rfl ?_); (try (refine gate_guard (by rfl) ?_; dsimp only)); refine box_event ?hg (N := 7) ?hd (cs := #[.slice A3_0 l3_0.length c3_0, .slice A3_1 l3_1.length c3_1]) (t := 32) ?hr ?_; (case hd => rfl); (case hg => rfl); (case hr => first | (go_simp; done) | (go_simp; rfl)); intro gb152 hg w6 hbox hb; have n0_ := Aside0.mk (below_step (by repeat (first | (with_reducible first | exact HB.out | apply below_alloc | apply pw_below_drewN | apply below_drew1) | exact HB.out)) hb); have n1_ := Aside0.mk (hbox); have n2_ := Aside0.mk ((by rw [hg]; exact (below_size (by repeat (first | (with_reducible first | exact HB.out | apply below_alloc | apply pw_below_drewN | apply below_drew1) | exact HB.out))) : w.heap.size ≤ gb152)); have n3_ := Aside0.mk ((by rw [hg]; exact (below_size (by repeat (first | (with_reducible first | exact HB.out | apply below_alloc | apply pw_below_drewN | apply below_drew1) | exact HB.out))) : w.heap.size ≤ gb152)); clear HB; have HB := n0_; have BK152 := n1_; have GW152 := n2_; have GE152 := n3_; clear n0_ n1_ n2_ n3_; clear hb hbox hg))
  (try simp only [Act.put, List.setIfInBounds_toArray, List.set_cons_zero, List.set_cons_succ])
  go_cut [9] (fun v9 wc => ∃ (kq : Nat) (x9_4 : Bool), v9 = .bool x9_4 ∧ Aside0 (mask_check.j0 kq a1 a2 x9_4 = some r) ∧ Aside0 (kq ≤ k) ∧ Aside0 (wc.heap[gb152]? = some (.cells #[(.slice A3_0 l3_0.length c3_0), (.slice A3_1 l3_1.length c3_1)] 32 (0, 0))) ∧ Aside0 (Below w.heap.size w wc))
  case first =>
    have H := HC5.out
    clear HC5
    replace H := Option.bind_eq_some_iff.mp H
    obtain ⟨t153, A70, H⟩ := H
    replace H : (if t153 = true then (if (l3_0.length : Int) = (l0.length : Int) then (mask_check.j0 k a1 a2 ((l3_1.length : Int) != (l0.length : Int))) else (mask_check.j0 k a1 a2 true)) else (mask_check.j0 k a1 a2 true)) = some r := H
    have A7 := Aside0.mk A70
    clear A70
    by_cases c8 : t153 = true
    · subst c8
      have H1 : (if (l3_0.length : Int) = (l0.length : Int) then (mask_check.j0 k a1 a2 ((l3_1.length : Int) != (l0.length : Int))) else (mask_check.j0 k a1 a2 true)) = some r := by rw [if_pos rfl] at H; exact H
      clear H
      have H := H1
      clear H1
      by_cases c9 : (l3_0.length : Int) = (l0.length : Int)
      · rw [if_pos c9] at H
        have c9b0 : ((l3_0.length : Int) == (l0.length : Int)) = true := beq_iff_eq.mpr c9
        have c9b1 : ((l3_0.length : Int) != (l0.length : Int)) = false := bne_eq_false_iff_eq.mpr c9
        have c9b2 : (l3_0.length == l0.length) = true := by first | simpa using c9 | (simp at c9 ⊢; omega)
        clear c9
        (first | rw [c9b0] | (simp only [i64_w, i32_w]; rw [c9b0]) | skip)
        have H' := Aside0.mk H
        clear H
        go_wp2_with (first | ((with_reducible refine gate_callee (f := 45) rfl ?_); refine goesL_ (some 11) rfl rfl Try.func45 (by kernel_rfl) rfl #[.slice A0 l0.length c0] rfl (by (try simp only [List.map_toArray, List.map_cons, List.map_nil]); first | done | rfl | (simp only [List.length_drop, List.length_take]; rfl)) ?_; (with_reducible refine (zbits_Right.calls _ _ l0 true _ ?side1 ?side2 A7.out).mono ?_); (case side1 => repeat (first | exact (Kd.C_below HR0.out HB.out) | (with_reducible refine Kd.C_alloc ?_ _) | (with_reducible refine Kd.C_drewN ?_ _) | (with_reducible refine Kd.C_drew ?_))); (case side2 => exact HC0.out); rintro e w' ⟨rfl, ⟨nd, rfl⟩⟩; refine ⟨_, rfl, ?_⟩; have hcz10_0 : w6.cell? ⟨gb152, 0, none⟩ = some (.slice A3_0 l3_0.length c3_0) := (blk_cell BK152.out 0).trans rfl; have hcz10_1 : w6.cell? ⟨gb152, 1, none⟩ = some (.slice A3_1 l3_1.length c3_1) := (blk_cell BK152.out 1).trans rfl; have hfz10_0 := blk_frozen BK152.out 0; have hfz10_1 := blk_frozen BK152.out 1))
        go_meet
        case rel => exact ⟨_, (((l3_1.length : Int) != (l0.length : Int))), (by first | rfl | (simp; done) | (simp [*]; done)), H', ⟨by first | omega | exact Nat.le_refl _⟩, ⟨by (with_reducible repeat (first | refine blk_drewN ?_ _ | refine blk_drew ?_ | refine blk_alloc ?_ _)); exact BK152.out⟩, ⟨by repeat (first | (with_reducible first | exact HB.out | apply below_alloc | apply pw_below_drewN | apply below_drew1 | refine below_set ?_ GE152.out) | exact HB.out)⟩⟩
      · rw [if_neg c9] at H
        have c9b0 : ((l3_0.length : Int) == (l0.length : Int)) = false := beq_eq_false_iff_ne.mpr c9
        have c9b1 : ((l3_0.length : Int) != (l0.length : Int)) = true := bne_iff_ne.mpr c9
        have c9b2 : (l3_0.length == l0.length) = false := by first | simpa using c9 | (simp at c9 ⊢; omega)
        (first | rw [c9b0] | (simp only [i64_w, i32_w]; rw [c9b0]) | skip)
        have H' := Aside0.mk H
        clear H
        go_wp2_with (first | ((with_reducible refine gate_callee (f := 45) rfl ?_); refine goesL_ (some 11) rfl rfl Try.func45 (by kernel_rfl) rfl #[.slice A0 l0.length c0] rfl (by (try simp only [List.map_toArray, List.map_cons, List.map_nil]); first | done | rfl | (simp only [List.length_drop, List.length_take]; rfl)) ?_; (with_reducible refine (zbits_Right.calls _ _ l0 true _ ?side1 ?side2 A7.out).mono ?_); (case side1 => repeat (first | exact (Kd.C_below HR0.out HB.out) | (with_reducible refine Kd.C_alloc ?_ _) | (with_reducible refine Kd.C_drewN ?_ _) | (with_reducible refine Kd.C_drew ?_))); (case side2 => exact HC0.out); rintro e w' ⟨rfl, ⟨nd, rfl⟩⟩; refine ⟨_, rfl, ?_⟩; have hcz11_0 : w6.cell? ⟨gb152, 0, none⟩ = some (.slice A3_0 l3_0.length c3_0) := (blk_cell BK152.out 0).trans rfl; have hcz11_1 : w6.cell? ⟨gb152, 1, none⟩ = some (.slice A3_1 l3_1.length c3_1) := (blk_cell BK152.out 1).trans rfl; have hfz11_0 := blk_frozen BK152.out 0; have hfz11_1 := blk_frozen BK152.out 1))
        go_meet
        case rel => exact ⟨_, (true), (by first | rfl | (simp; done) | (simp [*]; done)), H', ⟨by first | omega | exact Nat.le_refl _⟩, ⟨by (with_reducible repeat (first | refine blk_drewN ?_ _ | refine blk_drew ?_ | refine blk_alloc ?_ _)); exact BK152.out⟩, ⟨by repeat (first | (with_reducible first | exact HB.out | apply below_alloc | apply pw_below_drewN | apply below_drew1 | refine below_set ?_ GE152.out) | exact HB.out)⟩⟩
    · replace c8 := Bool.eq_false_iff.mpr c8
      subst c8
      have H1 : (mask_check.j0 k a1 a2 true) = some r := by rw [if_neg (show ¬ (false = true) by decide)] at H; exact H
      clear H
      have H := H1
      clear H1
      have H' := Aside0.mk H
      clear H
      go_wp2_with (first | ((with_reducible refine gate_callee (f := 45) rfl ?_); refine goesL_ (some 11) rfl rfl Try.func45 (by kernel_rfl) rfl #[.slice A0 l0.length c0] rfl (by (try simp only [List.map_toArray, List.map_cons, List.map_nil]); first | done | rfl | (simp only [List.length_drop, List.length_take]; rfl)) ?_; (with_reducible refine (zbits_Right.calls _ _ l0 false _ ?side1 ?side2 A7.out).mono ?_); (case side1 => repeat (first | exact (Kd.C_below HR0.out HB.out) | (with_reducible refine Kd.C_alloc ?_ _) | (with_reducible refine Kd.C_drewN ?_ _) | (with_reducible refine Kd.C_drew ?_))); (case side2 => exact HC0.out); rintro e w' ⟨rfl, ⟨nd, rfl⟩⟩; refine ⟨_, rfl, ?_⟩))
      go_meet
      case rel => exact ⟨_, (true), (by first | rfl | (simp; done) | (simp [*]; done)), H', ⟨by first | omega | exact Nat.le_refl _⟩, ⟨by (with_reducible repeat (first | refine blk_drewN ?_ _ | refine blk_drew ?_ | refine blk_alloc ?_ _)); exact BK152.out⟩, ⟨by repeat (first | (with_reducible first | exact HB.out | apply below_alloc | apply pw_below_drewN | apply below_drew1 | refine below_set ?_ GE152.out) | exact HB.out)⟩⟩
  case rest =>
    clear HC5
    try clear p2
    try clear c3
    try clear c4
    try clear c8
    try clear c9
    try clear c9b0
    try clear c9b1
    try clear c9b2
    try clear hcz10_0
    try clear hcz10_1
    try clear hcz11_0
    try clear hcz11_1
    try clear hfz10_0
    try clear hfz10_1
    try clear hfz11_0
    try clear hfz11_1
    obtain ⟨kq, x9_4, rfl, HA, HJ4, BK152, HB⟩ := hcut
    cases kq with
    | zero => exact absurd HA.out (by simp [mask_check.j0])
    | succ kj4 =>
      have H := HA.out
      clear HA
      simp only [mask_check.j0] at H
      by_cases c12 : x9_4 = true
      · subst c12
        have H1 : (some 2) = some r := by rw [if_pos rfl] at H; exact H
        clear H
        have H := H1
        clear H1
        obtain rfl := Option.some.inj H
        go_wp2
        go_ret
        exact ⟨by first | rfl | (simp [errW_none, errW_some] <;> rfl) | (simp [*, errW_none, errW_some] <;> rfl), by repeat (first | (with_reducible first | exact HB.out | apply below_alloc | apply pw_below_drewN | apply below_drew1 | refine below_set ?_ GE152.out) | exact HB.out)⟩
      · replace c12 := Bool.eq_false_iff.mpr c12
        subst c12
        have H1 : (if a1 < a2 then (some 3) else (if a1 > 63 then (some 3) else (some 0))) = some r := by rw [if_neg (show ¬ (false = true) by decide)] at H; exact H
        clear H
        have H := H1
        clear H1
        by_cases c13 : a1 < a2
        · rw [if_pos c13] at H
          have c13b0 : decide (a1 < a2) = true := decide_eq_true c13
          clear c13
          obtain rfl := Option.some.inj H
          go_wp2
          go_ret
          exact ⟨by first | rfl | (simp [errW_none, errW_some] <;> rfl) | (simp [*, errW_none, errW_some] <;> rfl), by repeat (first | (with_reducible first | exact HB.out | apply below_alloc | apply pw_below_drewN | apply below_drew1 | refine below_set ?_ GE152.out) | exact HB.out)⟩
        · rw [if_neg c13] at H
          have c13b0 : decide (a1 < a2) = false := decide_eq_false c13
          clear c13
          by_cases c14 : a1 > 63
          · rw [if_pos c14] at H
            have c14b0 : decide (63 < a1) = true := decide_eq_true c14
            clear c14
            obtain rfl := Option.some.inj H
            go_wp2
            go_ret
            exact ⟨by first | rfl | (simp [errW_none, errW_some] <;> rfl) | (simp [*, errW_none, errW_some] <;> rfl), by repeat (first | (with_reducible first | exact HB.out | apply below_alloc | apply pw_below_drewN | apply below_drew1 | refine below_set ?_ GE152.out) | exact HB.out)⟩
          · rw [if_neg c14] at H
            have c14b0 : decide (63 < a1) = false := decide_eq_false c14
            clear c14
            obtain rfl := Option.some.inj H
            go_wp2
            go_ret
            exact ⟨by first | rfl | (simp [errW_none, errW_some] <;> rfl) | (simp [*, errW_none, errW_some] <;> rfl), by repeat (first | (with_reducible first | exact HB.out | apply below_alloc | apply pw_below_drewN | apply below_drew1 | refine below_set ?_ GE152.out) | exact HB.out)⟩

/-! ### mask_halves: function 83 -/
def mask_halves.f (a0 : Int) (a1 : Int) : Option (Int × Int × Int × Int) := if 0 ≤ a1 then (some (Go.bits .andNot .u64 a0 (Go.bits .or .u64 (shl .u64 1 a1) (IntKind.u64.wrap ((shl .u64 1 a1) - 1))), Go.bits .or .u64 (Go.bits .andNot .u64 a0 (Go.bits .or .u64 (shl .u64 1 a1) (IntKind.u64.wrap ((shl .u64 1 a1) - 1)))) (IntKind.u64.wrap ((shl .u64 1 a1) - 1)), Go.bits .or .u64 (Go.bits .andNot .u64 a0 (Go.bits .or .u64 (shl .u64 1 a1) (IntKind.u64.wrap ((shl .u64 1 a1) - 1)))) (shl .u64 1 a1), Go.bits .or .u64 (Go.bits .or .u64 (Go.bits .andNot .u64 a0 (Go.bits .or .u64 (shl .u64 1 a1) (IntKind.u64.wrap ((shl .u64 1 a1) - 1)))) (shl .u64 1 a1)) (IntKind.u64.wrap ((shl .u64 1 a1) - 1)))) else (none)
set_option maxHeartbeats 8000000 in
set_option maxRecDepth 100000 in
theorem mask_halves.calls (a0 : Int) (a1 : Int) (r1 : Int) (r2 : Int) (r3 : Int) (r4 : Int) (w : World) (h : mask_halves.f a0 a1 = some (r1, r2, r3, r4)) :
    Calls Try.prog 83 #[.int .u64 a0, .int .i64 a1] w fun e w' => e = .returned (.tuple #[.agg #[.int .u64 r1, .int .u64 r2], .agg #[.int .u64 r3, .int .u64 r4]]) ∧ Below w.heap.size w w' := by
  have hu107 := Try.underlying107
  have HB := Aside0.mk (Below.refl w.heap.size w)
  have H : (if 0 ≤ a1 then (some (Go.bits .andNot .u64 a0 (Go.bits .or .u64 (shl .u64 1 a1) (IntKind.u64.wrap ((shl .u64 1 a1) - 1))), Go.bits .or .u64 (Go.bits .andNot .u64 a0 (Go.bits .or .u64 (shl .u64 1 a1) (IntKind.u64.wrap ((shl .u64 1 a1) - 1)))) (IntKind.u64.wrap ((shl .u64 1 a1) - 1)), Go.bits .or .u64 (Go.bits .andNot .u64 a0 (Go.bits .or .u64 (shl .u64 1 a1) (IntKind.u64.wrap ((shl .u64 1 a1) - 1)))) (shl .u64 1 a1), Go.bits .or .u64 (Go.bits .or .u64 (Go.bits .andNot .u64 a0 (Go.bits .or .u64 (shl .u64 1 a1) (IntKind.u64.wrap ((shl .u64 1 a1) - 1)))) (shl .u64 1 a1)) (IntKind.u64.wrap ((shl .u64 1 a1) - 1)))) else (none)) = some (r1, r2, r3, r4) := h
  clear h
  by_cases c3 : 0 ≤ a1
  · rw [if_pos c3] at H
    have c3b0 := eq_true c3
    have c3b1 : decide (0 ≤ a1) = true := decide_eq_true c3
    clear c3
    obtain ⟨ji4, hji4⟩ : ∃ j_ : Int, (shl .u64 1 a1) = j_ := ⟨_, rfl⟩
    replace H : (some (Go.bits .andNot .u64 a0 (Go.bits .or .u64 (ji4) (IntKind.u64.wrap ((ji4) - 1))), Go.bits .or .u64 (Go.bits .andNot .u64 a0 (Go.bits .or .u64 (ji4) (IntKind.u64.wrap ((ji4) - 1)))) (IntKind.u64.wrap ((ji4) - 1)), Go.bits .or .u64 (Go.bits .andNot .u64 a0 (Go.bits .or .u64 (ji4) (IntKind.u64.wrap ((ji4) - 1)))) (ji4), Go.bits .or .u64 (Go.bits .or .u64 (Go.bits .andNot .u64 a0 (Go.bits .or .u64 (ji4) (IntKind.u64.wrap ((ji4) - 1)))) (ji4)) (IntKind.u64.wrap ((ji4) - 1)))) = some (r1, r2, r3, r4) := by first | (rw [hji4] at H; exact H) | (simp only [hji4] at H ⊢; exact H)
    have hji4_ : (IntKind.u64.wrap (1 * 2 ^ min a1.toNat 64)) = ji4 := hji4
    have hji4z : a1 ≤ 64 → (IntKind.u64.wrap (1 * 2 ^ a1.toNat)) = ji4 := shl_small hji4
    have hji4u : (IntKind.u64.wrap (2 ^ min a1.toNat 64)) = ji4 := by have h_ := hji4_; rw [Int.one_mul] at h_; exact h_
    have hji4v : a1 ≤ 64 → (IntKind.u64.wrap (2 ^ a1.toNat)) = ji4 := fun hle_ => by have h_ := hji4z hle_; rw [Int.one_mul] at h_; exact h_
    simp only [Option.some.injEq, Prod.mk.injEq] at H
    obtain ⟨rfl, rfl, rfl, rfl⟩ := H
    go_enter Try.func83, Try.ntmps83
    go_wp2_with (first | ((with_reducible refine gate_dst (N := 4) rfl ?_); refine box_event ?hg (N := 4) ?hd (cs := #[.int .u64 0, .int .u64 0]) (t := 107) ?hr ?_; (case hd => rfl); (case hg => rfl); (case hr => first | (go_simp; done) | (go_simp; rfl)); intro gb154 hg w5 hbox hb; have n0_ := Aside0.mk (below_step (by repeat (first | (with_reducible first | exact HB.out | apply below_alloc | apply pw_below_drewN | apply below_drew1) | exact HB.out)) hb); have n1_ := Aside0.mk (hbox); have n2_ := Aside0.mk ((by rw [hg]; exact (below_size (by repeat (first | (with_reducible first | exact HB.out | apply below_alloc | apply pw_below_drewN | apply below_drew1) | exact HB.out))) : w.heap.size ≤ gb154)); have n3_ := Aside0.mk ((by rw [hg]; exact (below_size (by repeat (first | (with_reducible first | exact HB.out | apply below_alloc | apply pw_below_drewN | apply below_drew1) | exact HB.out))) : w.heap.size ≤ gb154)); clear HB; have HB := n0_; have BK154 := n1_; have GW154 := n2_; have GE154 := n3_; clear n0_ n1_ n2_ n3_; clear hb hbox hg) | ((with_reducible refine gate_dst (N := 5) rfl ?_); refine box_event ?hg (N := 5) ?hd (cs := #[.int .u64 0, .int .u64 0]) (t := 107) ?hr ?_; (case hd => rfl); (case hg => rfl); (case hr => first | (go_simp; done) | (go_simp; rfl)); intro gb155 hg w6 hbox hb; have n0_ := Aside0.mk (blk_below (g := gb154) (o := .cells #[.int .u64 0, .int .u64 0] 107 (0, 0)) (by (with_reducible repeat (first | refine blk_drewN ?_ _ | refine blk_drew ?_ | refine blk_alloc ?_ _)); exact BK154.out) hb); have n1_ := Aside0.mk (below_step (by repeat (first | (with_reducible first | exact HB.out | apply below_alloc | apply pw_below_drewN | apply below_drew1 | refine below_set ?_ GE154.out) | exact HB.out)) hb); have n2_ := Aside0.mk (hbox); have n3_ := Aside0.mk ((by rw [hg]; exact (below_size (by repeat (first | (with_reducible first | exact HB.out | apply below_alloc | apply pw_below_drewN | apply below_drew1 | refine below_set ?_ GE154.out) | exact HB.out))) : w.heap.size ≤ gb155)); have n4_ := Aside0.mk ((by rw [hg]; exact (below_size (by repeat (first | (with_reducible first | exact HB.out | apply below_alloc | apply pw_below_drewN | apply below_drew1 | refine below_set ?_ GE154.out) | exact HB.out))) : w.heap.size ≤ gb155)); have n5_ := Aside0.mk ((by rw [hg]; exact Nat.ne_of_lt (blk_lt (g := gb154) (o := .cells #[.int .u64 0, .int .u64 0] 107 (0, 0)) (by (with_reducible repeat (first | refine blk_drewN ?_ _ | refine blk_drew ?_ | refine blk_alloc ?_ _)); exact BK154.out)) : gb154 ≠ gb155)); have n6_ := Aside0.mk ((by rw [hg]; exact Nat.ne_of_gt (blk_lt (g := gb154) (o := .cells #[.int .u64 0, .int .u64 0] 107 (0, 0)) (by (with_reducible repeat (first | refine blk_drewN ?_ _ | refine blk_drew ?_ | refine blk_alloc ?_ _)); exact BK154.out)) : gb155 ≠ gb154)); clear BK154; clear HB; have BK154 := n0_; have HB := n1_; have BK155 := n2_; have GW155 := n3_; have GE155 := n4_; have NB154_155 := n5_; have NB155_154 := n6_; clear n0_ n1_ n2_ n3_ n4_ n5_ n6_; clear hb hbox hg; have hnb7 := NB154_155.out; have hnc7 := NB155_154.out; have hcz8_0 : w6.cell? ⟨gb154, 0, none⟩ = some (.int .u64 0) := (blk_cell BK154.out 0).trans rfl; have hcz8_1 : w6.cell? ⟨gb154, 1, none⟩ = some (.int .u64 0) := (blk_cell BK154.out 1).trans rfl; have hfz8_0 := blk_frozen BK154.out 0; have hfz8_1 := blk_frozen BK154.out 1; have hcz9_0 : w6.cell? ⟨gb155, 0, none⟩ = some (.int .u64 0) := (blk_cell BK155.out 0).trans rfl; have hcz9_1 : w6.cell? ⟨gb155, 1, none⟩ = some (.int .u64 0) := (blk_cell BK155.out 1).trans rfl; have hfz9_0 := blk_frozen BK155.out 0; have hfz9_1 := blk_frozen BK155.out 1))
    refine bodyPost_ret (results_cc rfl _ _ gb154 gb155 107 107 #[.int .u64 (Go.bits .andNot .u64 a0 (Go.bits .or .u64 (ji4) (IntKind.u64.wrap ((ji4) - 1)))), .int .u64 (Go.bits .or .u64 (Go.bits .andNot .u64 a0 (Go.bits .or .u64 (ji4) (IntKind.u64.wrap ((ji4) - 1)))) (IntKind.u64.wrap ((ji4) - 1)))] #[.int .u64 (Go.bits .or .u64 (Go.bits .andNot .u64 a0 (Go.bits .or .u64 (ji4) (IntKind.u64.wrap ((ji4) - 1)))) (ji4)), .int .u64 (Go.bits .or .u64 (Go.bits .or .u64 (Go.bits .andNot .u64 a0 (Go.bits .or .u64 (ji4) (IntKind.u64.wrap ((ji4) - 1)))) (ji4)) (IntKind.u64.wrap ((ji4) - 1)))] (0, 0) (0, 0) _ _ rfl (by (with_reducible repeat (first | refine blk_drewN ?_ _ | refine blk_drew ?_ | refine blk_alloc ?_ _)); refine blk_far ?_ NB154_155.out _; (with_reducible repeat (first | refine blk_drewN ?_ _ | refine blk_drew ?_ | refine blk_alloc ?_ _)); refine blk_far ?_ NB154_155.out _; (with_reducible repeat (first | refine blk_drewN ?_ _ | refine blk_drew ?_ | refine blk_alloc ?_ _)); refine blk_put (cs := #[.int .u64 (Go.bits .andNot .u64 a0 (Go.bits .or .u64 (ji4) (IntKind.u64.wrap ((ji4) - 1)))), .int .u64 0]) ?_ 1 _ rfl; (with_reducible repeat (first | refine blk_drewN ?_ _ | refine blk_drew ?_ | refine blk_alloc ?_ _)); refine blk_put (cs := #[.int .u64 0, .int .u64 0]) ?_ 0 _ rfl; (with_reducible repeat (first | refine blk_drewN ?_ _ | refine blk_drew ?_ | refine blk_alloc ?_ _)); exact BK154.out) Try.underlying107 rfl (by kernel_rfl) rfl (by (with_reducible repeat (first | refine blk_drewN ?_ _ | refine blk_drew ?_ | refine blk_alloc ?_ _)); refine blk_put (cs := #[.int .u64 (Go.bits .or .u64 (Go.bits .andNot .u64 a0 (Go.bits .or .u64 (ji4) (IntKind.u64.wrap ((ji4) - 1)))) (ji4)), .int .u64 0]) ?_ 1 _ rfl; (with_reducible repeat (first | refine blk_drewN ?_ _ | refine blk_drew ?_ | refine blk_alloc ?_ _)); refine blk_put (cs := #[.int .u64 0, .int .u64 0]) ?_ 0 _ rfl; (with_reducible repeat (first | refine blk_drewN ?_ _ | refine blk_drew ?_ | refine blk_alloc ?_ _)); refine blk_far ?_ NB155_154.out _; (with_reducible repeat (first | refine blk_drewN ?_ _ | refine blk_drew ?_ | refine blk_alloc ?_ _)); refine blk_far ?_ NB155_154.out _; (with_reducible repeat (first | refine blk_drewN ?_ _ | refine blk_drew ?_ | refine blk_alloc ?_ _)); exact BK155.out) Try.underlying107 rfl (by kernel_rfl)) rfl ?_
    exact ⟨by first | rfl | (simp [errW_none, errW_some] <;> rfl) | (simp only [← hji4]; first | rfl | (simp [errW_none, errW_some] <;> rfl)) | (simp [*, errW_none, errW_some] <;> rfl), by repeat (first | (with_reducible first | exact HB.out | apply below_alloc | apply pw_below_drewN | apply below_drew1 | refine below_set ?_ GE154.out | refine below_set ?_ GE155.out) | exact HB.out)⟩
  · rw [if_neg c3] at H
    exact absurd H (by simp)

/-! ### mask_leaves: function 84 -/
def mask_leaves.f (a0_0 : Int) (a0_1 : Int) (a1 : Int) (a2 : Int) : Option (Bool) := if a1 ≤ a2 then (if a0_0 ≤ a2 then (some (decide (a0_1 ≥ a1))) else (some false)) else (some false)
set_option maxHeartbeats 8000000 in
set_option maxRecDepth 100000 in
theorem mask_leaves.calls (a0_0 : Int) (a0_1 : Int) (a1 : Int) (a2 : Int) (r : Bool) (w : World) (h : mask_leaves.f a0_0 a0_1 a1 a2 = some r) :
    Calls Try.prog 84 #[.agg #[.int .u64 a0_0, .int .u64 a0_1], .int .u64 a1, .int .u64 a2] w fun e w' => e = .returned (.bool r) ∧ Below w.heap.size w w' := by
  have hu107 := Try.underlying107
  have HB := Aside0.mk (Below.refl w.heap.size w)
  have H : (if a1 ≤ a2 then (if a0_0 ≤ a2 then (some (decide (a0_1 ≥ a1))) else (some false)) else (some false)) = some r := h
  clear h
  by_cases c4 : a1 ≤ a2
  · rw [if_pos c4] at H
    have c4b0 : decide (a1 ≤ a2) = true := decide_eq_true c4
    clear c4
    by_cases c5 : a0_0 ≤ a2
    · rw [if_pos c5] at H
      have c5b0 : decide (a0_0 ≤ a2) = true := decide_eq_true c5
      clear c5
      obtain rfl := Option.some.inj H
      go_enter Try.func84, Try.ntmps84
      go_wp2_with (first | ((with_reducible refine gate_dst (N := 3) rfl ?_); refine box_event ?hg (N := 3) ?hd (cs := #[.int .u64 a0_0, .int .u64 a0_1]) (t := 107) ?hr ?_; (case hd => rfl); (case hg => rfl); (case hr => first | (go_simp; done) | (go_simp; rfl)); intro gb156 hg w6 hbox hb; have n0_ := Aside0.mk (below_step (by repeat (first | (with_reducible first | exact HB.out | apply below_alloc | apply pw_below_drewN | apply below_drew1) | exact HB.out)) hb); have n1_ := Aside0.mk (hbox); have n2_ := Aside0.mk ((by rw [hg]; exact (below_size (by repeat (first | (with_reducible first | exact HB.out | apply below_alloc | apply pw_below_drewN | apply below_drew1) | exact HB.out))) : w.heap.size ≤ gb156)); have n3_ := Aside0.mk ((by rw [hg]; exact (below_size (by repeat (first | (with_reducible first | exact HB.out | apply below_alloc | apply pw_below_drewN | apply below_drew1) | exact HB.out))) : w.heap.size ≤ gb156)); clear HB; have HB := n0_; have BK156 := n1_; have GW156 := n2_; have GE156 := n3_; clear n0_ n1_ n2_ n3_; clear hb hbox hg; have hcz7_0 : w6.cell? ⟨gb156, 0, none⟩ = some (.int .u64 a0_0) := (blk_cell BK156.out 0).trans rfl; have hcz7_1 : w6.cell? ⟨gb156, 1, none⟩ = some (.int .u64 a0_1) := (blk_cell BK156.out 1).trans rfl; have hfz7_0 := blk_frozen BK156.out 0; have hfz7_1 := blk_frozen BK156.out 1))
      go_ret
      exact ⟨by first | rfl | (simp [errW_none, errW_some] <;> rfl) | (simp [*, errW_none, errW_some] <;> rfl), by repeat (first | (with_reducible first | exact HB.out | apply below_alloc | apply pw_below_drewN | apply below_drew1 | refine below_set ?_ GE156.out) | exact HB.out)⟩
    · rw [if_neg c5] at H
      have c5b0 : decide (a0_0 ≤ a2) = false := decide_eq_false c5
      clear c5
      obtain rfl := Option.some.inj H
      go_enter Try.func84, Try.ntmps84
      go_wp2_with (first | ((with_reducible refine gate_dst (N := 3) rfl ?_); refine box_event ?hg (N := 3) ?hd (cs := #[.int .u64 a0_0, .int .u64 a0_1]) (t := 107) ?hr ?_; (case hd => rfl); (case hg => rfl); (case hr => first | (go_simp; done) | (go_simp; rfl)); intro gb156 hg w8 hbox hb; have n0_ := Aside0.mk (below_step (by repeat (first | (with_reducible first | exact HB.out | apply below_alloc | apply pw_below_drewN | apply below_drew1) | exact HB.out)) hb); have n1_ := Aside0.mk (hbox); have n2_ := Aside0.mk ((by rw [hg]; exact (below_size (by repeat (first | (with_reducible first | exact HB.out | apply below_alloc | apply pw_below_drewN | apply below_drew1) | exact HB.out))) : w.heap.size ≤ gb156)); have n3_ := Aside0.mk ((by rw [hg]; exact (below_size (by repeat (first | (with_reducible first | exact HB.out | apply below_alloc | apply pw_below_drewN | apply below_drew1) | exact HB.out))) : w.heap.size ≤ gb156)); clear HB; have HB := n0_; have BK156 := n1_; have GW156 := n2_; have GE156 := n3_; clear n0_ n1_ n2_ n3_; clear hb hbox hg; have hcz9_0 : w8.cell? ⟨gb156, 0, none⟩ = some (.int .u64 a0_0) := (blk_cell BK156.out 0).trans rfl; have hcz9_1 : w8.cell? ⟨gb156, 1, none⟩ = some (.int .u64 a0_1) := (blk_cell BK156.out 1).trans rfl; have hfz9_0 := blk_frozen BK156.out 0; have hfz9_1 := blk_frozen BK156.out 1))
      go_ret
      exact ⟨by first | rfl | (simp [errW_none, errW_some] <;> rfl) | (simp [*, errW_none, errW_some] <;> rfl), by repeat (first | (with_reducible first | exact HB.out | apply below_alloc | apply pw_below_drewN | apply below_drew1 | refine below_set ?_ GE156.out) | exact HB.out)⟩
  · rw [if_neg c4] at H
    have c4b0 : decide (a1 ≤ a2) = false := decide_eq_false c4
    clear c4
    obtain rfl := Option.some.inj H
    go_enter Try.func84, Try.ntmps84
    go_wp2_with (first | ((with_reducible refine gate_dst (N := 3) rfl ?_); refine box_event ?hg (N := 3) ?hd (cs := #[.int .u64 a0_0, .int .u64 a0_1]) (t := 107) ?hr ?_; (case hd => rfl); (case hg => rfl); (case hr => first | (go_simp; done) | (go_simp; rfl)); intro gb156 hg w10 hbox hb; have n0_ := Aside0.mk (below_step (by repeat (first | (with_reducible first | exact HB.out | apply below_alloc | apply pw_below_drewN | apply below_drew1) | exact HB.out)) hb); have n1_ := Aside0.mk (hbox); have n2_ := Aside0.mk ((by rw [hg]; exact (below_size (by repeat (first | (with_reducible first | exact HB.out | apply below_alloc | apply pw_below_drewN | apply below_drew1) | exact HB.out))) : w.heap.size ≤ gb156)); have n3_ := Aside0.mk ((by rw [hg]; exact (below_size (by repeat (first | (with_reducible first | exact HB.out | apply below_alloc | apply pw_below_drewN | apply below_drew1) | exact HB.out))) : w.heap.size ≤ gb156)); clear HB; have HB := n0_; have BK156 := n1_; have GW156 := n2_; have GE156 := n3_; clear n0_ n1_ n2_ n3_; clear hb hbox hg))
    go_ret
    exact ⟨by first | rfl | (simp [errW_none, errW_some] <;> rfl) | (simp [*, errW_none, errW_some] <;> rfl), by repeat (first | (with_reducible first | exact HB.out | apply below_alloc | apply pw_below_drewN | apply below_drew1 | refine below_set ?_ GE156.out) | exact HB.out)⟩

/-! ### mask_Of: function 38 -/
def mask_Of.l0 : Nat → Int → List Int → Int → Int → List Int → List Int → Int → Int → Int → Option (Int × Int × Int × Int)
  | 0, _, _, _, _, _, _, _, _, _ => none
  | k + 1, x1, x25, x26, x27, x158000, x158001, x161000, x161001, x161002 => if x27 < x26 then (if 0 ≤ x27 then (if x27 < (x25.length : Int) then ((mask_halves.f (rd x25 x27) x1).bind fun bt162 => (if x27 < (x158000.length : Int) then (if x27 < (x158001.length : Int) then ((mask_leaves.f bt162.1 bt162.2.1 (rd x158000 x27) (rd x158001 x27)).bind fun t170 => (if t170 = true then ((mask_leaves.f bt162.2.2.1 bt162.2.2.2 (rd x158000 x27) (rd x158001 x27)).bind fun t173 => (if t173 = true then (mask_Of.l0 k x1 x25 x26 (wrap64 (x27 + 1)) x158000 x158001 x161000 (wrap64 (x161001 * 2)) (Go.bits .or .i64 (wrap64 (x161002 * 2)) 1)) else (mask_Of.l0 k x1 x25 x26 (wrap64 (x27 + 1)) x158000 x158001 x161000 (wrap64 (x161001 * 2)) (wrap64 (x161002 * 2))))) else ((mask_leaves.f bt162.2.2.1 bt162.2.2.2 (rd x158000 x27) (rd x158001 x27)).bind fun t176 => (if t176 = true then (mask_Of.l0 k x1 x25 x26 (wrap64 (x27 + 1)) x158000 x158001 x161000 (Go.bits .or .i64 (wrap64 (x161001 * 2)) 1) (Go.bits .or .i64 (wrap64 (x161002 * 2)) 1)) else (mask_Of.l0 k x1 x25 x26 (wrap64 (x27 + 1)) x158000 x158001 x161000 (Go.bits .or .i64 (wrap64 (x161001 * 2)) 1) (wrap64 (x161002 * 2))))))) else (none)) else (none))) else (none)) else (none)) else (some (x161000, x161001, x161002, 0))
def mask_Of.f (k : Nat) (l0 : List Int) (a1 : Int) (l2_0 : List Int) (l2_1 : List Int) : Option (Int × Int × Int × Int) := (mask_check.f k l0 a1 0 l2_0 l2_1).bind fun t159 => (if t159 = 0 then (mask_Of.l0 k a1 l0 (l0.length : Int) 0 l2_0 l2_1 (l0.length : Int) 0 0) else (some (0, 0, 0, t159)))
theorem mask_Of.mono_l : ∀ k, (∀ y0 y1 y2 y3 y4 y5 y6 y7 y8, LeO (mask_Of.l0 k y0 y1 y2 y3 y4 y5 y6 y7 y8) (mask_Of.l0 (k + 1) y0 y1 y2 y3 y4 y5 y6 y7 y8))
  | 0 => fun _ _ _ _ _ _ _ _ _ r h => by simp [mask_Of.l0] at h
  | k + 1 => by
    have ih0 := mask_Of.mono_l k
    · intro y0 y1 y2 y3 y4 y5 y6 y7 y8
      unfold mask_Of.l0
      repeat' first
      | (with_reducible exact ih0 _ _ _ _ _ _ _ _ _)
      | (with_reducible exact mask_check.mono _ _ _ _ _ _)
      | (with_reducible exact LeO.refl _)
      | (with_reducible exact LeO.none _)
      | (with_reducible refine LeO.ite ?_ ?_)
      | (with_reducible refine LeO.bind ?_ (fun _ => ?_))
      | exact ih0 _ _ _ _ _ _ _ _ _
      | exact mask_check.mono _ _ _ _ _ _
      | exact LeO.none _
      | refine LeO.ite ?_ ?_
      | refine LeO.bind ?_ (fun _ => ?_)
theorem mask_Of.mono : ∀ a0 a1 a2 a3 k, LeO (mask_Of.f k a0 a1 a2 a3) (mask_Of.f (k + 1) a0 a1 a2 a3) := by
  intro a0 a1 a2 a3 k
  have ih0 := mask_Of.mono_l k
  unfold mask_Of.f
  repeat' first
      | (with_reducible exact ih0 _ _ _ _ _ _ _ _ _)
      | (with_reducible exact mask_check.mono _ _ _ _ _ _)
      | (with_reducible exact LeO.refl _)
      | (with_reducible exact LeO.none _)
      | (with_reducible refine LeO.ite ?_ ?_)
      | (with_reducible refine LeO.bind ?_ (fun _ => ?_))
      | exact ih0 _ _ _ _ _ _ _ _ _
      | exact mask_check.mono _ _ _ _ _ _
      | exact LeO.none _
      | refine LeO.ite ?_ ?_
      | refine LeO.bind ?_ (fun _ => ?_)
/-- What is carried in a round of Of: gb: the box's block; g6: the result's; g9: m's; gz, go: both halves'. -/
structure mask_Of.St (w : World) (gb g6 g9 gz go : Nat) (bx z o : Array Value) (K lw hw : Int) (w' : World) : Prop where
  box : w'.heap[gb]? = some (.cells bx 32 (0, 0))
  res : w'.heap[g6]? = some (.cells #[.int .i64 0, .int .i64 0, .int .i64 0] 52 (0, 0))
  m : w'.heap[g9]? = some (.cells #[.int .i64 K, .int .i64 lw, .int .i64 hw] 52 (0, 0))
  z : w'.heap[gz]? = some (.cells z 107 (0, 0))
  o : w'.heap[go]? = some (.cells o 107 (0, 0))
  below : Below w.heap.size w w'
  ge : w.heap.size ≤ g9 ∧ w.heap.size ≤ gz ∧ w.heap.size ≤ go
  ne : gb ≠ g9 ∧ g6 ≠ g9 ∧ gz ≠ g9 ∧ go ≠ g9 ∧ gb ≠ gz ∧ g6 ≠ gz ∧ gb ≠ go ∧ g6 ≠ go ∧ gz ≠ go
section
variable {w w' w2 : World} {gb g6 g9 gz go : Nat} {bx z o : Array Value} {K lw hw : Int}
theorem mask_Of.St.mv (h : mask_Of.St w gb g6 g9 gz go bx z o K lw hw w') (hb : Below w'.heap.size w' w2) : mask_Of.St w gb g6 g9 gz go bx z o K lw hw w2 :=
  ⟨blk_below h.box hb, blk_below h.res hb, blk_below h.m hb, blk_below h.z hb, blk_below h.o hb, below_then h.below h.below.size hb, h.ge, h.ne⟩
theorem mask_Of.St.set1 (h : mask_Of.St w gb g6 g9 gz go bx z o K lw hw w') (u : Int) : mask_Of.St w gb g6 g9 gz go bx z o K u hw (w'.setCell ⟨g9, 1, none⟩ (.int .i64 u)) :=
  ⟨blk_far (p := ⟨g9, 1, none⟩) h.box h.ne.1 _, blk_far (p := ⟨g9, 1, none⟩) h.res h.ne.2.1 _, blk_put h.m 1 _ rfl, blk_far (p := ⟨g9, 1, none⟩) h.z h.ne.2.2.1 _, blk_far (p := ⟨g9, 1, none⟩) h.o h.ne.2.2.2.1 _, h.below.setCell (p := ⟨g9, 1, none⟩) h.ge.1 _, h.ge, h.ne⟩
theorem mask_Of.St.set2 (h : mask_Of.St w gb g6 g9 gz go bx z o K lw hw w') (u : Int) : mask_Of.St w gb g6 g9 gz go bx z o K lw u (w'.setCell ⟨g9, 2, none⟩ (.int .i64 u)) :=
  ⟨blk_far (p := ⟨g9, 2, none⟩) h.box h.ne.1 _, blk_far (p := ⟨g9, 2, none⟩) h.res h.ne.2.1 _, blk_put h.m 2 _ rfl, blk_far (p := ⟨g9, 2, none⟩) h.z h.ne.2.2.1 _, blk_far (p := ⟨g9, 2, none⟩) h.o h.ne.2.2.2.1 _, h.below.setCell (p := ⟨g9, 2, none⟩) h.ge.1 _, h.ge, h.ne⟩
theorem mask_Of.St.halves {a0 a1 b0 b1 c0 c1 d0 d1 : Value} (h : mask_Of.St w gb g6 g9 gz go bx #[a0, a1] #[b0, b1] K lw hw w') : mask_Of.St w gb g6 g9 gz go bx #[c0, c1] #[d0, d1] K lw hw ((((w'.setCell ⟨gz, 0, none⟩ c0).setCell ⟨gz, 1, none⟩ c1).setCell ⟨go, 0, none⟩ d0).setCell ⟨go, 1, none⟩ d1) := by
  obtain ⟨hbox, hres, hm, hz, ho, hbelow, hge, hne⟩ := h
  have far : ∀ {g t cs}, w'.heap[g]? = some (.cells cs t (0, 0)) → g ≠ gz → g ≠ go → ((((w'.setCell ⟨gz, 0, none⟩ c0).setCell ⟨gz, 1, none⟩ c1).setCell ⟨go, 0, none⟩ d0).setCell ⟨go, 1, none⟩ d1).heap[g]? = some (.cells cs t (0, 0)) := fun hg h1 h2 =>
    blk_far (p := ⟨go, 1, none⟩) (blk_far (p := ⟨go, 0, none⟩) (blk_far (p := ⟨gz, 1, none⟩) (blk_far (p := ⟨gz, 0, none⟩) hg h1 c0) h1 c1) h2 d0) h2 d1
  refine ⟨far hbox hne.2.2.2.2.1 hne.2.2.2.2.2.2.1, far hres hne.2.2.2.2.2.1 hne.2.2.2.2.2.2.2.1, far hm (Ne.symm hne.2.2.1) (Ne.symm hne.2.2.2.1), ?_, ?_, ?_, hge, hne⟩
  · exact blk_far (p := ⟨go, 1, none⟩) (blk_far (p := ⟨go, 0, none⟩) (blk_put (blk_put hz 0 c0 rfl) 1 c1 rfl) hne.2.2.2.2.2.2.2.2 d0) hne.2.2.2.2.2.2.2.2 d1
  · exact blk_put (blk_put (blk_far (p := ⟨gz, 1, none⟩) (blk_far (p := ⟨gz, 0, none⟩) ho (Ne.symm hne.2.2.2.2.2.2.2.2) c0) (Ne.symm hne.2.2.2.2.2.2.2.2) c1) 0 d0 rfl) 1 d1 rfl
  · exact (((hbelow.setCell (p := ⟨gz, 0, none⟩) hge.2.1 c0).setCell (p := ⟨gz, 1, none⟩) hge.2.1 c1).setCell (p := ⟨go, 0, none⟩) hge.2.2 d0).setCell (p := ⟨go, 1, none⟩) hge.2.2 d1
end
set_option maxHeartbeats 8000000 in
set_option maxRecDepth 100000 in
theorem mask_Of.calls (k : Nat) (A0 : Option Addr) (c0 : Nat) (l0 : List Int) (a1 : Int) (A2_0 : Option Addr) (c2_0 : Nat) (l2_0 : List Int) (A2_1 : Option Addr) (c2_1 : Nat) (l2_1 : List Int) (r1 : Int) (r2 : Int) (r3 : Int) (r4 : Int) (w : World) (hr0 : Kd.C (Kd.int .u64) w A0 l0.length l0) (hc0 : l0.length ≤ c0) (hr2_0 : Kd.C (Kd.int .u64) w A2_0 l2_0.length l2_0) (hc2_0 : l2_0.length ≤ c2_0) (hr2_1 : Kd.C (Kd.int .u64) w A2_1 l2_1.length l2_1) (hc2_1 : l2_1.length ≤ c2_1) (h : mask_Of.f k l0 a1 l2_0 l2_1 = some (r1, r2, r3, r4)) :
    Calls Try.prog 38 #[.slice A0 l0.length c0, .int .i64 a1, .agg #[.slice A2_0 l2_0.length c2_0, .slice A2_1 l2_1.length c2_1]] w fun e w' => e = .returned (.tuple #[.agg #[.int .i64 r1, .int .i64 r2, .int .i64 r3], .int .i64 r4]) ∧ Below w.heap.size w w' := by
  have hu32 := Try.underlying32
  have hu52 := Try.underlying52
  have hu107 := Try.underlying107
  have HR := Aside0.mk hr0
  have HC := Aside0.mk hc0
  have HR0 := Aside0.mk hr2_0
  have HC0 := Aside0.mk hc2_0
  have HR1 := Aside0.mk hr2_1
  have HC1 := Aside0.mk hc2_1
  obtain ⟨ec, he, H1⟩ := Option.bind_eq_some_iff.mp h
  have HE := Aside0.mk he
  have H := Aside0.mk H1
  clear hr0 hc0 hr2_0 hc2_0 hr2_1 hc2_1 h he H1
  by_cases hz : ec = 0
  · subst hz
    have H0 := H.out
    rw [if_pos rfl] at H0
    have H' := Aside0.mk H0
    clear H H0
    go_enter Try.func38, Try.ntmps38
    go_wp2_with (first | ((with_reducible refine gate_dst (N := 5) rfl ?_); refine box_event ?hg (N := 5) ?hd (cs := #[.slice A2_0 l2_0.length c2_0, .slice A2_1 l2_1.length c2_1]) (t := 32) ?hr ?_; (case hd => rfl); (case hg => rfl); (case hr => first | (go_simp; done) | (go_simp; rfl)); intro gb hg w1 hbox hb; have HB := Aside0.mk hb; have BKB := Aside0.mk hbox; clear hb hbox hg) | ((with_reducible refine gate_dst (N := 6) rfl ?_); refine box_event ?hg (N := 6) ?hd (cs := #[.int .i64 0, .int .i64 0, .int .i64 0]) (t := 52) ?hr ?_; (case hd => rfl); (case hg => rfl); (case hr => first | (go_simp; done) | (go_simp; rfl)); intro g6 hg w2 hbox hb; have n0_ := Aside0.mk (below_step HB.out hb); have n1_ := Aside0.mk (blk_below BKB.out hb); have HG6 := Aside0.mk (show w.heap.size ≤ g6 by rw [hg]; exact HB.out.size); clear HB BKB; have HB := n0_; have BKB := n1_; have BK6 := Aside0.mk hbox; clear n0_ n1_ hb hbox hg; have hb20 := (blk_cell BKB.out 0).trans rfl; have hb21 := (blk_cell BKB.out 1).trans rfl) | (go_at_call 82; refine (mask_check.calls k A0 c0 l0 a1 0 A2_0 c2_0 l2_0 A2_1 c2_1 l2_1 _ _ (Kd.C_below HR.out HB.out) HC.out (Kd.C_below HR0.out HB.out) HC0.out (Kd.C_below HR1.out HB.out) HC1.out HE.out).mono ?_; rintro e w3 ⟨rfl, hb⟩; have n0_ := Aside0.mk (below_step HB.out hb); have n1_ := Aside0.mk (blk_below BKB.out hb); have n2_ := Aside0.mk (blk_below BK6.out hb); clear HB BKB BK6 hb; have HB := n0_; have BKB := n1_; have BK6 := n2_; clear n0_ n1_ n2_; have h60 := (blk_cell BK6.out 0).trans rfl; have h61 := (blk_cell BK6.out 1).trans rfl; have h62 := (blk_cell BK6.out 2).trans rfl; have f60 := blk_frozen BK6.out 0; have f61 := blk_frozen BK6.out 1; have f62 := blk_frozen BK6.out 2) | ((with_reducible refine gate_dst (N := 9) rfl ?_); refine box_event ?hg (N := 9) ?hd (cs := #[.int .i64 0, .int .i64 0, .int .i64 0]) (t := 52) ?hr ?_; (case hd => rfl); (case hg => rfl); (case hr => first | (go_simp; done) | (go_simp; rfl)); intro g9 hg w4 hbox hb; have n0_ := Aside0.mk (below_step HB.out hb); have n1_ := Aside0.mk (blk_below BKB.out hb); have n2_ := Aside0.mk (blk_below BK6.out hb); have HG9 := Aside0.mk (show w.heap.size ≤ g9 by rw [hg]; exact HB.out.size); have HN9 := Aside0.mk (show gb ≠ g9 ∧ g6 ≠ g9 by rw [hg]; exact ⟨Nat.ne_of_lt (blk_lt BKB.out), Nat.ne_of_lt (blk_lt BK6.out)⟩); clear HB BKB BK6; have HB := n0_; have BKB := n1_; have BK6 := n2_; have BK9 := Aside0.mk hbox; clear n0_ n1_ n2_ hb hbox hg h60 h61 h62 f60 f61 f62; have h90 := (blk_cell BK9.out 0).trans rfl; have h91 := (blk_cell BK9.out 1).trans rfl; have h92 := (blk_cell BK9.out 2).trans rfl; have f90 := blk_frozen BK9.out 0; have f91 := blk_frozen BK9.out 1; have f92 := blk_frozen BK9.out 2))
    have n0_ := Aside0.mk (blk_put (blk_put (blk_put BK9.out 0 (.int .i64 (l0.length : Int)) rfl) 1 (.int .i64 0) rfl) 2 (.int .i64 0) rfl)
    have n1_ := Aside0.mk (((HB.out.setCell (p := ⟨g9, 0, none⟩) HG9.out (.int .i64 (l0.length : Int))).setCell (p := ⟨g9, 1, none⟩) HG9.out (.int .i64 0)).setCell (p := ⟨g9, 2, none⟩) HG9.out (.int .i64 0))
    have n2_ := Aside0.mk (blk_far (p := ⟨g9, 2, none⟩) (blk_far (p := ⟨g9, 1, none⟩) (blk_far (p := ⟨g9, 0, none⟩) BKB.out HN9.out.1 (.int .i64 (l0.length : Int))) HN9.out.1 (.int .i64 0)) HN9.out.1 (.int .i64 0))
    have n3_ := Aside0.mk (blk_far (p := ⟨g9, 2, none⟩) (blk_far (p := ⟨g9, 1, none⟩) (blk_far (p := ⟨g9, 0, none⟩) BK6.out HN9.out.2 (.int .i64 (l0.length : Int))) HN9.out.2 (.int .i64 0)) HN9.out.2 (.int .i64 0))
    clear HB BKB BK6 BK9 h90 h91 h92 f90 f91 f92
    generalize ((w4.setCell ⟨g9, 0, none⟩ (.int .i64 (l0.length : Int))).setCell ⟨g9, 1, none⟩ (.int .i64 0)).setCell ⟨g9, 2, none⟩ (.int .i64 0) = w1 at n0_ n1_ n2_ n3_ ⊢
    go_loopg [27] k (fun kq v27 w' => ∃ x lw hw : Int, v27 = .int .i64 x ∧ Aside0 (mask_Of.l0 kq a1 l0 (l0.length : Int) x l2_0 l2_1 (l0.length : Int) lw hw = some (r1, r2, r3, r4)) ∧ Aside0 (kq ≤ k) ∧ Aside0 (w'.heap[gb]? = some (.cells #[.slice A2_0 l2_0.length c2_0, .slice A2_1 l2_1.length c2_1] 32 (0, 0))) ∧ Aside0 (w'.heap[g6]? = some (.cells #[.int .i64 0, .int .i64 0, .int .i64 0] 52 (0, 0))) ∧ Aside0 (w'.heap[g9]? = some (.cells #[.int .i64 (l0.length : Int), .int .i64 lw, .int .i64 hw] 52 (0, 0))) ∧ Aside0 (Below w.heap.size w w'))
    case atStart => exact ⟨0, 0, 0, rfl, H', ⟨Nat.le_refl _⟩, n2_, n3_, n0_, n1_⟩
    case round =>
      clear H' n0_ n1_ n2_ n3_
      obtain ⟨x, lw, hw, rfl, HA, HK, BKB, BK6, BK9, HB⟩ := hrel
      cases gk with
      | zero => exact absurd HA.out (by simp [mask_Of.l0])
      | succ k1 =>
        have H := HA.out
        clear HA
        simp only [mask_Of.l0] at H
        by_cases c1 : x < (l0.length : Int)
        · rw [if_pos c1] at H
          by_cases c2 : 0 ≤ x
          · rw [if_pos c2] at H
            rw [if_pos c1] at H
            obtain ⟨⟨t0, t1, t2, t3⟩, hh, H⟩ := Option.bind_eq_some_iff.mp H
            have HH := Aside0.mk hh
            dsimp only at H
            by_cases c3 : x < (l2_0.length : Int)
            · rw [if_pos c3] at H
              by_cases c4 : x < (l2_1.length : Int)
              · rw [if_pos c4] at H
                obtain ⟨tz, hz, H⟩ := Option.bind_eq_some_iff.mp H
                have HZ := Aside0.mk hz
                have HL := Aside0.mk H
                clear hh hz H
                obtain ⟨adp, ep, hxp⟩ := Kd.at_int HR.out x c2 c1
                subst ep
                have HXP := Aside0.mk hxp
                have hxp' := (HB.out.cell (World.block_lt_of_cell? w _ hxp)).trans hxp
                obtain ⟨ad0, e0, hx0⟩ := Kd.at_int HR0.out x c2 c3
                subst e0
                have HX0 := Aside0.mk hx0
                obtain ⟨ad1, e1, hx1⟩ := Kd.at_int HR1.out x c2 c4
                subst e1
                have HX1 := Aside0.mk hx1
                clear hxp hx0 hx1
                have d1 := decide_eq_true c1
                have p1 := eq_true c1
                have p2 := eq_true c2
                have p3 := eq_true c3
                have p4 := eq_true c4
                clear c1 c2 c3 c4
                go_wp2_with (first | (go_at_call 83; refine (mask_halves.calls (rd l0 x) a1 t0 t1 t2 t3 _ HH.out).mono ?_; rintro e w2 ⟨rfl, hb⟩; have n0_ := Aside0.mk (below_step HB.out hb); have n1_ := Aside0.mk (blk_below BKB.out hb); have n2_ := Aside0.mk (blk_below BK6.out hb); have n3_ := Aside0.mk (blk_below BK9.out hb); clear HB BKB BK6 BK9 hb; have HB := n0_; have BKB := n1_; have BK6 := n2_; have BK9 := n3_; clear n0_ n1_ n2_ n3_) | ((with_reducible refine gate_dst (N := 12) rfl ?_); refine box_event ?hg (N := 12) ?hd (cs := #[.int .u64 0, .int .u64 0]) (t := 107) ?hr ?_; (case hd => rfl); (case hg => rfl); (case hr => first | (go_simp; done) | (go_simp; rfl)); intro gz hg w3 hbox hb; have n0_ := Aside0.mk (below_step HB.out hb); have n1_ := Aside0.mk (blk_below BKB.out hb); have n2_ := Aside0.mk (blk_below BK6.out hb); have n3_ := Aside0.mk (blk_below BK9.out hb); have HGZ := Aside0.mk (show w.heap.size ≤ gz by rw [hg]; exact HB.out.size); have HNZ := Aside0.mk (show gb ≠ gz ∧ g6 ≠ gz ∧ gz ≠ g9 by rw [hg]; exact ⟨Nat.ne_of_lt (blk_lt BKB.out), Nat.ne_of_lt (blk_lt BK6.out), Nat.ne_of_gt (blk_lt BK9.out)⟩); clear HB BKB BK6 BK9; have HB := n0_; have BKB := n1_; have BK6 := n2_; have BK9 := n3_; have BKZ := Aside0.mk hbox; clear n0_ n1_ n2_ n3_ hb hbox hg) | ((with_reducible refine gate_dst (N := 13) rfl ?_); refine box_event ?hg (N := 13) ?hd (cs := #[.int .u64 0, .int .u64 0]) (t := 107) ?hr ?_; (case hd => rfl); (case hg => rfl); (case hr => first | (go_simp; done) | (go_simp; rfl)); intro go hg w4 hbox hb; have HS0 := Aside0.mk (mask_Of.St.mk (lw := lw) (hw := hw) (gz := gz) (g9 := g9) (go := go) (blk_below BKB.out hb) (blk_below BK6.out hb) (blk_below BK9.out hb) (blk_below BKZ.out hb) hbox (below_step HB.out hb) ⟨HG9.out, HGZ.out, by rw [hg]; exact HB.out.size⟩ (by rw [hg]; exact ⟨HN9.out.1, HN9.out.2, HNZ.out.2.2, Nat.ne_of_gt (blk_lt BK9.out), HNZ.out.1, HNZ.out.2.1, Nat.ne_of_lt (blk_lt BKB.out), Nat.ne_of_lt (blk_lt BK6.out), Nat.ne_of_lt (blk_lt BKZ.out)⟩)); clear hb hbox hg HB BKB BK6 BK9 BKZ; have z0 := (blk_cell HS0.out.z 0).trans rfl; have z1 := (blk_cell HS0.out.z 1).trans rfl; have fz0 := blk_frozen HS0.out.z 0; have fz1 := blk_frozen HS0.out.z 1; have hzo := HS0.out.ne.2.2.2.2.2.2.2.2; have hzo2 := Ne.symm hzo; have hz9 := HS0.out.ne.2.2.1; have hz92 := Ne.symm hz9; have ho9 := HS0.out.ne.2.2.2.1; have ho92 := Ne.symm ho9; have o0 := (blk_cell HS0.out.o 0).trans rfl; have o1 := (blk_cell HS0.out.o 1).trans rfl; have fo0 := blk_frozen HS0.out.o 0; have fo1 := blk_frozen HS0.out.o 1; have m0 := (blk_cell HS0.out.m 0).trans rfl; have m1 := (blk_cell HS0.out.m 1).trans rfl; have m2 := (blk_cell HS0.out.m 2).trans rfl; have fm1 := blk_frozen HS0.out.m 1; have fm2 := blk_frozen HS0.out.m 2))
                have n0_ := Aside0.mk (((HS0.out.halves (c0 := .int .u64 t0) (c1 := .int .u64 t1) (d0 := .int .u64 t2) (d1 := .int .u64 t3)).set1 (wrap64 (lw * 2))).set2 (wrap64 (hw * 2)))
                clear HS0 z0 z1 fz0 fz1 o0 o1 fo0 fo1 m0 m1 m2 fm1 fm2 hzo hzo2 hz9 hz92 ho9 ho92
                generalize (((((w4.setCell ⟨gz, 0, none⟩ (.int .u64 t0)).setCell ⟨gz, 1, none⟩ (.int .u64 t1)).setCell ⟨go, 0, none⟩ (.int .u64 t2)).setCell ⟨go, 1, none⟩ (.int .u64 t3)).setCell ⟨g9, 1, none⟩ (.int .i64 (wrap64 (lw * 2)))).setCell ⟨g9, 2, none⟩ (.int .i64 (wrap64 (hw * 2))) = w5 at n0_ ⊢
                have HS := n0_
                clear n0_
                refine start_ (n := 13) (S := fun w' => w'.cell? ⟨gz, 0, none⟩ = some (.int .u64 t0) ∧ w'.cell? ⟨gz, 1, none⟩ = some (.int .u64 t1) ∧ w'.cell? ⟨gb, 0, none⟩ = some (.slice (some ad0) l2_0.length c2_0) ∧ w'.cell? ⟨gb, 1, none⟩ = some (.slice (some ad1) l2_1.length c2_1) ∧ w'.cell? (ad0.add x.toNat) = some (.int .u64 (rd l2_0 x)) ∧ w'.cell? (ad1.add x.toNat) = some (.int .u64 (rd l2_1 x))) (ds := []) #[false, false, false, false, false, false, false, false, false, false, false, false, false] (by kernel_rfl) rfl rfl ⟨(blk_cell (HS.out.z) 0).trans rfl, (blk_cell (HS.out.z) 1).trans rfl, (blk_cell HS.out.box 0).trans rfl, (blk_cell HS.out.box 1).trans rfl, (HS.out.below.cell (World.block_lt_of_cell? w _ HX0.out)).trans HX0.out, (HS.out.below.cell (World.block_lt_of_cell? w _ HX1.out)).trans HX1.out⟩ (fun hHeld => ?_)
                have n0_ := Aside0.mk (HS.out.mv (below_drew (Below.refl _ _)))
                clear HS
                generalize w5.drew = w6 at n0_ hHeld ⊢
                have HS := n0_
                clear n0_
                refine pure_ (i := 1) (N := some 47) (v := ?_) (a' := ?_) #[false, true, false, false, false, false, false, false, false, false, false, false, false] rfl rfl (by kernel_rfl) (fun _ _ _ h => h) (Or.inl ⟨by rfl, ?_⟩) ?_ ?_
                rotate_left
                · intro w'
                  go_simp
                  with_reducible rfl
                rotate_left
                · simp only [Act.put, List.setIfInBounds_toArray, List.set_cons_zero, List.set_cons_succ, i64_w, i32_w]
                  rfl
                refine pure_ (i := 3) (N := some 49) (v := ?_) (a' := ?_) #[false, true, false, true, false, false, false, false, false, false, false, false, false] rfl rfl (by kernel_rfl) (fun _ _ _ h => h) (Or.inl ⟨by rfl, ?_⟩) ?_ ?_
                rotate_left
                · intro w'
                  go_simp
                  with_reducible rfl
                rotate_left
                · simp only [Act.put, List.setIfInBounds_toArray, List.set_cons_zero, List.set_cons_succ, i64_w, i32_w]
                  rfl
                refine pure_ (i := 6) (N := some 52) (v := ?_) (a' := ?_) #[false, true, false, true, false, false, true, false, false, false, false, false, false] rfl rfl (by kernel_rfl) (fun _ _ _ h => h) (Or.inl ⟨by rfl, ?_⟩) ?_ ?_
                rotate_left
                · intro w'
                  go_simp
                  with_reducible rfl
                rotate_left
                · simp only [Act.put, List.setIfInBounds_toArray, List.set_cons_zero, List.set_cons_succ, i64_w, i32_w]
                  rfl
                refine pure_ (i := 8) (N := some 54) (v := ?_) (a' := ?_) #[false, true, false, true, false, false, true, false, true, false, false, false, false] rfl rfl (by kernel_rfl) (fun _ _ _ h => h) (Or.inl ⟨by rfl, ?_⟩) ?_ ?_
                rotate_left
                · intro w'
                  go_simp
                  with_reducible rfl
                rotate_left
                · simp only [Act.put, List.setIfInBounds_toArray, List.set_cons_zero, List.set_cons_succ, i64_w, i32_w]
                  rfl
                refine take_ (i := 0) (N := some 46) (v := ?_) (a' := ?_) #[true, true, false, true, false, false, true, false, true, false, false, false, false] rfl rfl (by kernel_rfl) (fun _ _ _ h => h) (Or.inl ⟨by rfl, ?_⟩) hHeld ?_ ?_
                rotate_left
                · rintro w' ⟨s0, s1, s2, s3, s4, s5⟩
                  go_simp
                  with_reducible rfl
                rotate_left
                · simp only [Act.put, List.setIfInBounds_toArray, List.set_cons_zero, List.set_cons_succ, i64_w, i32_w]
                  rfl
                refine take_ (i := 2) (N := some 48) (v := ?_) (a' := ?_) #[true, true, true, true, false, false, true, false, true, false, false, false, false] rfl rfl (by kernel_rfl) (fun _ _ _ h => h) (Or.inl ⟨by rfl, ?_⟩) hHeld ?_ ?_
                rotate_left
                · rintro w' ⟨s0, s1, s2, s3, s4, s5⟩
                  go_simp
                  with_reducible rfl
                rotate_left
                · simp only [Act.put, List.setIfInBounds_toArray, List.set_cons_zero, List.set_cons_succ, i64_w, i32_w]
                  rfl
                refine pure_ (i := 4) (N := some 50) (v := ?_) (a' := ?_) #[true, true, true, true, true, false, true, false, true, false, false, false, false] rfl rfl (by kernel_rfl) (fun _ _ _ h => h) (Or.inl ⟨by rfl, ?_⟩) ?_ ?_
                rotate_left
                · intro w'
                  go_simp
                  with_reducible rfl
                rotate_left
                · simp only [Act.put, List.setIfInBounds_toArray, List.set_cons_zero, List.set_cons_succ, i64_w, i32_w]
                  rfl
                refine take_ (i := 5) (N := some 51) (v := ?_) (a' := ?_) #[true, true, true, true, true, true, true, false, true, false, false, false, false] rfl rfl (by kernel_rfl) (fun _ _ _ h => h) (Or.inl ⟨by rfl, ?_⟩) hHeld ?_ ?_
                rotate_left
                · rintro w' ⟨s0, s1, s2, s3, s4, s5⟩
                  go_simp
                  with_reducible rfl
                rotate_left
                · simp only [Act.put, List.setIfInBounds_toArray, List.set_cons_zero, List.set_cons_succ, i64_w, i32_w]
                  rfl
                refine take_ (i := 7) (N := some 53) (v := ?_) (a' := ?_) #[true, true, true, true, true, true, true, true, true, false, false, false, false] rfl rfl (by kernel_rfl) (fun _ _ _ h => h) (Or.inl ⟨by rfl, ?_⟩) hHeld ?_ ?_
                rotate_left
                · rintro w' ⟨s0, s1, s2, s3, s4, s5⟩
                  go_simp
                  with_reducible rfl
                rotate_left
                · simp only [Act.put, List.setIfInBounds_toArray, List.set_cons_zero, List.set_cons_succ, i64_w, i32_w]
                  rfl
                refine pure_ (i := 9) (N := some 55) (v := ?_) (a' := ?_) #[true, true, true, true, true, true, true, true, true, true, false, false, false] rfl rfl (by kernel_rfl) (fun _ _ _ h => h) (Or.inl ⟨by rfl, ?_⟩) ?_ ?_
                rotate_left
                · intro w'
                  go_simp
                  with_reducible rfl
                rotate_left
                · simp only [Act.put, List.setIfInBounds_toArray, List.set_cons_zero, List.set_cons_succ, i64_w, i32_w]
                  rfl
                refine take_ (i := 10) (N := some 56) (v := ?_) (a' := ?_) #[true, true, true, true, true, true, true, true, true, true, true, false, false] rfl rfl (by kernel_rfl) (fun _ _ _ h => h) (Or.inl ⟨by rfl, ?_⟩) hHeld ?_ ?_
                rotate_left
                · rintro w' ⟨s0, s1, s2, s3, s4, s5⟩
                  go_simp
                  with_reducible rfl
                rotate_left
                · simp only [Act.put, List.setIfInBounds_toArray, List.set_cons_zero, List.set_cons_succ, i64_w, i32_w]
                  rfl
                refine one_ (i := 11) (N := some 57) #[true, true, true, true, true, true, true, true, true, true, true, true, false] rfl rfl (by kernel_rfl) (by decide) (fun K hK => ?_)
                refine goes_ Try.func84 (by kernel_rfl) rfl #[.agg #[.int .u64 t0, .int .u64 t1], .int .u64 (rd l2_0 x), .int .u64 (rd l2_1 x)] (by rfl) rfl rfl (by (try simp only [List.map_toArray, List.map_cons, List.map_nil]); rfl) ?_
                refine (mask_leaves.calls t0 t1 (rd l2_0 x) (rd l2_1 x) _ _ HZ.out).mono ?_
                rintro e w7 ⟨rfl, hb⟩
                have n0_ := Aside0.mk (HS.out.mv hb)
                clear HS hb
                have HS := n0_
                clear n0_
                refine ⟨_, rfl, hK.out _ _ ⟨(blk_cell (HS.out.z) 0).trans rfl, (blk_cell (HS.out.z) 1).trans rfl, (blk_cell HS.out.box 0).trans rfl, (blk_cell HS.out.box 1).trans rfl, (HS.out.below.cell (World.block_lt_of_cell? w _ HX0.out)).trans HX0.out, (HS.out.below.cell (World.block_lt_of_cell? w _ HX1.out)).trans HX1.out⟩ (fun hHeld => ?_)⟩
                clear hK K
                refine norm_ (a' := ?_) ?_ ?_
                rotate_left
                · show Act.put _ (some 57) _ = _
                  simp only [Act.put, List.setIfInBounds_toArray, List.set_cons_zero, List.set_cons_succ, i64_w, i32_w]
                  rfl
                refine pure_ (i := 12) (N := some 58) (v := ?_) (a' := ?_) #[true, true, true, true, true, true, true, true, true, true, true, true, true] rfl rfl (by kernel_rfl) (fun _ _ _ h => h) (Or.inl ⟨by rfl, ?_⟩) ?_ ?_
                rotate_left
                · intro w'
                  go_simp
                  with_reducible rfl
                rotate_left
                · simp only [Act.put, List.setIfInBounds_toArray, List.set_cons_zero, List.set_cons_succ, i64_w, i32_w]
                  rfl
                refine done_ (by kernel_rfl) ?_
                by_cases htz : tz = true
                case' pos =>
                  subst htz
                  have H := HL.out
                  rw [if_pos rfl] at H
                  obtain ⟨tq, ho, H⟩ := Option.bind_eq_some_iff.mp H
                  have HO1 := Aside0.mk ho
                  have HL2 := Aside0.mk H
                  clear HL H ho
                  go_wp2
                  revert HS
                  generalize w7 = w8
                  intro HS
                case' neg =>
                  replace htz := Bool.eq_false_iff.mpr htz
                  subst htz
                  have H := HL.out
                  rw [if_neg (by simp)] at H
                  obtain ⟨tq, ho, H⟩ := Option.bind_eq_some_iff.mp H
                  have HO1 := Aside0.mk ho
                  have HL2 := Aside0.mk H
                  clear HL H ho
                  have m1 := (blk_cell HS.out.m 1).trans rfl
                  have fm1 := blk_frozen HS.out.m 1
                  go_wp2
                  have n0_ := Aside0.mk (HS.out.set1 (Go.bits .or .i64 (wrap64 (lw * 2)) 1))
                  clear HS m1 fm1
                  generalize w7.setCell ⟨g9, 1, none⟩ (.int .i64 (Go.bits .or .i64 (wrap64 (lw * 2)) 1)) = w8 at n0_ ⊢
                  have HS := n0_
                  clear n0_
                all_goals
                  refine start_ (n := 12) (S := fun w' => w'.cell? ⟨go, 0, none⟩ = some (.int .u64 t2) ∧ w'.cell? ⟨go, 1, none⟩ = some (.int .u64 t3) ∧ w'.cell? ⟨gb, 0, none⟩ = some (.slice (some ad0) l2_0.length c2_0) ∧ w'.cell? ⟨gb, 1, none⟩ = some (.slice (some ad1) l2_1.length c2_1) ∧ w'.cell? (ad0.add x.toNat) = some (.int .u64 (rd l2_0 x)) ∧ w'.cell? (ad1.add x.toNat) = some (.int .u64 (rd l2_1 x))) (ds := []) #[false, false, false, false, false, false, false, false, false, false, false, false] (by kernel_rfl) rfl rfl ⟨(blk_cell (HS.out.o) 0).trans rfl, (blk_cell (HS.out.o) 1).trans rfl, (blk_cell HS.out.box 0).trans rfl, (blk_cell HS.out.box 1).trans rfl, (HS.out.below.cell (World.block_lt_of_cell? w _ HX0.out)).trans HX0.out, (HS.out.below.cell (World.block_lt_of_cell? w _ HX1.out)).trans HX1.out⟩ (fun hHeld => ?_)
                  have n0_ := Aside0.mk (HS.out.mv (below_drew (Below.refl _ _)))
                  clear HS
                  generalize w8.drew = w9 at n0_ hHeld ⊢
                  have HS := n0_
                  clear n0_
                  refine pure_ (i := 1) (N := some 64) (v := ?_) (a' := ?_) #[false, true, false, false, false, false, false, false, false, false, false, false] rfl rfl (by kernel_rfl) (fun _ _ _ h => h) (Or.inl ⟨by rfl, ?_⟩) ?_ ?_
                  rotate_left
                  · intro w'
                    go_simp
                    with_reducible rfl
                  rotate_left
                  · simp only [Act.put, List.setIfInBounds_toArray, List.set_cons_zero, List.set_cons_succ, i64_w, i32_w]
                    rfl
                  refine pure_ (i := 3) (N := some 66) (v := ?_) (a' := ?_) #[false, true, false, true, false, false, false, false, false, false, false, false] rfl rfl (by kernel_rfl) (fun _ _ _ h => h) (Or.inl ⟨by rfl, ?_⟩) ?_ ?_
                  rotate_left
                  · intro w'
                    go_simp
                    with_reducible rfl
                  rotate_left
                  · simp only [Act.put, List.setIfInBounds_toArray, List.set_cons_zero, List.set_cons_succ, i64_w, i32_w]
                    rfl
                  refine pure_ (i := 6) (N := some 69) (v := ?_) (a' := ?_) #[false, true, false, true, false, false, true, false, false, false, false, false] rfl rfl (by kernel_rfl) (fun _ _ _ h => h) (Or.inl ⟨by rfl, ?_⟩) ?_ ?_
                  rotate_left
                  · intro w'
                    go_simp
                    with_reducible rfl
                  rotate_left
                  · simp only [Act.put, List.setIfInBounds_toArray, List.set_cons_zero, List.set_cons_succ, i64_w, i32_w]
                    rfl
                  refine pure_ (i := 8) (N := some 71) (v := ?_) (a' := ?_) #[false, true, false, true, false, false, true, false, true, false, false, false] rfl rfl (by kernel_rfl) (fun _ _ _ h => h) (Or.inl ⟨by rfl, ?_⟩) ?_ ?_
                  rotate_left
                  · intro w'
                    go_simp
                    with_reducible rfl
                  rotate_left
                  · simp only [Act.put, List.setIfInBounds_toArray, List.set_cons_zero, List.set_cons_succ, i64_w, i32_w]
                    rfl
                  refine take_ (i := 0) (N := some 63) (v := ?_) (a' := ?_) #[true, true, false, true, false, false, true, false, true, false, false, false] rfl rfl (by kernel_rfl) (fun _ _ _ h => h) (Or.inl ⟨by rfl, ?_⟩) hHeld ?_ ?_
                  rotate_left
                  · rintro w' ⟨s0, s1, s2, s3, s4, s5⟩
                    go_simp
                    with_reducible rfl
                  rotate_left
                  · simp only [Act.put, List.setIfInBounds_toArray, List.set_cons_zero, List.set_cons_succ, i64_w, i32_w]
                    rfl
                  refine take_ (i := 2) (N := some 65) (v := ?_) (a' := ?_) #[true, true, true, true, false, false, true, false, true, false, false, false] rfl rfl (by kernel_rfl) (fun _ _ _ h => h) (Or.inl ⟨by rfl, ?_⟩) hHeld ?_ ?_
                  rotate_left
                  · rintro w' ⟨s0, s1, s2, s3, s4, s5⟩
                    go_simp
                    with_reducible rfl
                  rotate_left
                  · simp only [Act.put, List.setIfInBounds_toArray, List.set_cons_zero, List.set_cons_succ, i64_w, i32_w]
                    rfl
                  refine pure_ (i := 4) (N := some 67) (v := ?_) (a' := ?_) #[true, true, true, true, true, false, true, false, true, false, false, false] rfl rfl (by kernel_rfl) (fun _ _ _ h => h) (Or.inl ⟨by rfl, ?_⟩) ?_ ?_
                  rotate_left
                  · intro w'
                    go_simp
                    with_reducible rfl
                  rotate_left
                  · simp only [Act.put, List.setIfInBounds_toArray, List.set_cons_zero, List.set_cons_succ, i64_w, i32_w]
                    rfl
                  refine take_ (i := 5) (N := some 68) (v := ?_) (a' := ?_) #[true, true, true, true, true, true, true, false, true, false, false, false] rfl rfl (by kernel_rfl) (fun _ _ _ h => h) (Or.inl ⟨by rfl, ?_⟩) hHeld ?_ ?_
                  rotate_left
                  · rintro w' ⟨s0, s1, s2, s3, s4, s5⟩
                    go_simp
                    with_reducible rfl
                  rotate_left
                  · simp only [Act.put, List.setIfInBounds_toArray, List.set_cons_zero, List.set_cons_succ, i64_w, i32_w]
                    rfl
                  refine take_ (i := 7) (N := some 70) (v := ?_) (a' := ?_) #[true, true, true, true, true, true, true, true, true, false, false, false] rfl rfl (by kernel_rfl) (fun _ _ _ h => h) (Or.inl ⟨by rfl, ?_⟩) hHeld ?_ ?_
                  rotate_left
                  · rintro w' ⟨s0, s1, s2, s3, s4, s5⟩
                    go_simp
                    with_reducible rfl
                  rotate_left
                  · simp only [Act.put, List.setIfInBounds_toArray, List.set_cons_zero, List.set_cons_succ, i64_w, i32_w]
                    rfl
                  refine pure_ (i := 9) (N := some 72) (v := ?_) (a' := ?_) #[true, true, true, true, true, true, true, true, true, true, false, false] rfl rfl (by kernel_rfl) (fun _ _ _ h => h) (Or.inl ⟨by rfl, ?_⟩) ?_ ?_
                  rotate_left
                  · intro w'
                    go_simp
                    with_reducible rfl
                  rotate_left
                  · simp only [Act.put, List.setIfInBounds_toArray, List.set_cons_zero, List.set_cons_succ, i64_w, i32_w]
                    rfl
                  refine take_ (i := 10) (N := some 73) (v := ?_) (a' := ?_) #[true, true, true, true, true, true, true, true, true, true, true, false] rfl rfl (by kernel_rfl) (fun _ _ _ h => h) (Or.inl ⟨by rfl, ?_⟩) hHeld ?_ ?_
                  rotate_left
                  · rintro w' ⟨s0, s1, s2, s3, s4, s5⟩
                    go_simp
                    with_reducible rfl
                  rotate_left
                  · simp only [Act.put, List.setIfInBounds_toArray, List.set_cons_zero, List.set_cons_succ, i64_w, i32_w]
                    rfl
                  refine one_ (i := 11) (N := some 74) #[true, true, true, true, true, true, true, true, true, true, true, true] rfl rfl (by kernel_rfl) (by decide) (fun K hK => ?_)
                  refine goes_ Try.func84 (by kernel_rfl) rfl #[.agg #[.int .u64 t2, .int .u64 t3], .int .u64 (rd l2_0 x), .int .u64 (rd l2_1 x)] (by rfl) rfl rfl (by (try simp only [List.map_toArray, List.map_cons, List.map_nil]); rfl) ?_
                  refine (mask_leaves.calls t2 t3 (rd l2_0 x) (rd l2_1 x) _ _ HO1.out).mono ?_
                  rintro e w10 ⟨rfl, hb⟩
                  have n0_ := Aside0.mk (HS.out.mv hb)
                  clear HS hb
                  have HS := n0_
                  clear n0_
                  refine ⟨_, rfl, hK.out _ _ ⟨(blk_cell (HS.out.o) 0).trans rfl, (blk_cell (HS.out.o) 1).trans rfl, (blk_cell HS.out.box 0).trans rfl, (blk_cell HS.out.box 1).trans rfl, (HS.out.below.cell (World.block_lt_of_cell? w _ HX0.out)).trans HX0.out, (HS.out.below.cell (World.block_lt_of_cell? w _ HX1.out)).trans HX1.out⟩ (fun hHeld => ?_)⟩
                  clear hK K
                  refine norm_ (a' := ?_) ?_ ?_
                  rotate_left
                  · show Act.put _ (some 74) _ = _
                    simp only [Act.put, List.setIfInBounds_toArray, List.set_cons_zero, List.set_cons_succ, i64_w, i32_w]
                    rfl
                  refine done_ (by kernel_rfl) ?_
                  have m2 := (blk_cell HS.out.m 2).trans rfl
                  have fm2 := blk_frozen HS.out.m 2
                  have H := HL2.out
                  by_cases hto : tq = true
                  · subst hto
                    rw [if_pos rfl] at H
                    have HH2 := Aside0.mk H
                    clear H HL2
                    go_wp2
                    go_roundg k1
                    case measure => have := HK.out; omega
                    case rel => exact ⟨_, _, _, rfl, HH2, ⟨by have := HK.out; omega⟩, ⟨(HS.out.set2 _).box⟩, ⟨(HS.out.set2 _).res⟩, ⟨(HS.out.set2 _).m⟩, ⟨(HS.out.set2 _).below⟩⟩
                  · rw [if_neg hto] at H
                    replace hto := Bool.eq_false_iff.mpr hto
                    subst hto
                    have HH2 := Aside0.mk H
                    clear H HL2
                    go_wp2
                    go_roundg k1
                    case measure => have := HK.out; omega
                    case rel => exact ⟨_, _, _, rfl, HH2, ⟨by have := HK.out; omega⟩, ⟨HS.out.box⟩, ⟨HS.out.res⟩, ⟨HS.out.m⟩, ⟨HS.out.below⟩⟩
              · rw [if_neg c4] at H
                exact absurd H (by simp)
            · rw [if_neg c3] at H
              exact absurd H (by simp)
          · rw [if_neg c2] at H
            exact absurd H (by simp)
        · rw [if_neg c1] at H
          simp only [Option.some.injEq, Prod.mk.injEq] at H
          obtain ⟨rfl, rfl, rfl, rfl⟩ := H
          have d1 := decide_eq_false c1
          have hne := Ne.symm HN9.out.2
          have hne2 := HN9.out.2
          have m0 := (blk_cell BK9.out 0).trans rfl
          have m1 := (blk_cell BK9.out 1).trans rfl
          have m2 := (blk_cell BK9.out 2).trans rfl
          have h60 := (blk_cell BK6.out 0).trans rfl
          have h61 := (blk_cell BK6.out 1).trans rfl
          have h62 := (blk_cell BK6.out 2).trans rfl
          have f60 := blk_frozen BK6.out 0
          have f61 := blk_frozen BK6.out 1
          have f62 := blk_frozen BK6.out 2
          clear c1
          go_wp2
          refine bodyPost_ret (results_ct rfl _ _ g6 52 #[.int .i64 (l0.length : Int), .int .i64 lw, .int .i64 hw] (0, 0) _ rfl (blk_put (cs := #[.int .i64 (l0.length : Int), .int .i64 lw, .int .i64 0]) (blk_put (cs := #[.int .i64 (l0.length : Int), .int .i64 0, .int .i64 0]) (blk_put (cs := #[.int .i64 0, .int .i64 0, .int .i64 0]) BK6.out 0 _ rfl) 1 _ rfl) 2 _ rfl) Try.underlying52 rfl (by kernel_rfl)) rfl ?_
          exact ⟨rfl, ((HB.out.setCell (p := ⟨g6, 0, none⟩) HG6.out _).setCell (p := ⟨g6, 1, none⟩) HG6.out _).setCell (p := ⟨g6, 2, none⟩) HG6.out _⟩
  · have H1 := H.out
    rw [if_neg hz] at H1
    simp only [Option.some.injEq, Prod.mk.injEq] at H1
    obtain ⟨rfl, rfl, rfl, rfl⟩ := H1
    have hd := bne_iff_ne.mpr hz
    clear hz
    go_enter Try.func38, Try.ntmps38
    go_wp2_with (first | ((with_reducible refine gate_dst (N := 5) rfl ?_); refine box_event ?hg (N := 5) ?hd (cs := #[.slice A2_0 l2_0.length c2_0, .slice A2_1 l2_1.length c2_1]) (t := 32) ?hr ?_; (case hd => rfl); (case hg => rfl); (case hr => first | (go_simp; done) | (go_simp; rfl)); intro gb hg w1 hbox hb; have HB := Aside0.mk hb; have BKB := Aside0.mk hbox; clear hb hbox hg) | ((with_reducible refine gate_dst (N := 6) rfl ?_); refine box_event ?hg (N := 6) ?hd (cs := #[.int .i64 0, .int .i64 0, .int .i64 0]) (t := 52) ?hr ?_; (case hd => rfl); (case hg => rfl); (case hr => first | (go_simp; done) | (go_simp; rfl)); intro g6 hg w2 hbox hb; have n0_ := Aside0.mk (below_step HB.out hb); have n1_ := Aside0.mk (blk_below BKB.out hb); have HG6 := Aside0.mk (show w.heap.size ≤ g6 by rw [hg]; exact HB.out.size); clear HB BKB; have HB := n0_; have BKB := n1_; have BK6 := Aside0.mk hbox; clear n0_ n1_ hb hbox hg; have hb20 := (blk_cell BKB.out 0).trans rfl; have hb21 := (blk_cell BKB.out 1).trans rfl) | (go_at_call 82; refine (mask_check.calls k A0 c0 l0 a1 0 A2_0 c2_0 l2_0 A2_1 c2_1 l2_1 _ _ (Kd.C_below HR.out HB.out) HC.out (Kd.C_below HR0.out HB.out) HC0.out (Kd.C_below HR1.out HB.out) HC1.out HE.out).mono ?_; rintro e w3 ⟨rfl, hb⟩; have n0_ := Aside0.mk (below_step HB.out hb); have n1_ := Aside0.mk (blk_below BKB.out hb); have n2_ := Aside0.mk (blk_below BK6.out hb); clear HB BKB BK6 hb; have HB := n0_; have BKB := n1_; have BK6 := n2_; clear n0_ n1_ n2_; have h60 := (blk_cell BK6.out 0).trans rfl; have h61 := (blk_cell BK6.out 1).trans rfl; have h62 := (blk_cell BK6.out 2).trans rfl; have f60 := blk_frozen BK6.out 0; have f61 := blk_frozen BK6.out 1; have f62 := blk_frozen BK6.out 2))
    refine bodyPost_ret (results_ct rfl _ _ g6 52 #[.int .i64 0, .int .i64 0, .int .i64 0] (0, 0) _ rfl (blk_put (cs := #[.int .i64 0, .int .i64 0, .int .i64 0]) (blk_put (cs := #[.int .i64 0, .int .i64 0, .int .i64 0]) (blk_put (cs := #[.int .i64 0, .int .i64 0, .int .i64 0]) BK6.out 0 _ rfl) 1 _ rfl) 2 _ rfl) Try.underlying52 rfl (by kernel_rfl)) rfl ?_
    exact ⟨rfl, ((HB.out.setCell (p := ⟨g6, 0, none⟩) HG6.out _).setCell (p := ⟨g6, 1, none⟩) HG6.out _).setCell (p := ⟨g6, 2, none⟩) HG6.out _⟩

end Go.Proofs.Ythdphjbecibeaaa.PCoverOnce
