-- packed by wip/tools/pack.py
-- Written by wip/tools/print2.py, a program of this session, over the kit's print of the program. Lean checks it.
import Derived.Test.YthdphjbecibeaaaPCoverCellsx0
import Derived.Test.YthdphjbecibeaaaPCoverCellsx9
namespace Go.Proofs.Ythdphjbecibeaaa.PCoverCells
open Go.RowKit Go.Proofs.YthdphjbecibeaaaW.PrintWords Go.Proofs.YthdphjbecibeaaaW.PrintLast Go.Proofs.YthdphjbecibeaaaW.PrintMore
attribute [local go_sem] max2_int min2_int max_two min_two max_three min_three max_four min_four   -- for this text's walks alone
open List renaming setIfInBounds_toArray → lsA, set_cons_zero → ls0, set_cons_succ → ls1
set_option linter.unusedVariables false
set_option linter.unusedSimpArgs false

/-! ### pantileref03_In: function 54 -/
def pantileref03_In.l0 : Nat → List Int → Int → List Int → List Int → Option (Bool)
  | 0, _, _, _, _ => none
  | k + 1, x1, x5, x244000, x244001 => if x5 < (x1.length : Int) then (if 0 ≤ x5 then (if x5 < (x244000.length : Int) then (if (rd x1 x5) < (rd x244000 x5) then (some false) else (if x5 < (x244001.length : Int) then (if (rd x1 x5) > (rd x244001 x5) then (some false) else (pantileref03_In.l0 k x1 (wrap64 (x5 + 1)) x244000 x244001)) else (none))) else (none)) else (none)) else (some true)
def pantileref03_In.f (k : Nat) (l0_0 : List Int) (l0_1 : List Int) (l1 : List Int) : Option (Bool) := pantileref03_In.l0 k l1 0 l0_0 l0_1
theorem pantileref03_In.mono_l : ∀ k, (∀ y0 y1 y2 y3, LeO (pantileref03_In.l0 k y0 y1 y2 y3) (pantileref03_In.l0 (k + 1) y0 y1 y2 y3))
  | 0 => fun _ _ _ _ r h => by simp [pantileref03_In.l0] at h
  | k + 1 => by
    have ih0 := pantileref03_In.mono_l k
    · intro y0 y1 y2 y3
      unfold pantileref03_In.l0
      repeat' first
      | (with_reducible exact ih0 _ _ _ _)
      | (with_reducible exact LeO.refl _)
      | (with_reducible exact LeO.none _)
      | (with_reducible refine LeO.ite ?_ ?_)
      | (with_reducible refine LeO.bind ?_ (fun _ => ?_))
      | exact ih0 _ _ _ _
      | exact LeO.none _
      | refine LeO.ite ?_ ?_
      | refine LeO.bind ?_ (fun _ => ?_)
theorem pantileref03_In.mono : ∀ a0 a1 a2 k, LeO (pantileref03_In.f k a0 a1 a2) (pantileref03_In.f (k + 1) a0 a1 a2) := by
  intro a0 a1 a2 k
  have ih0 := pantileref03_In.mono_l k
  unfold pantileref03_In.f
  repeat' first
      | (with_reducible exact ih0 _ _ _ _)
      | (with_reducible exact LeO.refl _)
      | (with_reducible exact LeO.none _)
      | (with_reducible refine LeO.ite ?_ ?_)
      | (with_reducible refine LeO.bind ?_ (fun _ => ?_))
      | exact ih0 _ _ _ _
      | exact LeO.none _
      | refine LeO.ite ?_ ?_
      | refine LeO.bind ?_ (fun _ => ?_)
set_option maxHeartbeats 8000000 in
set_option maxRecDepth 100000 in
theorem pantileref03_In.calls (k : Nat) (A0_0 : Option Addr) (c0_0 : Nat) (l0_0 : List Int) (A0_1 : Option Addr) (c0_1 : Nat) (l0_1 : List Int) (A1 : Option Addr) (c1 : Nat) (l1 : List Int) (r : Bool) (w : World) (hr0_0 : Kd.C (Kd.int .u64) w A0_0 l0_0.length l0_0) (hc0_0 : l0_0.length ≤ c0_0) (hr0_1 : Kd.C (Kd.int .u64) w A0_1 l0_1.length l0_1) (hc0_1 : l0_1.length ≤ c0_1) (hr1 : Kd.C (Kd.int .u64) w A1 l1.length l1) (hc1 : l1.length ≤ c1) (h : pantileref03_In.f k l0_0 l0_1 l1 = some r) :
  Calls Try.prog 54 #[.agg #[.slice A0_0 l0_0.length c0_0, .slice A0_1 l0_1.length c0_1], .slice A1 l1.length c1] w fun e w' => e = .returned (.bool r) ∧ Below w.heap.size w w' := by
 have hu32 := Try.underlying32
 have HR0_0 := Aside0.mk hr0_0
 have HC0_0 := Aside0.mk hc0_0
 clear hr0_0 hc0_0
 have HR0_1 := Aside0.mk hr0_1
 have HC0_1 := Aside0.mk hc0_1
 clear hr0_1 hc0_1
 have HR1 := Aside0.mk hr1
 have HC1 := Aside0.mk hc1
 clear hr1 hc1
 have HB := Aside0.mk (Below.refl w.heap.size w)
 have H : (pantileref03_In.l0 k l1 0 l0_0 l0_1) = some r := h
 clear h
 have H' := Aside0.mk H
 clear H
 go_enter Try.func54, Try.ntmps54
 go_wp2_with (first | ((with_reducible refine gate_dst (N := 2) rfl ?_); refine box_event ?hg (N := 2) ?hd (cs := #[.slice A0_0 l0_0.length c0_0, .slice A0_1 l0_1.length c0_1]) (t := 32) ?hr ?_; (case hd => rfl); (case hg => rfl); (case hr => first | (go_simp; done) | (go_simp; rfl)); intro gb243 hg w3 hbox hb; have n0_ := Aside0.mk (below_step (by repeat (first | (with_reducible first | exact HB.out | apply below_alloc | apply pw_below_drewN | apply below_drew1) | exact HB.out)) hb); have n1_ := Aside0.mk (hbox); have n2_ := Aside0.mk ((by rw [hg]; exact (below_size (by repeat (first | (with_reducible first | exact HB.out | apply below_alloc | apply pw_below_drewN | apply below_drew1) | exact HB.out))) : w.heap.size ≤ gb243)); have n3_ := Aside0.mk ((by rw [hg]; exact (below_size (by repeat (first | (with_reducible first | exact HB.out | apply below_alloc | apply pw_below_drewN | apply below_drew1) | exact HB.out))) : w.heap.size ≤ gb243)); clear HB; have HB := n0_; have BK243 := n1_; have GW243 := n2_; have GE243 := n3_; clear n0_ n1_ n2_ n3_; clear hb hbox hg))
 repeat (go_quiet (first | ((with_reducible refine gate_dst (N := 2) rfl ?_); refine box_event ?hg (N := 2) ?hd (cs := #[.slice A0_0 l0_0.length c0_0, .slice A0_1 l0_1.length c0_1]) (t := 32) ?hr ?_; (case hd => rfl); (case hg => rfl); (case hr => first | (go_simp; done) | (go_simp; rfl)); intro gb243 hg w3 hbox hb; have n0_ := Aside0.mk (below_step (by repeat (first | (with_reducible first | exact HB.out | apply below_alloc | apply pw_below_drewN | apply below_drew1) | exact HB.out)) hb); have n1_ := Aside0.mk (hbox); have n2_ := Aside0.mk ((by rw [hg]; exact (below_size (by repeat (first | (with_reducible first | exact HB.out | apply below_alloc | apply pw_below_drewN | apply below_drew1) | exact HB.out))) : w.heap.size ≤ gb243)); have n3_ := Aside0.mk ((by rw [hg]; exact (below_size (by repeat (first | (with_reducible first | exact HB.out | apply below_alloc | apply pw_below_drewN | apply below_drew1) | exact HB.out))) : w.heap.size ≤ gb243)); clear HB; have HB := n0_; have BK243 := n1_; have GW243 := n2_; have GE243 := n3_; clear n0_ n1_ n2_ n3_; clear hb hbox hg)); try go_wp2_with (first | ((with_reducible refine gate_dst (N := 2) rfl ?_); refine box_event ?hg (N := 2) ?hd (cs := #[.slice A0_0 l0_0.length c0_0, .slice A0_1 l0_1.length c0_1]) (t := 32) ?hr ?_; (case hd => rfl); (case hg => rfl); (case hr => first | (go_simp; done) | (go_simp; rfl)); intro gb243 hg w3 hbox hb; have n0_ := Aside0.mk (below_step (by repeat (first | (with_reducible first | exact HB.out | apply below_alloc | apply pw_below_drewN | apply below_drew1) | exact HB.out)) hb); have n1_ := Aside0.mk (hbox); have n2_ := Aside0.mk ((by rw [hg]; exact (below_size (by repeat (first | (with_reducible first | exact HB.out | apply below_alloc | apply pw_below_drewN | apply below_drew1) | exact HB.out))) : w.heap.size ≤ gb243)); have n3_ := Aside0.mk ((by rw [hg]; exact (below_size (by repeat (first | (with_reducible first | exact HB.out | apply below_alloc | apply pw_below_drewN | apply below_drew1) | exact HB.out))) : w.heap.size ≤ gb243)); clear HB; have HB := n0_; have BK243 := n1_; have GW243 := n2_; have GE243 := n3_; clear n0_ n1_ n2_ n3_; clear hb hbox hg)))
 go_loopg [5] k (fun kq v5 w' => ∃ (x5_1 : Int), v5 = .int .i64 x5_1 ∧ Aside0 (pantileref03_In.l0 kq l1 x5_1 l0_0 l0_1 = some r) ∧ Aside0 (kq ≤ k) ∧ Aside0 (w'.heap[gb243]? = some (.cells #[(.slice A0_0 l0_0.length c0_0), (.slice A0_1 l0_1.length c0_1)] 32 (0, 0))) ∧ Aside0 (Below w.heap.size w w'))
 case atStart => exact ⟨(0), (by first | rfl | (simp; done) | (simp [*]; done)), H', ⟨Nat.le_refl _⟩, ⟨by (with_reducible repeat (first | refine blk_drewN ?_ _ | refine blk_drew ?_ | refine blk_alloc ?_ _)); exact BK243.out⟩, ⟨by repeat (first | (with_reducible first | exact HB.out | apply below_alloc | apply pw_below_drewN | apply below_drew1 | refine below_set ?_ GE243.out) | exact HB.out)⟩⟩
 case round =>
  clear H'
  try clear c1; try clear p2
  obtain ⟨x5_1, rfl, HA, HK1, BK243, HB⟩ := hrel
  cases gk with
  | zero => exact absurd HA.out (by simp [pantileref03_In.l0])
  | succ k1 =>
   have H := HA.out
   clear HA
   simp only [pantileref03_In.l0] at H
   by_cases c4 : x5_1 < (l1.length : Int)
   ·rw [if_pos c4] at H
    have c4b0 : decide (x5_1 < (l1.length : Int)) = true := decide_eq_true c4
    clear c4
    by_cases c5 : 0 ≤ x5_1
    ·rw [if_pos c5] at H
     have c5b0 : decide (0 ≤ x5_1) = true := decide_eq_true c5
     clear c5
     by_cases c6 : x5_1 < (l0_0.length : Int)
     ·rw [if_pos c6] at H
      have c6b0 : decide (x5_1 < (l0_0.length : Int)) = true := decide_eq_true c6
      clear c6
      by_cases c7 : (rd l1 x5_1) < (rd l0_0 x5_1)
      ·rw [if_pos c7] at H
       have c7b0 : decide ((rd l1 x5_1) < (rd l0_0 x5_1)) = true := decide_eq_true c7
       clear c7
       obtain rfl := Option.some.inj H
       have p244 : 0 ≤ (x5_1 : Int) := of_decide_eq_true (by first | (with_reducible assumption) | assumption)
       have q244 : x5_1 < (l1.length : Int) := of_decide_eq_true (by first | (with_reducible assumption) | assumption)
       obtain ⟨ad244, e244, hx244_0⟩ := Kd.at_int HR1.out x5_1 p244 q244
       cases e244
       replace hx244_0 := (HB.out.cell (World.block_lt_of_cell? w _ hx244_0)).trans hx244_0
       replace p244 := eq_true p244
       replace q244 := eq_true q244
       have hcz8_0 : wr.cell? ⟨gb243, 0, none⟩ = some (.slice A0_0 l0_0.length c0_0) := (blk_cell BK243.out 0).trans rfl
       have hcz8_1 : wr.cell? ⟨gb243, 1, none⟩ = some (.slice A0_1 l0_1.length c0_1) := (blk_cell BK243.out 1).trans rfl
       have hfz8_0 := blk_frozen BK243.out 0
       have hfz8_1 := blk_frozen BK243.out 1
       have p245 : 0 ≤ (x5_1 : Int) := of_decide_eq_true (by first | (with_reducible assumption) | assumption)
       have q245 : x5_1 < (l0_0.length : Int) := of_decide_eq_true (by first | (with_reducible assumption) | assumption)
       obtain ⟨ad245, e245, hx245_0⟩ := Kd.at_int HR0_0.out x5_1 p245 q245
       cases e245
       replace hx245_0 := (HB.out.cell (World.block_lt_of_cell? w _ hx245_0)).trans hx245_0
       replace p245 := eq_true p245
       replace q245 := eq_true q245
       go_wp2
       repeat (go_quiet (fail); try go_wp2)
       go_ret
       exact ⟨by first | rfl | (simp [errW_none, errW_some] <;> rfl) | (simp [*, errW_none, errW_some] <;> rfl), by repeat (first | (with_reducible first | exact HB.out | apply below_alloc | apply pw_below_drewN | apply below_drew1 | refine below_set ?_ GE243.out) | exact HB.out)⟩
      ·rw [if_neg c7] at H
       have c7b0 : decide ((rd l1 x5_1) < (rd l0_0 x5_1)) = false := decide_eq_false c7
       clear c7
       by_cases c9 : x5_1 < (l0_1.length : Int)
       ·rw [if_pos c9] at H
        have c9b0 : decide (x5_1 < (l0_1.length : Int)) = true := decide_eq_true c9
        clear c9
        by_cases c10 : (rd l1 x5_1) > (rd l0_1 x5_1)
        ·rw [if_pos c10] at H
         have c10b0 : decide ((rd l0_1 x5_1) < (rd l1 x5_1)) = true := decide_eq_true c10
         clear c10
         obtain rfl := Option.some.inj H
         have p244 : 0 ≤ (x5_1 : Int) := of_decide_eq_true (by first | (with_reducible assumption) | assumption)
         have q244 : x5_1 < (l1.length : Int) := of_decide_eq_true (by first | (with_reducible assumption) | assumption)
         obtain ⟨ad244, e244, hx244_0⟩ := Kd.at_int HR1.out x5_1 p244 q244
         cases e244
         replace hx244_0 := (HB.out.cell (World.block_lt_of_cell? w _ hx244_0)).trans hx244_0
         replace p244 := eq_true p244
         replace q244 := eq_true q244
         have hcz11_0 : wr.cell? ⟨gb243, 0, none⟩ = some (.slice A0_0 l0_0.length c0_0) := (blk_cell BK243.out 0).trans rfl
         have hcz11_1 : wr.cell? ⟨gb243, 1, none⟩ = some (.slice A0_1 l0_1.length c0_1) := (blk_cell BK243.out 1).trans rfl
         have hfz11_0 := blk_frozen BK243.out 0
         have hfz11_1 := blk_frozen BK243.out 1
         have p245 : 0 ≤ (x5_1 : Int) := of_decide_eq_true (by first | (with_reducible assumption) | assumption)
         have q245 : x5_1 < (l0_0.length : Int) := of_decide_eq_true (by first | (with_reducible assumption) | assumption)
         obtain ⟨ad245, e245, hx245_0⟩ := Kd.at_int HR0_0.out x5_1 p245 q245
         cases e245
         replace hx245_0 := (HB.out.cell (World.block_lt_of_cell? w _ hx245_0)).trans hx245_0
         replace p245 := eq_true p245
         replace q245 := eq_true q245
         have p246 : 0 ≤ (x5_1 : Int) := of_decide_eq_true (by first | (with_reducible assumption) | assumption)
         have q246 : x5_1 < (l1.length : Int) := of_decide_eq_true (by first | (with_reducible assumption) | assumption)
         obtain ⟨ad246, e246, hx246_0⟩ := Kd.at_int HR1.out x5_1 p246 q246
         obtain rfl : ad244 = ad246 := (by injection e246)
         replace hx246_0 := (HB.out.cell (World.block_lt_of_cell? w _ hx246_0)).trans hx246_0
         replace p246 := eq_true p246
         replace q246 := eq_true q246
         have p247 : 0 ≤ (x5_1 : Int) := of_decide_eq_true (by first | (with_reducible assumption) | assumption)
         have q247 : x5_1 < (l0_1.length : Int) := of_decide_eq_true (by first | (with_reducible assumption) | assumption)
         obtain ⟨ad247, e247, hx247_0⟩ := Kd.at_int HR0_1.out x5_1 p247 q247
         cases e247
         replace hx247_0 := (HB.out.cell (World.block_lt_of_cell? w _ hx247_0)).trans hx247_0
         replace p247 := eq_true p247
         replace q247 := eq_true q247
         go_wp2
         repeat (go_quiet (fail); try go_wp2)
         go_ret
         exact ⟨by first | rfl | (simp [errW_none, errW_some] <;> rfl) | (simp [*, errW_none, errW_some] <;> rfl), by repeat (first | (with_reducible first | exact HB.out | apply below_alloc | apply pw_below_drewN | apply below_drew1 | refine below_set ?_ GE243.out) | exact HB.out)⟩
        ·rw [if_neg c10] at H
         have c10b0 : decide ((rd l0_1 x5_1) < (rd l1 x5_1)) = false := decide_eq_false c10
         clear c10
         have H' := Aside0.mk H
         clear H
         have p244 : 0 ≤ (x5_1 : Int) := of_decide_eq_true (by first | (with_reducible assumption) | assumption)
         have q244 : x5_1 < (l1.length : Int) := of_decide_eq_true (by first | (with_reducible assumption) | assumption)
         obtain ⟨ad244, e244, hx244_0⟩ := Kd.at_int HR1.out x5_1 p244 q244
         cases e244
         replace hx244_0 := (HB.out.cell (World.block_lt_of_cell? w _ hx244_0)).trans hx244_0
         replace p244 := eq_true p244
         replace q244 := eq_true q244
         have hcz12_0 : wr.cell? ⟨gb243, 0, none⟩ = some (.slice A0_0 l0_0.length c0_0) := (blk_cell BK243.out 0).trans rfl
         have hcz12_1 : wr.cell? ⟨gb243, 1, none⟩ = some (.slice A0_1 l0_1.length c0_1) := (blk_cell BK243.out 1).trans rfl
         have hfz12_0 := blk_frozen BK243.out 0
         have hfz12_1 := blk_frozen BK243.out 1
         have p245 : 0 ≤ (x5_1 : Int) := of_decide_eq_true (by first | (with_reducible assumption) | assumption)
         have q245 : x5_1 < (l0_0.length : Int) := of_decide_eq_true (by first | (with_reducible assumption) | assumption)
         obtain ⟨ad245, e245, hx245_0⟩ := Kd.at_int HR0_0.out x5_1 p245 q245
         cases e245
         replace hx245_0 := (HB.out.cell (World.block_lt_of_cell? w _ hx245_0)).trans hx245_0
         replace p245 := eq_true p245
         replace q245 := eq_true q245
         have p246 : 0 ≤ (x5_1 : Int) := of_decide_eq_true (by first | (with_reducible assumption) | assumption)
         have q246 : x5_1 < (l1.length : Int) := of_decide_eq_true (by first | (with_reducible assumption) | assumption)
         obtain ⟨ad246, e246, hx246_0⟩ := Kd.at_int HR1.out x5_1 p246 q246
         obtain rfl : ad244 = ad246 := (by injection e246)
         replace hx246_0 := (HB.out.cell (World.block_lt_of_cell? w _ hx246_0)).trans hx246_0
         replace p246 := eq_true p246
         replace q246 := eq_true q246
         have p247 : 0 ≤ (x5_1 : Int) := of_decide_eq_true (by first | (with_reducible assumption) | assumption)
         have q247 : x5_1 < (l0_1.length : Int) := of_decide_eq_true (by first | (with_reducible assumption) | assumption)
         obtain ⟨ad247, e247, hx247_0⟩ := Kd.at_int HR0_1.out x5_1 p247 q247
         cases e247
         replace hx247_0 := (HB.out.cell (World.block_lt_of_cell? w _ hx247_0)).trans hx247_0
         replace p247 := eq_true p247
         replace q247 := eq_true q247
         go_wp2
         repeat (go_quiet (fail); try go_wp2)
         go_roundg k1
         case measure => have := HK1.out; omega
         case rel => exact ⟨(wrap64 (x5_1 + 1)), (by first | rfl | (simp; done) | (simp [*]; done)), H', ⟨by have := HK1.out; omega⟩, ⟨by (with_reducible repeat (first | refine blk_drewN ?_ _ | refine blk_drew ?_ | refine blk_alloc ?_ _)); exact BK243.out⟩, ⟨by repeat (first | (with_reducible first | exact HB.out | apply below_alloc | apply pw_below_drewN | apply below_drew1 | refine below_set ?_ GE243.out) | exact HB.out)⟩⟩
       ·rw [if_neg c9] at H
        exact absurd H (by simp)
     ·rw [if_neg c6] at H
      exact absurd H (by simp)
    ·rw [if_neg c5] at H
     exact absurd H (by simp)
   ·rw [if_neg c4] at H
    have c4b0 : decide (x5_1 < (l1.length : Int)) = false := decide_eq_false c4
    clear c4
    obtain rfl := Option.some.inj H
    go_wp2
    repeat (go_quiet (fail); try go_wp2)
    go_ret
    exact ⟨by first | rfl | (simp [errW_none, errW_some] <;> rfl) | (simp [*, errW_none, errW_some] <;> rfl), by repeat (first | (with_reducible first | exact HB.out | apply below_alloc | apply pw_below_drewN | apply below_drew1 | refine below_set ?_ GE243.out) | exact HB.out)⟩

/-! ### pantileref04_Whole: function 49 -/
def pantileref04_Whole.f (k : Nat) (l0 : List Int) (a1 : Int) (l2_0 : List Int) (l2_1 : List Int) : Option (Bool) := (pantileref03_Cell.f k l0 a1).bind fun bt249 => ((pantileref03_In.f k l2_0 l2_1 bt249.1).bind fun t256 => (if t256 = true then ((pantileref03_In.f k l2_0 l2_1 bt249.2).bind fun t257 => (some t257)) else (some false)))
theorem pantileref04_Whole.mono : ∀ a0 a1 a2 a3 k, LeO (pantileref04_Whole.f k a0 a1 a2 a3) (pantileref04_Whole.f (k + 1) a0 a1 a2 a3) := by
  intro a0 a1 a2 a3 k
  unfold pantileref04_Whole.f
  repeat' first
      | (with_reducible exact pantileref03_Cell.mono _ _ _)
      | (with_reducible exact pantileref03_In.mono _ _ _ _)
      | (with_reducible exact LeO.refl _)
      | (with_reducible exact LeO.none _)
      | (with_reducible refine LeO.ite ?_ ?_)
      | (with_reducible refine LeO.bind ?_ (fun _ => ?_))
      | exact pantileref03_Cell.mono _ _ _
      | exact pantileref03_In.mono _ _ _ _
      | exact LeO.none _
      | refine LeO.ite ?_ ?_
      | refine LeO.bind ?_ (fun _ => ?_)
set_option maxHeartbeats 8000000 in
set_option maxRecDepth 100000 in
theorem pantileref04_Whole.calls (k : Nat) (A0 : Option Addr) (c0 : Nat) (l0 : List Int) (a1 : Int) (A2_0 : Option Addr) (c2_0 : Nat) (l2_0 : List Int) (A2_1 : Option Addr) (c2_1 : Nat) (l2_1 : List Int) (r : Bool) (w : World) (hr0 : Kd.C (Kd.int .u64) w A0 l0.length l0) (hc0 : l0.length ≤ c0) (hr2_0 : Kd.C (Kd.int .u64) w A2_0 l2_0.length l2_0) (hc2_0 : l2_0.length ≤ c2_0) (hr2_1 : Kd.C (Kd.int .u64) w A2_1 l2_1.length l2_1) (hc2_1 : l2_1.length ≤ c2_1) (h : pantileref04_Whole.f k l0 a1 l2_0 l2_1 = some r) :
  Calls Try.prog 49 #[.slice A0 l0.length c0, .int .i64 a1, .agg #[.slice A2_0 l2_0.length c2_0, .slice A2_1 l2_1.length c2_1]] w fun e w' => e = .returned (.bool r) ∧ Below w.heap.size w w' := by
 have hu32 := Try.underlying32
 have HR0 := Aside0.mk hr0
 have HC0 := Aside0.mk hc0
 clear hr0 hc0
 have HR2_0 := Aside0.mk hr2_0
 have HC2_0 := Aside0.mk hc2_0
 clear hr2_0 hc2_0
 have HR2_1 := Aside0.mk hr2_1
 have HC2_1 := Aside0.mk hc2_1
 clear hr2_1 hc2_1
 have HB := Aside0.mk (Below.refl w.heap.size w)
 have H : ((pantileref03_Cell.f k l0 a1).bind fun bt249 => ((pantileref03_In.f k l2_0 l2_1 bt249.1).bind fun t256 => (if t256 = true then ((pantileref03_In.f k l2_0 l2_1 bt249.2).bind fun t257 => (some t257)) else (some false)))) = some r := h
 clear h
 replace H := Option.bind_eq_some_iff.mp H
 obtain ⟨⟨t249, t252⟩, A40, H⟩ := H
 replace H : ((pantileref03_In.f k l2_0 l2_1 t249).bind fun t256 => (if t256 = true then ((pantileref03_In.f k l2_0 l2_1 t252).bind fun t257 => (some t257)) else (some false))) = some r := H
 have A4 := Aside0.mk A40
 clear A40
 replace H := Option.bind_eq_some_iff.mp H
 obtain ⟨t256, A50, H⟩ := H
 replace H : (if t256 = true then ((pantileref03_In.f k l2_0 l2_1 t252).bind fun t257 => (some t257)) else (some false)) = some r := H
 have A5 := Aside0.mk A50
 clear A50
 by_cases c6 : t256 = true
 ·subst c6
  have H1 : ((pantileref03_In.f k l2_0 l2_1 t252).bind fun t257 => (some t257)) = some r := by rw [if_pos rfl] at H; exact H
  clear H
  have H := H1
  clear H1
  replace H := Option.bind_eq_some_iff.mp H
  obtain ⟨t257, A70, H⟩ := H
  replace H : (some t257) = some r := H
  have A7 := Aside0.mk A70
  clear A70
  obtain rfl := Option.some.inj H
  go_enter Try.func49, Try.ntmps49
  go_wp2_with (first | ((with_reducible refine gate_dst (N := 5) rfl ?_); refine box_event ?hg (N := 5) ?hd (cs := #[.slice A2_0 l2_0.length c2_0, .slice A2_1 l2_1.length c2_1]) (t := 32) ?hr ?_; (case hd => rfl); (case hg => rfl); (case hr => first | (go_simp; done) | (go_simp; rfl)); intro gb248 hg w8 hbox hb; have n0_ := Aside0.mk (below_step (by repeat (first | (with_reducible first | exact HB.out | apply below_alloc | apply pw_below_drewN | apply below_drew1) | exact HB.out)) hb); have n1_ := Aside0.mk (hbox); have n2_ := Aside0.mk ((by rw [hg]; exact (below_size (by repeat (first | (with_reducible first | exact HB.out | apply below_alloc | apply pw_below_drewN | apply below_drew1) | exact HB.out))) : w.heap.size ≤ gb248)); have n3_ := Aside0.mk ((by rw [hg]; exact (below_size (by repeat (first | (with_reducible first | exact HB.out | apply below_alloc | apply pw_below_drewN | apply below_drew1) | exact HB.out))) : w.heap.size ≤ gb248)); clear HB; have HB := n0_; have BK248 := n1_; have GW248 := n2_; have GE248 := n3_; clear n0_ n1_ n2_ n3_; clear hb hbox hg) | ((with_reducible refine gate_callee (f := 31) rfl ?_); refine goesL_ (some 10) rfl rfl Try.func31 (by kernel_rfl) rfl #[.slice A0 l0.length c0, .int .i64 a1] rfl (by (try simp only [List.map_toArray, List.map_cons, List.map_nil]); first | done | rfl | (simp only [List.length_drop, List.length_take]; rfl)) ?_; (with_reducible refine (pantileref03_Cell.calls k _ _ l0 a1 t249 t252 _ ?side1 ?side2 A4.out).mono ?_); (case side1 => repeat (first | exact (Kd.C_below HR0.out HB.out) | (with_reducible refine Kd.C_alloc ?_ _) | (with_reducible refine Kd.C_drewN ?_ _) | (with_reducible refine Kd.C_drew ?_))); (case side2 => exact HC0.out); rintro e w9 ⟨v250, v253, rfl, ho0, ho1, hb⟩; refine ⟨_, rfl, ?_⟩; have n0_ := Aside0.mk (Kd.R_lower ho0 (below_size (by repeat (first | (with_reducible first | exact HB.out | apply below_alloc | apply pw_below_drewN | apply below_drew1 | refine below_set ?_ GE248.out) | exact HB.out)))); have n1_ := Aside0.mk (Kd.R_lower ho1 (below_size (by repeat (first | (with_reducible first | exact HB.out | apply below_alloc | apply pw_below_drewN | apply below_drew1 | refine below_set ?_ GE248.out) | exact HB.out)))); have n2_ := Aside0.mk (blk_below (g := gb248) (o := .cells #[.slice A2_0 l2_0.length c2_0, .slice A2_1 l2_1.length c2_1] 32 (0, 0)) (by (with_reducible repeat (first | refine blk_drewN ?_ _ | refine blk_drew ?_ | refine blk_alloc ?_ _)); exact BK248.out) hb); have n3_ := Aside0.mk (below_step (by repeat (first | (with_reducible first | exact HB.out | apply below_alloc | apply pw_below_drewN | apply below_drew1 | refine below_set ?_ GE248.out) | exact HB.out)) hb); clear BK248; clear HB; have HO251 := n0_; have HO254 := n1_; have BK248 := n2_; have HB := n3_; clear n0_ n1_ n2_ n3_; (try clear hb); (try clear hb2); (try clear hk); (try clear hi); (try clear ho0); (try clear ho1)) | ((with_reducible refine gate_dst (N := 7) rfl ?_); refine box_event ?hg (N := 7) ?hd (cs := #[.slice none 0 0, .slice none 0 0]) (t := 32) ?hr ?_; (case hd => rfl); (case hg => rfl); (case hr => first | (go_simp; done) | (go_simp; rfl)); intro gb255 hg w10 hbox hb; have n0_ := Aside0.mk (Kd.R_below (by (with_reducible repeat (first | apply Kd.R_alloc | apply Kd.R_drewN | apply Kd.R_drew)); exact HO251.out) hb); have n1_ := Aside0.mk (Kd.R_below (by (with_reducible repeat (first | apply Kd.R_alloc | apply Kd.R_drewN | apply Kd.R_drew)); exact HO254.out) hb); have n2_ := Aside0.mk (blk_below (g := gb248) (o := .cells #[.slice A2_0 l2_0.length c2_0, .slice A2_1 l2_1.length c2_1] 32 (0, 0)) (by (with_reducible repeat (first | refine blk_drewN ?_ _ | refine blk_drew ?_ | refine blk_alloc ?_ _)); exact BK248.out) hb); have n3_ := Aside0.mk (below_step (by repeat (first | (with_reducible first | exact HB.out | apply below_alloc | apply pw_below_drewN | apply below_drew1 | refine below_set ?_ GE248.out) | exact HB.out)) hb); have n4_ := Aside0.mk (hbox); have n5_ := Aside0.mk ((by rw [hg]; exact (below_size (by repeat (first | (with_reducible first | exact HB.out | apply below_alloc | apply pw_below_drewN | apply below_drew1 | refine below_set ?_ GE248.out) | exact HB.out))) : w.heap.size ≤ gb255)); have n6_ := Aside0.mk ((by rw [hg]; exact (below_size (by repeat (first | (with_reducible first | exact HB.out | apply below_alloc | apply pw_below_drewN | apply below_drew1 | refine below_set ?_ GE248.out) | exact HB.out))) : w.heap.size ≤ gb255)); have n7_ := Aside0.mk ((by rw [hg]; exact Nat.ne_of_lt (blk_lt (g := gb248) (o := .cells #[.slice A2_0 l2_0.length c2_0, .slice A2_1 l2_1.length c2_1] 32 (0, 0)) (by (with_reducible repeat (first | refine blk_drewN ?_ _ | refine blk_drew ?_ | refine blk_alloc ?_ _)); exact BK248.out)) : gb248 ≠ gb255)); have n8_ := Aside0.mk ((by rw [hg]; exact Nat.ne_of_gt (blk_lt (g := gb248) (o := .cells #[.slice A2_0 l2_0.length c2_0, .slice A2_1 l2_1.length c2_1] 32 (0, 0)) (by (with_reducible repeat (first | refine blk_drewN ?_ _ | refine blk_drew ?_ | refine blk_alloc ?_ _)); exact BK248.out)) : gb255 ≠ gb248)); clear HO251; clear HO254; clear BK248; clear HB; have HO251 := n0_; have HO254 := n1_; have BK248 := n2_; have HB := n3_; have BK255 := n4_; have GW255 := n5_; have GE255 := n6_; have NB248_255 := n7_; have NB255_248 := n8_; clear n0_ n1_ n2_ n3_ n4_ n5_ n6_ n7_ n8_; clear hb hbox hg; obtain ⟨Ao11, co11, eo11⟩ := Kd.R_slice HO251.out; subst eo11; have hnb12 := NB255_248.out; have hnc12 := NB248_255.out; have hcz13_0 : w10.cell? ⟨gb255, 0, none⟩ = some (.slice none 0 0) := (blk_cell BK255.out 0).trans rfl; have hcz13_1 : w10.cell? ⟨gb255, 1, none⟩ = some (.slice none 0 0) := (blk_cell BK255.out 1).trans rfl; have hfz13_0 := blk_frozen BK255.out 0; have hfz13_1 := blk_frozen BK255.out 1; obtain ⟨Ao14, co14, eo14⟩ := Kd.R_slice HO254.out; subst eo14; have hcz15_0 : w10.cell? ⟨gb248, 0, none⟩ = some (.slice A2_0 l2_0.length c2_0) := (blk_cell BK248.out 0).trans rfl; have hcz15_1 : w10.cell? ⟨gb248, 1, none⟩ = some (.slice A2_1 l2_1.length c2_1) := (blk_cell BK248.out 1).trans rfl; have hfz15_0 := blk_frozen BK248.out 0; have hfz15_1 := blk_frozen BK248.out 1) | ((with_reducible refine gate_callee (f := 54) rfl ?_); refine goesL_ (some 14) rfl rfl Try.func54 (by kernel_rfl) rfl #[.agg #[.slice A2_0 l2_0.length c2_0, .slice A2_1 l2_1.length c2_1], .slice Ao11 t249.length co11] rfl (by (try simp only [List.map_toArray, List.map_cons, List.map_nil]); first | done | rfl | (simp only [List.length_drop, List.length_take]; rfl)) ?_; (with_reducible refine (pantileref03_In.calls k _ _ l2_0 _ _ l2_1 _ _ t249 true _ ?side1 ?side2 ?side3 ?side4 ?side5 ?side6 A5.out).mono ?_); (case side1 => exact Kd.C_below HR2_0.out (by repeat (first | (with_reducible first | exact HB.out | apply below_alloc | apply pw_below_drewN | apply below_drew1 | refine below_set ?_ GE248.out | refine below_set ?_ GE255.out) | exact HB.out))); (case side2 => exact HC2_0.out); (case side3 => exact Kd.C_below HR2_1.out (by repeat (first | (with_reducible first | exact HB.out | apply below_alloc | apply pw_below_drewN | apply below_drew1 | refine below_set ?_ GE248.out | refine below_set ?_ GE255.out) | exact HB.out))); (case side4 => exact HC2_1.out); (case side5 => refine (Kd.R_reads' (e := 30) (base := w.heap.size) (ok := fun k_ => some k_ ≠ (.slice Ao14 t252.length co14 : Value).ownBlock) (n := t249.length) (c := co11) ?_).2.2; exact (by (with_reducible repeat (first | apply Kd.R_alloc | apply Kd.R_drewN | apply Kd.R_drew)); exact (Kd.R_mono (Kd.R_far (p := ⟨gb255, 1, none⟩) (Kd.R_far (p := ⟨gb255, 0, none⟩) (Kd.R_types HO251.out BK255.out (by decide)) (fun _ hk => hk.2) (.slice Ao11 t249.length co11)) (fun _ hk => hk.2) (.slice Ao14 t252.length co14)) (fun _ h_ => h_.1)))); (case side6 => exact (Kd.R_reads' HO251.out).2.1); rintro e w16 ⟨rfl, hb⟩; refine ⟨_, rfl, ?_⟩; have n0_ := Aside0.mk (Kd.R_below (by (with_reducible repeat (first | apply Kd.R_alloc | apply Kd.R_drewN | apply Kd.R_drew)); exact (Kd.R_mono (Kd.R_far (p := ⟨gb255, 1, none⟩) (Kd.R_far (p := ⟨gb255, 0, none⟩) (Kd.R_types HO251.out BK255.out (by decide)) (fun _ hk => hk.2) (.slice Ao11 t249.length co11)) (fun _ hk => hk.2) (.slice Ao14 t252.length co14)) (fun _ h_ => h_.1))) hb); have n1_ := Aside0.mk (Kd.R_below (by (with_reducible repeat (first | apply Kd.R_alloc | apply Kd.R_drewN | apply Kd.R_drew)); exact (Kd.R_mono (Kd.R_far (p := ⟨gb255, 1, none⟩) (Kd.R_far (p := ⟨gb255, 0, none⟩) (Kd.R_types HO254.out BK255.out (by decide)) (fun _ hk => hk.2) (.slice Ao11 t249.length co11)) (fun _ hk => hk.2) (.slice Ao14 t252.length co14)) (fun _ h_ => h_.1))) hb); have n2_ := Aside0.mk (blk_below (g := gb248) (o := .cells #[.slice A2_0 l2_0.length c2_0, .slice A2_1 l2_1.length c2_1] 32 (0, 0)) (by (with_reducible repeat (first | refine blk_drewN ?_ _ | refine blk_drew ?_ | refine blk_alloc ?_ _)); refine blk_far ?_ NB248_255.out _; (with_reducible repeat (first | refine blk_drewN ?_ _ | refine blk_drew ?_ | refine blk_alloc ?_ _)); refine blk_far ?_ NB248_255.out _; (with_reducible repeat (first | refine blk_drewN ?_ _ | refine blk_drew ?_ | refine blk_alloc ?_ _)); exact BK248.out) hb); have n3_ := Aside0.mk (blk_below (g := gb255) (o := .cells #[.slice Ao11 t249.length co11, .slice Ao14 t252.length co14] 32 (0, 0)) (by (with_reducible repeat (first | refine blk_drewN ?_ _ | refine blk_drew ?_ | refine blk_alloc ?_ _)); refine blk_put (cs := #[.slice Ao11 t249.length co11, .slice none 0 0]) ?_ 1 _ rfl; (with_reducible repeat (first | refine blk_drewN ?_ _ | refine blk_drew ?_ | refine blk_alloc ?_ _)); refine blk_put (cs := #[.slice none 0 0, .slice none 0 0]) ?_ 0 _ rfl; (with_reducible repeat (first | refine blk_drewN ?_ _ | refine blk_drew ?_ | refine blk_alloc ?_ _)); exact BK255.out) hb); have n4_ := Aside0.mk (below_step (by repeat (first | (with_reducible first | exact HB.out | apply below_alloc | apply pw_below_drewN | apply below_drew1 | refine below_set ?_ GE248.out | refine below_set ?_ GE255.out) | exact HB.out)) hb); clear HO251; clear HO254; clear BK248; clear BK255; clear HB; have HO251 := n0_; have HO254 := n1_; have BK248 := n2_; have BK255 := n3_; have HB := n4_; clear n0_ n1_ n2_ n3_ n4_; (try clear hb); (try clear hb2); (try clear hk); (try clear hi); have hcz17_0 : w16.cell? ⟨gb248, 0, none⟩ = some (.slice A2_0 l2_0.length c2_0) := (blk_cell BK248.out 0).trans rfl; have hcz17_1 : w16.cell? ⟨gb248, 1, none⟩ = some (.slice A2_1 l2_1.length c2_1) := (blk_cell BK248.out 1).trans rfl; have hfz17_0 := blk_frozen BK248.out 0; have hfz17_1 := blk_frozen BK248.out 1; have hcz18_0 : w16.cell? ⟨gb255, 0, none⟩ = some (.slice Ao11 t249.length co11) := (blk_cell BK255.out 0).trans rfl; have hcz18_1 : w16.cell? ⟨gb255, 1, none⟩ = some (.slice Ao14 t252.length co14) := (blk_cell BK255.out 1).trans rfl; have hfz18_0 := blk_frozen BK255.out 0; have hfz18_1 := blk_frozen BK255.out 1) | (go_at_call 54; (with_reducible refine (pantileref03_In.calls k _ _ l2_0 _ _ l2_1 _ _ t252 t257 _ ?side1 ?side2 ?side3 ?side4 ?side5 ?side6 A7.out).mono ?_); (case side1 => repeat (first | exact (Kd.C_below HR2_0.out HB.out) | (with_reducible refine Kd.C_alloc ?_ _) | (with_reducible refine Kd.C_drewN ?_ _) | (with_reducible refine Kd.C_drew ?_))); (case side2 => exact HC2_0.out); (case side3 => repeat (first | exact (Kd.C_below HR2_1.out HB.out) | (with_reducible refine Kd.C_alloc ?_ _) | (with_reducible refine Kd.C_drewN ?_ _) | (with_reducible refine Kd.C_drew ?_))); (case side4 => exact HC2_1.out); (case side5 => repeat (first | exact (Kd.R_reads' HO254.out).2.2 | (with_reducible refine Kd.C_alloc ?_ _) | (with_reducible refine Kd.C_drewN ?_ _) | (with_reducible refine Kd.C_drew ?_))); (case side6 => exact (Kd.R_reads' HO254.out).2.1); rintro e w19 ⟨rfl, hb⟩; have n0_ := Aside0.mk (Kd.R_below (by (with_reducible repeat (first | apply Kd.R_alloc | apply Kd.R_drewN | apply Kd.R_drew)); exact HO251.out) hb); have n1_ := Aside0.mk (Kd.R_below (by (with_reducible repeat (first | apply Kd.R_alloc | apply Kd.R_drewN | apply Kd.R_drew)); exact HO254.out) hb); have n2_ := Aside0.mk (blk_below (g := gb248) (o := .cells #[.slice A2_0 l2_0.length c2_0, .slice A2_1 l2_1.length c2_1] 32 (0, 0)) (by (with_reducible repeat (first | refine blk_drewN ?_ _ | refine blk_drew ?_ | refine blk_alloc ?_ _)); exact BK248.out) hb); have n3_ := Aside0.mk (blk_below (g := gb255) (o := .cells #[.slice Ao11 t249.length co11, .slice Ao14 t252.length co14] 32 (0, 0)) (by (with_reducible repeat (first | refine blk_drewN ?_ _ | refine blk_drew ?_ | refine blk_alloc ?_ _)); exact BK255.out) hb); have n4_ := Aside0.mk (below_step (by repeat (first | (with_reducible first | exact HB.out | apply below_alloc | apply pw_below_drewN | apply below_drew1 | refine below_set ?_ GE248.out | refine below_set ?_ GE255.out) | exact HB.out)) hb); clear HO251; clear HO254; clear BK248; clear BK255; clear HB; have HO251 := n0_; have HO254 := n1_; have BK248 := n2_; have BK255 := n3_; have HB := n4_; clear n0_ n1_ n2_ n3_ n4_; (try clear hb); (try clear hb2); (try clear hk); (try clear hi)))
  go_ret
  exact ⟨by first | rfl | (simp [errW_none, errW_some] <;> rfl) | (simp [*, errW_none, errW_some] <;> rfl), by repeat (first | (with_reducible first | exact HB.out | apply below_alloc | apply pw_below_drewN | apply below_drew1 | refine below_set ?_ GE248.out | refine below_set ?_ GE255.out) | exact HB.out)⟩
 ·replace c6 := Bool.eq_false_iff.mpr c6
  subst c6
  have H1 : (some false) = some r := by rw [if_neg (show ¬ (false = true) by decide)] at H; exact H
  clear H
  have H := H1
  clear H1
  obtain rfl := Option.some.inj H
  go_enter Try.func49, Try.ntmps49
  go_wp2_with (first | ((with_reducible refine gate_dst (N := 5) rfl ?_); refine box_event ?hg (N := 5) ?hd (cs := #[.slice A2_0 l2_0.length c2_0, .slice A2_1 l2_1.length c2_1]) (t := 32) ?hr ?_; (case hd => rfl); (case hg => rfl); (case hr => first | (go_simp; done) | (go_simp; rfl)); intro gb248 hg w20 hbox hb; have n0_ := Aside0.mk (below_step (by repeat (first | (with_reducible first | exact HB.out | apply below_alloc | apply pw_below_drewN | apply below_drew1) | exact HB.out)) hb); have n1_ := Aside0.mk (hbox); have n2_ := Aside0.mk ((by rw [hg]; exact (below_size (by repeat (first | (with_reducible first | exact HB.out | apply below_alloc | apply pw_below_drewN | apply below_drew1) | exact HB.out))) : w.heap.size ≤ gb248)); have n3_ := Aside0.mk ((by rw [hg]; exact (below_size (by repeat (first | (with_reducible first | exact HB.out | apply below_alloc | apply pw_below_drewN | apply below_drew1) | exact HB.out))) : w.heap.size ≤ gb248)); clear HB; have HB := n0_; have BK248 := n1_; have GW248 := n2_; have GE248 := n3_; clear n0_ n1_ n2_ n3_; clear hb hbox hg) | ((with_reducible refine gate_callee (f := 31) rfl ?_); refine goesL_ (some 10) rfl rfl Try.func31 (by kernel_rfl) rfl #[.slice A0 l0.length c0, .int .i64 a1] rfl (by (try simp only [List.map_toArray, List.map_cons, List.map_nil]); first | done | rfl | (simp only [List.length_drop, List.length_take]; rfl)) ?_; (with_reducible refine (pantileref03_Cell.calls k _ _ l0 a1 t249 t252 _ ?side1 ?side2 A4.out).mono ?_); (case side1 => repeat (first | exact (Kd.C_below HR0.out HB.out) | (with_reducible refine Kd.C_alloc ?_ _) | (with_reducible refine Kd.C_drewN ?_ _) | (with_reducible refine Kd.C_drew ?_))); (case side2 => exact HC0.out); rintro e w21 ⟨v250, v253, rfl, ho0, ho1, hb⟩; refine ⟨_, rfl, ?_⟩; have n0_ := Aside0.mk (Kd.R_lower ho0 (below_size (by repeat (first | (with_reducible first | exact HB.out | apply below_alloc | apply pw_below_drewN | apply below_drew1 | refine below_set ?_ GE248.out) | exact HB.out)))); have n1_ := Aside0.mk (Kd.R_lower ho1 (below_size (by repeat (first | (with_reducible first | exact HB.out | apply below_alloc | apply pw_below_drewN | apply below_drew1 | refine below_set ?_ GE248.out) | exact HB.out)))); have n2_ := Aside0.mk (blk_below (g := gb248) (o := .cells #[.slice A2_0 l2_0.length c2_0, .slice A2_1 l2_1.length c2_1] 32 (0, 0)) (by (with_reducible repeat (first | refine blk_drewN ?_ _ | refine blk_drew ?_ | refine blk_alloc ?_ _)); exact BK248.out) hb); have n3_ := Aside0.mk (below_step (by repeat (first | (with_reducible first | exact HB.out | apply below_alloc | apply pw_below_drewN | apply below_drew1 | refine below_set ?_ GE248.out) | exact HB.out)) hb); clear BK248; clear HB; have HO251 := n0_; have HO254 := n1_; have BK248 := n2_; have HB := n3_; clear n0_ n1_ n2_ n3_; (try clear hb); (try clear hb2); (try clear hk); (try clear hi); (try clear ho0); (try clear ho1)) | ((with_reducible refine gate_dst (N := 7) rfl ?_); refine box_event ?hg (N := 7) ?hd (cs := #[.slice none 0 0, .slice none 0 0]) (t := 32) ?hr ?_; (case hd => rfl); (case hg => rfl); (case hr => first | (go_simp; done) | (go_simp; rfl)); intro gb255 hg w22 hbox hb; have n0_ := Aside0.mk (Kd.R_below (by (with_reducible repeat (first | apply Kd.R_alloc | apply Kd.R_drewN | apply Kd.R_drew)); exact HO251.out) hb); have n1_ := Aside0.mk (Kd.R_below (by (with_reducible repeat (first | apply Kd.R_alloc | apply Kd.R_drewN | apply Kd.R_drew)); exact HO254.out) hb); have n2_ := Aside0.mk (blk_below (g := gb248) (o := .cells #[.slice A2_0 l2_0.length c2_0, .slice A2_1 l2_1.length c2_1] 32 (0, 0)) (by (with_reducible repeat (first | refine blk_drewN ?_ _ | refine blk_drew ?_ | refine blk_alloc ?_ _)); exact BK248.out) hb); have n3_ := Aside0.mk (below_step (by repeat (first | (with_reducible first | exact HB.out | apply below_alloc | apply pw_below_drewN | apply below_drew1 | refine below_set ?_ GE248.out) | exact HB.out)) hb); have n4_ := Aside0.mk (hbox); have n5_ := Aside0.mk ((by rw [hg]; exact (below_size (by repeat (first | (with_reducible first | exact HB.out | apply below_alloc | apply pw_below_drewN | apply below_drew1 | refine below_set ?_ GE248.out) | exact HB.out))) : w.heap.size ≤ gb255)); have n6_ := Aside0.mk ((by rw [hg]; exact (below_size (by repeat (first | (with_reducible first | exact HB.out | apply below_alloc | apply pw_below_drewN | apply below_drew1 | refine below_set ?_ GE248.out) | exact HB.out))) : w.heap.size ≤ gb255)); have n7_ := Aside0.mk ((by rw [hg]; exact Nat.ne_of_lt (blk_lt (g := gb248) (o := .cells #[.slice A2_0 l2_0.length c2_0, .slice A2_1 l2_1.length c2_1] 32 (0, 0)) (by (with_reducible repeat (first | refine blk_drewN ?_ _ | refine blk_drew ?_ | refine blk_alloc ?_ _)); exact BK248.out)) : gb248 ≠ gb255)); have n8_ := Aside0.mk ((by rw [hg]; exact Nat.ne_of_gt (blk_lt (g := gb248) (o := .cells #[.slice A2_0 l2_0.length c2_0, .slice A2_1 l2_1.length c2_1] 32 (0, 0)) (by (with_reducible repeat (first | refine blk_drewN ?_ _ | refine blk_drew ?_ | refine blk_alloc ?_ _)); exact BK248.out)) : gb255 ≠ gb248)); clear HO251; clear HO254; clear BK248; clear HB; have HO251 := n0_; have HO254 := n1_; have BK248 := n2_; have HB := n3_; have BK255 := n4_; have GW255 := n5_; have GE255 := n6_; have NB248_255 := n7_; have NB255_248 := n8_; clear n0_ n1_ n2_ n3_ n4_ n5_ n6_ n7_ n8_; clear hb hbox hg; obtain ⟨Ao23, co23, eo23⟩ := Kd.R_slice HO251.out; subst eo23; have hnb24 := NB255_248.out; have hnc24 := NB248_255.out; have hcz25_0 : w22.cell? ⟨gb255, 0, none⟩ = some (.slice none 0 0) := (blk_cell BK255.out 0).trans rfl; have hcz25_1 : w22.cell? ⟨gb255, 1, none⟩ = some (.slice none 0 0) := (blk_cell BK255.out 1).trans rfl; have hfz25_0 := blk_frozen BK255.out 0; have hfz25_1 := blk_frozen BK255.out 1; obtain ⟨Ao26, co26, eo26⟩ := Kd.R_slice HO254.out; subst eo26; have hcz27_0 : w22.cell? ⟨gb248, 0, none⟩ = some (.slice A2_0 l2_0.length c2_0) := (blk_cell BK248.out 0).trans rfl; have hcz27_1 : w22.cell? ⟨gb248, 1, none⟩ = some (.slice A2_1 l2_1.length c2_1) := (blk_cell BK248.out 1).trans rfl; have hfz27_0 := blk_frozen BK248.out 0; have hfz27_1 := blk_frozen BK248.out 1) | ((with_reducible refine gate_callee (f := 54) rfl ?_); refine goesL_ (some 14) rfl rfl Try.func54 (by kernel_rfl) rfl #[.agg #[.slice A2_0 l2_0.length c2_0, .slice A2_1 l2_1.length c2_1], .slice Ao23 t249.length co23] rfl (by (try simp only [List.map_toArray, List.map_cons, List.map_nil]); first | done | rfl | (simp only [List.length_drop, List.length_take]; rfl)) ?_; (with_reducible refine (pantileref03_In.calls k _ _ l2_0 _ _ l2_1 _ _ t249 false _ ?side1 ?side2 ?side3 ?side4 ?side5 ?side6 A5.out).mono ?_); (case side1 => exact Kd.C_below HR2_0.out (by repeat (first | (with_reducible first | exact HB.out | apply below_alloc | apply pw_below_drewN | apply below_drew1 | refine below_set ?_ GE248.out | refine below_set ?_ GE255.out) | exact HB.out))); (case side2 => exact HC2_0.out); (case side3 => exact Kd.C_below HR2_1.out (by repeat (first | (with_reducible first | exact HB.out | apply below_alloc | apply pw_below_drewN | apply below_drew1 | refine below_set ?_ GE248.out | refine below_set ?_ GE255.out) | exact HB.out))); (case side4 => exact HC2_1.out); (case side5 => refine (Kd.R_reads' (e := 30) (base := w.heap.size) (ok := fun k_ => some k_ ≠ (.slice Ao26 t252.length co26 : Value).ownBlock) (n := t249.length) (c := co23) ?_).2.2; exact (by (with_reducible repeat (first | apply Kd.R_alloc | apply Kd.R_drewN | apply Kd.R_drew)); exact (Kd.R_mono (Kd.R_far (p := ⟨gb255, 1, none⟩) (Kd.R_far (p := ⟨gb255, 0, none⟩) (Kd.R_types HO251.out BK255.out (by decide)) (fun _ hk => hk.2) (.slice Ao23 t249.length co23)) (fun _ hk => hk.2) (.slice Ao26 t252.length co26)) (fun _ h_ => h_.1)))); (case side6 => exact (Kd.R_reads' HO251.out).2.1); rintro e w28 ⟨rfl, hb⟩; refine ⟨_, rfl, ?_⟩; have n0_ := Aside0.mk (Kd.R_below (by (with_reducible repeat (first | apply Kd.R_alloc | apply Kd.R_drewN | apply Kd.R_drew)); exact (Kd.R_mono (Kd.R_far (p := ⟨gb255, 1, none⟩) (Kd.R_far (p := ⟨gb255, 0, none⟩) (Kd.R_types HO251.out BK255.out (by decide)) (fun _ hk => hk.2) (.slice Ao23 t249.length co23)) (fun _ hk => hk.2) (.slice Ao26 t252.length co26)) (fun _ h_ => h_.1))) hb); have n1_ := Aside0.mk (Kd.R_below (by (with_reducible repeat (first | apply Kd.R_alloc | apply Kd.R_drewN | apply Kd.R_drew)); exact (Kd.R_mono (Kd.R_far (p := ⟨gb255, 1, none⟩) (Kd.R_far (p := ⟨gb255, 0, none⟩) (Kd.R_types HO254.out BK255.out (by decide)) (fun _ hk => hk.2) (.slice Ao23 t249.length co23)) (fun _ hk => hk.2) (.slice Ao26 t252.length co26)) (fun _ h_ => h_.1))) hb); have n2_ := Aside0.mk (blk_below (g := gb248) (o := .cells #[.slice A2_0 l2_0.length c2_0, .slice A2_1 l2_1.length c2_1] 32 (0, 0)) (by (with_reducible repeat (first | refine blk_drewN ?_ _ | refine blk_drew ?_ | refine blk_alloc ?_ _)); refine blk_far ?_ NB248_255.out _; (with_reducible repeat (first | refine blk_drewN ?_ _ | refine blk_drew ?_ | refine blk_alloc ?_ _)); refine blk_far ?_ NB248_255.out _; (with_reducible repeat (first | refine blk_drewN ?_ _ | refine blk_drew ?_ | refine blk_alloc ?_ _)); exact BK248.out) hb); have n3_ := Aside0.mk (blk_below (g := gb255) (o := .cells #[.slice Ao23 t249.length co23, .slice Ao26 t252.length co26] 32 (0, 0)) (by (with_reducible repeat (first | refine blk_drewN ?_ _ | refine blk_drew ?_ | refine blk_alloc ?_ _)); refine blk_put (cs := #[.slice Ao23 t249.length co23, .slice none 0 0]) ?_ 1 _ rfl; (with_reducible repeat (first | refine blk_drewN ?_ _ | refine blk_drew ?_ | refine blk_alloc ?_ _)); refine blk_put (cs := #[.slice none 0 0, .slice none 0 0]) ?_ 0 _ rfl; (with_reducible repeat (first | refine blk_drewN ?_ _ | refine blk_drew ?_ | refine blk_alloc ?_ _)); exact BK255.out) hb); have n4_ := Aside0.mk (below_step (by repeat (first | (with_reducible first | exact HB.out | apply below_alloc | apply pw_below_drewN | apply below_drew1 | refine below_set ?_ GE248.out | refine below_set ?_ GE255.out) | exact HB.out)) hb); clear HO251; clear HO254; clear BK248; clear BK255; clear HB; have HO251 := n0_; have HO254 := n1_; have BK248 := n2_; have BK255 := n3_; have HB := n4_; clear n0_ n1_ n2_ n3_ n4_; (try clear hb); (try clear hb2); (try clear hk); (try clear hi)))
  go_ret
  exact ⟨by first | rfl | (simp [errW_none, errW_some] <;> rfl) | (simp [*, errW_none, errW_some] <;> rfl), by repeat (first | (with_reducible first | exact HB.out | apply below_alloc | apply pw_below_drewN | apply below_drew1 | refine below_set ?_ GE248.out | refine below_set ?_ GE255.out) | exact HB.out)⟩

/-! ### pantileref33_meets: function 96 -/
def pantileref33_meets.l0 : Nat → Int → List Int → Int → List Int → List Int → List Int → List Int → Option (Bool)
  | 0, _, _, _, _, _, _, _ => none
  | k + 1, x6, x259000, x259001, x260000, x260001, x267000, x267001 => if x6 < (x259000.length : Int) then (if 0 ≤ x6 then (if x6 < (x267000.length : Int) then (if x6 < (x260001.length : Int) then (if (rd x267000 x6) > (rd x260001 x6) then (some false) else (if x6 < (x267001.length : Int) then (if x6 < (x260000.length : Int) then (if (rd x267001 x6) < (rd x260000 x6) then (some false) else (pantileref33_meets.l0 k (wrap64 (x6 + 1)) x259000 x259001 x260000 x260001 x267000 x267001)) else (none)) else (none))) else (none)) else (none)) else (none)) else (some true)
def pantileref33_meets.f (k : Nat) (l0_0 : List Int) (a0_1 : Int) (l1_0 : List Int) (l1_1 : List Int) : Option (Bool) := (pantileref03_Cell.f k l0_0 a0_1).bind fun bt260 => (pantileref33_meets.l0 k 0 l0_0 a0_1 l1_0 l1_1 bt260.1 bt260.2)
theorem pantileref33_meets.mono_l : ∀ k, (∀ y0 y1 y2 y3 y4 y5 y6, LeO (pantileref33_meets.l0 k y0 y1 y2 y3 y4 y5 y6) (pantileref33_meets.l0 (k + 1) y0 y1 y2 y3 y4 y5 y6))
  | 0 => fun _ _ _ _ _ _ _ r h => by simp [pantileref33_meets.l0] at h
  | k + 1 => by
    have ih0 := pantileref33_meets.mono_l k
    · intro y0 y1 y2 y3 y4 y5 y6
      unfold pantileref33_meets.l0
      repeat' first
      | (with_reducible exact ih0 _ _ _ _ _ _ _)
      | (with_reducible exact pantileref03_Cell.mono _ _ _)
      | (with_reducible exact LeO.refl _)
      | (with_reducible exact LeO.none _)
      | (with_reducible refine LeO.ite ?_ ?_)
      | (with_reducible refine LeO.bind ?_ (fun _ => ?_))
      | exact ih0 _ _ _ _ _ _ _
      | exact pantileref03_Cell.mono _ _ _
      | exact LeO.none _
      | refine LeO.ite ?_ ?_
      | refine LeO.bind ?_ (fun _ => ?_)
theorem pantileref33_meets.mono : ∀ a0 a1 a2 a3 k, LeO (pantileref33_meets.f k a0 a1 a2 a3) (pantileref33_meets.f (k + 1) a0 a1 a2 a3) := by
  intro a0 a1 a2 a3 k
  have ih0 := pantileref33_meets.mono_l k
  unfold pantileref33_meets.f
  repeat' first
      | (with_reducible exact ih0 _ _ _ _ _ _ _)
      | (with_reducible exact pantileref03_Cell.mono _ _ _)
      | (with_reducible exact LeO.refl _)
      | (with_reducible exact LeO.none _)
      | (with_reducible refine LeO.ite ?_ ?_)
      | (with_reducible refine LeO.bind ?_ (fun _ => ?_))
      | exact ih0 _ _ _ _ _ _ _
      | exact pantileref03_Cell.mono _ _ _
      | exact LeO.none _
      | refine LeO.ite ?_ ?_
      | refine LeO.bind ?_ (fun _ => ?_)
set_option maxHeartbeats 8000000 in
set_option maxRecDepth 100000 in
theorem pantileref33_meets.calls (k : Nat) (A0_0 : Option Addr) (c0_0 : Nat) (l0_0 : List Int) (a0_1 : Int) (A1_0 : Option Addr) (c1_0 : Nat) (l1_0 : List Int) (A1_1 : Option Addr) (c1_1 : Nat) (l1_1 : List Int) (r : Bool) (w : World) (hr0_0 : Kd.C (Kd.int .u64) w A0_0 l0_0.length l0_0) (hc0_0 : l0_0.length ≤ c0_0) (hr1_0 : Kd.C (Kd.int .u64) w A1_0 l1_0.length l1_0) (hc1_0 : l1_0.length ≤ c1_0) (hr1_1 : Kd.C (Kd.int .u64) w A1_1 l1_1.length l1_1) (hc1_1 : l1_1.length ≤ c1_1) (h : pantileref33_meets.f k l0_0 a0_1 l1_0 l1_1 = some r) :
  Calls Try.prog 96 #[.agg #[.slice A0_0 l0_0.length c0_0, .int .i64 a0_1], .agg #[.slice A1_0 l1_0.length c1_0, .slice A1_1 l1_1.length c1_1]] w fun e w' => e = .returned (.bool r) ∧ Below w.heap.size w w' := by
 have hu94 := Try.underlying94
 have hu32 := Try.underlying32
 have HR0_0 := Aside0.mk hr0_0
 have HC0_0 := Aside0.mk hc0_0
 clear hr0_0 hc0_0
 have HR1_0 := Aside0.mk hr1_0
 have HC1_0 := Aside0.mk hc1_0
 clear hr1_0 hc1_0
 have HR1_1 := Aside0.mk hr1_1
 have HC1_1 := Aside0.mk hc1_1
 clear hr1_1 hc1_1
 have HB := Aside0.mk (Below.refl w.heap.size w)
 have H : ((pantileref03_Cell.f k l0_0 a0_1).bind fun bt260 => (pantileref33_meets.l0 k 0 l0_0 a0_1 l1_0 l1_1 bt260.1 bt260.2)) = some r := h
 clear h
 replace H := Option.bind_eq_some_iff.mp H
 obtain ⟨⟨t260, t263⟩, A30, H⟩ := H
 replace H : (pantileref33_meets.l0 k 0 l0_0 a0_1 l1_0 l1_1 t260 t263) = some r := H
 have A3 := Aside0.mk A30
 clear A30
 have H' := Aside0.mk H
 clear H
 go_enter Try.func96, Try.ntmps96
 go_wp2_with (first | ((with_reducible refine gate_dst (N := 2) rfl ?_); refine box_event ?hg (N := 2) ?hd (cs := #[.slice A0_0 l0_0.length c0_0, .int .i64 a0_1]) (t := 94) ?hr ?_; (case hd => rfl); (case hg => rfl); (case hr => first | (go_simp; done) | (go_simp; rfl)); intro gb258 hg w4 hbox hb; have n0_ := Aside0.mk (below_step (by repeat (first | (with_reducible first | exact HB.out | apply below_alloc | apply pw_below_drewN | apply below_drew1) | exact HB.out)) hb); have n1_ := Aside0.mk (hbox); have n2_ := Aside0.mk ((by rw [hg]; exact (below_size (by repeat (first | (with_reducible first | exact HB.out | apply below_alloc | apply pw_below_drewN | apply below_drew1) | exact HB.out))) : w.heap.size ≤ gb258)); have n3_ := Aside0.mk ((by rw [hg]; exact (below_size (by repeat (first | (with_reducible first | exact HB.out | apply below_alloc | apply pw_below_drewN | apply below_drew1) | exact HB.out))) : w.heap.size ≤ gb258)); clear HB; have HB := n0_; have BK258 := n1_; have GW258 := n2_; have GE258 := n3_; clear n0_ n1_ n2_ n3_; clear hb hbox hg) | ((with_reducible refine gate_dst (N := 3) rfl ?_); refine box_event ?hg (N := 3) ?hd (cs := #[.slice A1_0 l1_0.length c1_0, .slice A1_1 l1_1.length c1_1]) (t := 32) ?hr ?_; (case hd => rfl); (case hg => rfl); (case hr => first | (go_simp; done) | (go_simp; rfl)); intro gb259 hg w5 hbox hb; have n0_ := Aside0.mk (blk_below (g := gb258) (o := .cells #[.slice A0_0 l0_0.length c0_0, .int .i64 a0_1] 94 (0, 0)) (by (with_reducible repeat (first | refine blk_drewN ?_ _ | refine blk_drew ?_ | refine blk_alloc ?_ _)); exact BK258.out) hb); have n1_ := Aside0.mk (below_step (by repeat (first | (with_reducible first | exact HB.out | apply below_alloc | apply pw_below_drewN | apply below_drew1 | refine below_set ?_ GE258.out) | exact HB.out)) hb); have n2_ := Aside0.mk (hbox); have n3_ := Aside0.mk ((by rw [hg]; exact (below_size (by repeat (first | (with_reducible first | exact HB.out | apply below_alloc | apply pw_below_drewN | apply below_drew1 | refine below_set ?_ GE258.out) | exact HB.out))) : w.heap.size ≤ gb259)); have n4_ := Aside0.mk ((by rw [hg]; exact (below_size (by repeat (first | (with_reducible first | exact HB.out | apply below_alloc | apply pw_below_drewN | apply below_drew1 | refine below_set ?_ GE258.out) | exact HB.out))) : w.heap.size ≤ gb259)); have n5_ := Aside0.mk ((by rw [hg]; exact Nat.ne_of_lt (blk_lt (g := gb258) (o := .cells #[.slice A0_0 l0_0.length c0_0, .int .i64 a0_1] 94 (0, 0)) (by (with_reducible repeat (first | refine blk_drewN ?_ _ | refine blk_drew ?_ | refine blk_alloc ?_ _)); exact BK258.out)) : gb258 ≠ gb259)); have n6_ := Aside0.mk ((by rw [hg]; exact Nat.ne_of_gt (blk_lt (g := gb258) (o := .cells #[.slice A0_0 l0_0.length c0_0, .int .i64 a0_1] 94 (0, 0)) (by (with_reducible repeat (first | refine blk_drewN ?_ _ | refine blk_drew ?_ | refine blk_alloc ?_ _)); exact BK258.out)) : gb259 ≠ gb258)); clear BK258; clear HB; have BK258 := n0_; have HB := n1_; have BK259 := n2_; have GW259 := n3_; have GE259 := n4_; have NB258_259 := n5_; have NB259_258 := n6_; clear n0_ n1_ n2_ n3_ n4_ n5_ n6_; clear hb hbox hg; have hnb6 := NB258_259.out; have hnc6 := NB259_258.out; have hcz7_0 : w5.cell? ⟨gb258, 0, none⟩ = some (.slice A0_0 l0_0.length c0_0) := (blk_cell BK258.out 0).trans rfl; have hcz7_1 : w5.cell? ⟨gb258, 1, none⟩ = some (.int .i64 a0_1) := (blk_cell BK258.out 1).trans rfl; have hfz7_0 := blk_frozen BK258.out 0; have hfz7_1 := blk_frozen BK258.out 1) | (go_at_call 31; (with_reducible refine (pantileref03_Cell.calls k _ _ l0_0 a0_1 t260 t263 _ ?side1 ?side2 A3.out).mono ?_); (case side1 => repeat (first | exact (Kd.C_below HR0_0.out HB.out) | (with_reducible refine Kd.C_alloc ?_ _) | (with_reducible refine Kd.C_drewN ?_ _) | (with_reducible refine Kd.C_drew ?_))); (case side2 => exact HC0_0.out); rintro e w8 ⟨v261, v264, rfl, ho0, ho1, hb⟩; have n0_ := Aside0.mk (Kd.R_lower ho0 (below_size (by repeat (first | (with_reducible first | exact HB.out | apply below_alloc | apply pw_below_drewN | apply below_drew1 | refine below_set ?_ GE258.out | refine below_set ?_ GE259.out) | exact HB.out)))); have n1_ := Aside0.mk (Kd.R_lower ho1 (below_size (by repeat (first | (with_reducible first | exact HB.out | apply below_alloc | apply pw_below_drewN | apply below_drew1 | refine below_set ?_ GE258.out | refine below_set ?_ GE259.out) | exact HB.out)))); have n2_ := Aside0.mk (blk_below (g := gb258) (o := .cells #[.slice A0_0 l0_0.length c0_0, .int .i64 a0_1] 94 (0, 0)) (by (with_reducible repeat (first | refine blk_drewN ?_ _ | refine blk_drew ?_ | refine blk_alloc ?_ _)); exact BK258.out) hb); have n3_ := Aside0.mk (blk_below (g := gb259) (o := .cells #[.slice A1_0 l1_0.length c1_0, .slice A1_1 l1_1.length c1_1] 32 (0, 0)) (by (with_reducible repeat (first | refine blk_drewN ?_ _ | refine blk_drew ?_ | refine blk_alloc ?_ _)); exact BK259.out) hb); have n4_ := Aside0.mk (below_step (by repeat (first | (with_reducible first | exact HB.out | apply below_alloc | apply pw_below_drewN | apply below_drew1 | refine below_set ?_ GE258.out | refine below_set ?_ GE259.out) | exact HB.out)) hb); clear BK258; clear BK259; clear HB; have HO262 := n0_; have HO265 := n1_; have BK258 := n2_; have BK259 := n3_; have HB := n4_; clear n0_ n1_ n2_ n3_ n4_; (try clear hb); (try clear hb2); (try clear hk); (try clear hi); (try clear ho0); (try clear ho1)) | ((with_reducible refine gate_dst (N := 5) rfl ?_); refine box_event ?hg (N := 5) ?hd (cs := #[.slice none 0 0, .slice none 0 0]) (t := 32) ?hr ?_; (case hd => rfl); (case hg => rfl); (case hr => first | (go_simp; done) | (go_simp; rfl)); intro gb266 hg w9 hbox hb; have n0_ := Aside0.mk (Kd.R_below (by (with_reducible repeat (first | apply Kd.R_alloc | apply Kd.R_drewN | apply Kd.R_drew)); exact HO262.out) hb); have n1_ := Aside0.mk (Kd.R_below (by (with_reducible repeat (first | apply Kd.R_alloc | apply Kd.R_drewN | apply Kd.R_drew)); exact HO265.out) hb); have n2_ := Aside0.mk (blk_below (g := gb258) (o := .cells #[.slice A0_0 l0_0.length c0_0, .int .i64 a0_1] 94 (0, 0)) (by (with_reducible repeat (first | refine blk_drewN ?_ _ | refine blk_drew ?_ | refine blk_alloc ?_ _)); exact BK258.out) hb); have n3_ := Aside0.mk (blk_below (g := gb259) (o := .cells #[.slice A1_0 l1_0.length c1_0, .slice A1_1 l1_1.length c1_1] 32 (0, 0)) (by (with_reducible repeat (first | refine blk_drewN ?_ _ | refine blk_drew ?_ | refine blk_alloc ?_ _)); exact BK259.out) hb); have n4_ := Aside0.mk (below_step (by repeat (first | (with_reducible first | exact HB.out | apply below_alloc | apply pw_below_drewN | apply below_drew1 | refine below_set ?_ GE258.out | refine below_set ?_ GE259.out) | exact HB.out)) hb); have n5_ := Aside0.mk (hbox); have n6_ := Aside0.mk ((by rw [hg]; exact (below_size (by repeat (first | (with_reducible first | exact HB.out | apply below_alloc | apply pw_below_drewN | apply below_drew1 | refine below_set ?_ GE258.out | refine below_set ?_ GE259.out) | exact HB.out))) : w.heap.size ≤ gb266)); have n7_ := Aside0.mk ((by rw [hg]; exact (below_size (by repeat (first | (with_reducible first | exact HB.out | apply below_alloc | apply pw_below_drewN | apply below_drew1 | refine below_set ?_ GE258.out | refine below_set ?_ GE259.out) | exact HB.out))) : w.heap.size ≤ gb266)); have n8_ := Aside0.mk ((by rw [hg]; exact Nat.ne_of_lt (blk_lt (g := gb258) (o := .cells #[.slice A0_0 l0_0.length c0_0, .int .i64 a0_1] 94 (0, 0)) (by (with_reducible repeat (first | refine blk_drewN ?_ _ | refine blk_drew ?_ | refine blk_alloc ?_ _)); exact BK258.out)) : gb258 ≠ gb266)); have n9_ := Aside0.mk ((by rw [hg]; exact Nat.ne_of_gt (blk_lt (g := gb258) (o := .cells #[.slice A0_0 l0_0.length c0_0, .int .i64 a0_1] 94 (0, 0)) (by (with_reducible repeat (first | refine blk_drewN ?_ _ | refine blk_drew ?_ | refine blk_alloc ?_ _)); exact BK258.out)) : gb266 ≠ gb258)); have n10_ := Aside0.mk ((by rw [hg]; exact Nat.ne_of_lt (blk_lt (g := gb259) (o := .cells #[.slice A1_0 l1_0.length c1_0, .slice A1_1 l1_1.length c1_1] 32 (0, 0)) (by (with_reducible repeat (first | refine blk_drewN ?_ _ | refine blk_drew ?_ | refine blk_alloc ?_ _)); exact BK259.out)) : gb259 ≠ gb266)); have n11_ := Aside0.mk ((by rw [hg]; exact Nat.ne_of_gt (blk_lt (g := gb259) (o := .cells #[.slice A1_0 l1_0.length c1_0, .slice A1_1 l1_1.length c1_1] 32 (0, 0)) (by (with_reducible repeat (first | refine blk_drewN ?_ _ | refine blk_drew ?_ | refine blk_alloc ?_ _)); exact BK259.out)) : gb266 ≠ gb259)); clear HO262; clear HO265; clear BK258; clear BK259; clear HB; have HO262 := n0_; have HO265 := n1_; have BK258 := n2_; have BK259 := n3_; have HB := n4_; have BK266 := n5_; have GW266 := n6_; have GE266 := n7_; have NB258_266 := n8_; have NB266_258 := n9_; have NB259_266 := n10_; have NB266_259 := n11_; clear n0_ n1_ n2_ n3_ n4_ n5_ n6_ n7_ n8_ n9_ n10_ n11_; clear hb hbox hg; obtain ⟨Ao10, co10, eo10⟩ := Kd.R_slice HO262.out; subst eo10; have hnb11 := NB266_258.out; have hnc11 := NB258_266.out; have hnb12 := NB266_259.out; have hnc12 := NB259_266.out; have hcz13_0 : w9.cell? ⟨gb266, 0, none⟩ = some (.slice none 0 0) := (blk_cell BK266.out 0).trans rfl; have hcz13_1 : w9.cell? ⟨gb266, 1, none⟩ = some (.slice none 0 0) := (blk_cell BK266.out 1).trans rfl; have hfz13_0 := blk_frozen BK266.out 0; have hfz13_1 := blk_frozen BK266.out 1; obtain ⟨Ao14, co14, eo14⟩ := Kd.R_slice HO265.out; subst eo14))
 repeat (go_quiet (first | ((with_reducible refine gate_dst (N := 2) rfl ?_); refine box_event ?hg (N := 2) ?hd (cs := #[.slice A0_0 l0_0.length c0_0, .int .i64 a0_1]) (t := 94) ?hr ?_; (case hd => rfl); (case hg => rfl); (case hr => first | (go_simp; done) | (go_simp; rfl)); intro gb258 hg w4 hbox hb; have n0_ := Aside0.mk (below_step (by repeat (first | (with_reducible first | exact HB.out | apply below_alloc | apply pw_below_drewN | apply below_drew1) | exact HB.out)) hb); have n1_ := Aside0.mk (hbox); have n2_ := Aside0.mk ((by rw [hg]; exact (below_size (by repeat (first | (with_reducible first | exact HB.out | apply below_alloc | apply pw_below_drewN | apply below_drew1) | exact HB.out))) : w.heap.size ≤ gb258)); have n3_ := Aside0.mk ((by rw [hg]; exact (below_size (by repeat (first | (with_reducible first | exact HB.out | apply below_alloc | apply pw_below_drewN | apply below_drew1) | exact HB.out))) : w.heap.size ≤ gb258)); clear HB; have HB := n0_; have BK258 := n1_; have GW258 := n2_; have GE258 := n3_; clear n0_ n1_ n2_ n3_; clear hb hbox hg) | ((with_reducible refine gate_dst (N := 3) rfl ?_); refine box_event ?hg (N := 3) ?hd (cs := #[.slice A1_0 l1_0.length c1_0, .slice A1_1 l1_1.length c1_1]) (t := 32) ?hr ?_; (case hd => rfl); (case hg => rfl); (case hr => first | (go_simp; done) | (go_simp; rfl)); intro gb259 hg w5 hbox hb; have n0_ := Aside0.mk (blk_below (g := gb258) (o := .cells #[.slice A0_0 l0_0.length c0_0, .int .i64 a0_1] 94 (0, 0)) (by (with_reducible repeat (first | refine blk_drewN ?_ _ | refine blk_drew ?_ | refine blk_alloc ?_ _)); exact BK258.out) hb); have n1_ := Aside0.mk (below_step (by repeat (first | (with_reducible first | exact HB.out | apply below_alloc | apply pw_below_drewN | apply below_drew1 | refine below_set ?_ GE258.out) | exact HB.out)) hb); have n2_ := Aside0.mk (hbox); have n3_ := Aside0.mk ((by rw [hg]; exact (below_size (by repeat (first | (with_reducible first | exact HB.out | apply below_alloc | apply pw_below_drewN | apply below_drew1 | refine below_set ?_ GE258.out) | exact HB.out))) : w.heap.size ≤ gb259)); have n4_ := Aside0.mk ((by rw [hg]; exact (below_size (by repeat (first | (with_reducible first | exact HB.out | apply below_alloc | apply pw_below_drewN | apply below_drew1 | refine below_set ?_ GE258.out) | exact HB.out))) : w.heap.size ≤ gb259)); have n5_ := Aside0.mk ((by rw [hg]; exact Nat.ne_of_lt (blk_lt (g := gb258) (o := .cells #[.slice A0_0 l0_0.length c0_0, .int .i64 a0_1] 94 (0, 0)) (by (with_reducible repeat (first | refine blk_drewN ?_ _ | refine blk_drew ?_ | refine blk_alloc ?_ _)); exact BK258.out)) : gb258 ≠ gb259)); have n6_ := Aside0.mk ((by rw [hg]; exact Nat.ne_of_gt (blk_lt (g := gb258) (o := .cells #[.slice A0_0 l0_0.length c0_0, .int .i64 a0_1] 94 (0, 0)) (by (with_reducible repeat (first | refine blk_drewN ?_ _ | refine blk_drew ?_ | refine blk_alloc ?_ _)); exact BK258.out)) : gb259 ≠ gb258)); clear BK258; clear HB; have BK258 := n0_; have HB := n1_; have BK259 := n2_; have GW259 := n3_; have GE259 := n4_; have NB258_259 := n5_; have NB259_258 := n6_; clear n0_ n1_ n2_ n3_ n4_ n5_ n6_; clear hb hbox hg; have hnb6 := NB258_259.out; have hnc6 := NB259_258.out; have hcz7_0 : w5.cell? ⟨gb258, 0, none⟩ = some (.slice A0_0 l0_0.length c0_0) := (blk_cell BK258.out 0).trans rfl; have hcz7_1 : w5.cell? ⟨gb258, 1, none⟩ = some (.int .i64 a0_1) := (blk_cell BK258.out 1).trans rfl; have hfz7_0 := blk_frozen BK258.out 0; have hfz7_1 := blk_frozen BK258.out 1) | (go_at_call 31; (with_reducible refine (pantileref03_Cell.calls k _ _ l0_0 a0_1 t260 t263 _ ?side1 ?side2 A3.out).mono ?_); (case side1 => repeat (first | exact (Kd.C_below HR0_0.out HB.out) | (with_reducible refine Kd.C_alloc ?_ _) | (with_reducible refine Kd.C_drewN ?_ _) | (with_reducible refine Kd.C_drew ?_))); (case side2 => exact HC0_0.out); rintro e w8 ⟨v261, v264, rfl, ho0, ho1, hb⟩; have n0_ := Aside0.mk (Kd.R_lower ho0 (below_size (by repeat (first | (with_reducible first | exact HB.out | apply below_alloc | apply pw_below_drewN | apply below_drew1 | refine below_set ?_ GE258.out | refine below_set ?_ GE259.out) | exact HB.out)))); have n1_ := Aside0.mk (Kd.R_lower ho1 (below_size (by repeat (first | (with_reducible first | exact HB.out | apply below_alloc | apply pw_below_drewN | apply below_drew1 | refine below_set ?_ GE258.out | refine below_set ?_ GE259.out) | exact HB.out)))); have n2_ := Aside0.mk (blk_below (g := gb258) (o := .cells #[.slice A0_0 l0_0.length c0_0, .int .i64 a0_1] 94 (0, 0)) (by (with_reducible repeat (first | refine blk_drewN ?_ _ | refine blk_drew ?_ | refine blk_alloc ?_ _)); exact BK258.out) hb); have n3_ := Aside0.mk (blk_below (g := gb259) (o := .cells #[.slice A1_0 l1_0.length c1_0, .slice A1_1 l1_1.length c1_1] 32 (0, 0)) (by (with_reducible repeat (first | refine blk_drewN ?_ _ | refine blk_drew ?_ | refine blk_alloc ?_ _)); exact BK259.out) hb); have n4_ := Aside0.mk (below_step (by repeat (first | (with_reducible first | exact HB.out | apply below_alloc | apply pw_below_drewN | apply below_drew1 | refine below_set ?_ GE258.out | refine below_set ?_ GE259.out) | exact HB.out)) hb); clear BK258; clear BK259; clear HB; have HO262 := n0_; have HO265 := n1_; have BK258 := n2_; have BK259 := n3_; have HB := n4_; clear n0_ n1_ n2_ n3_ n4_; (try clear hb); (try clear hb2); (try clear hk); (try clear hi); (try clear ho0); (try clear ho1)) | ((with_reducible refine gate_dst (N := 5) rfl ?_); refine box_event ?hg (N := 5) ?hd (cs := #[.slice none 0 0, .slice none 0 0]) (t := 32) ?hr ?_; (case hd => rfl); (case hg => rfl); (case hr => first | (go_simp; done) | (go_simp; rfl)); intro gb266 hg w9 hbox hb; have n0_ := Aside0.mk (Kd.R_below (by (with_reducible repeat (first | apply Kd.R_alloc | apply Kd.R_drewN | apply Kd.R_drew)); exact HO262.out) hb); have n1_ := Aside0.mk (Kd.R_below (by (with_reducible repeat (first | apply Kd.R_alloc | apply Kd.R_drewN | apply Kd.R_drew)); exact HO265.out) hb); have n2_ := Aside0.mk (blk_below (g := gb258) (o := .cells #[.slice A0_0 l0_0.length c0_0, .int .i64 a0_1] 94 (0, 0)) (by (with_reducible repeat (first | refine blk_drewN ?_ _ | refine blk_drew ?_ | refine blk_alloc ?_ _)); exact BK258.out) hb); have n3_ := Aside0.mk (blk_below (g := gb259) (o := .cells #[.slice A1_0 l1_0.length c1_0, .slice A1_1 l1_1.length c1_1] 32 (0, 0)) (by (with_reducible repeat (first | refine blk_drewN ?_ _ | refine blk_drew ?_ | refine blk_alloc ?_ _)); exact BK259.out) hb); have n4_ := Aside0.mk (below_step (by repeat (first | (with_reducible first | exact HB.out | apply below_alloc | apply pw_below_drewN | apply below_drew1 | refine below_set ?_ GE258.out | refine below_set ?_ GE259.out) | exact HB.out)) hb); have n5_ := Aside0.mk (hbox); have n6_ := Aside0.mk ((by rw [hg]; exact (below_size (by repeat (first | (with_reducible first | exact HB.out | apply below_alloc | apply pw_below_drewN | apply below_drew1 | refine below_set ?_ GE258.out | refine below_set ?_ GE259.out) | exact HB.out))) : w.heap.size ≤ gb266)); have n7_ := Aside0.mk ((by rw [hg]; exact (below_size (by repeat (first | (with_reducible first | exact HB.out | apply below_alloc | apply pw_below_drewN | apply below_drew1 | refine below_set ?_ GE258.out | refine below_set ?_ GE259.out) | exact HB.out))) : w.heap.size ≤ gb266)); have n8_ := Aside0.mk ((by rw [hg]; exact Nat.ne_of_lt (blk_lt (g := gb258) (o := .cells #[.slice A0_0 l0_0.length c0_0, .int .i64 a0_1] 94 (0, 0)) (by (with_reducible repeat (first | refine blk_drewN ?_ _ | refine blk_drew ?_ | refine blk_alloc ?_ _)); exact BK258.out)) : gb258 ≠ gb266)); have n9_ := Aside0.mk ((by rw [hg]; exact Nat.ne_of_gt (blk_lt (g := gb258) (o := .cells #[.slice A0_0 l0_0.length c0_0, .int .i64 a0_1] 94 (0, 0)) (by (with_reducible repeat (first | refine blk_drewN ?_ _ | refine blk_drew ?_ | refine blk_alloc ?_ _)); exact BK258.out)) : gb266 ≠ gb258)); have n10_ := Aside0.mk ((by rw [hg]; exact Nat.ne_of_lt (blk_lt (g := gb259) (o := .cells #[.slice A1_0 l1_0.length c1_0, .slice A1_1 l1_1.length c1_1] 32 (0, 0)) (by (with_reducible repeat (first | refine blk_drewN ?_ _ | refine blk_drew ?_ | refine blk_alloc ?_ _)); exact BK259.out)) : gb259 ≠ gb266)); have n11_ := Aside0.mk ((by rw [hg]; exact Nat.ne_of_gt (blk_lt (g := gb259) (o := .cells #[.slice A1_0 l1_0.length c1_0, .slice A1_1 l1_1.length c1_1] 32 (0, 0)) (by (with_reducible repeat (first | refine blk_drewN ?_ _ | refine blk_drew ?_ | refine blk_alloc ?_ _)); exact BK259.out)) : gb266 ≠ gb259)); clear HO262; clear HO265; clear BK258; clear BK259; clear HB; have HO262 := n0_; have HO265 := n1_; have BK258 := n2_; have BK259 := n3_; have HB := n4_; have BK266 := n5_; have GW266 := n6_; have GE266 := n7_; have NB258_266 := n8_; have NB266_258 := n9_; have NB259_266 := n10_; have NB266_259 := n11_; clear n0_ n1_ n2_ n3_ n4_ n5_ n6_ n7_ n8_ n9_ n10_ n11_; clear hb hbox hg; obtain ⟨Ao10, co10, eo10⟩ := Kd.R_slice HO262.out; subst eo10; have hnb11 := NB266_258.out; have hnc11 := NB258_266.out; have hnb12 := NB266_259.out; have hnc12 := NB259_266.out; have hcz13_0 : w9.cell? ⟨gb266, 0, none⟩ = some (.slice none 0 0) := (blk_cell BK266.out 0).trans rfl; have hcz13_1 : w9.cell? ⟨gb266, 1, none⟩ = some (.slice none 0 0) := (blk_cell BK266.out 1).trans rfl; have hfz13_0 := blk_frozen BK266.out 0; have hfz13_1 := blk_frozen BK266.out 1; obtain ⟨Ao14, co14, eo14⟩ := Kd.R_slice HO265.out; subst eo14)); try go_wp2_with (first | ((with_reducible refine gate_dst (N := 2) rfl ?_); refine box_event ?hg (N := 2) ?hd (cs := #[.slice A0_0 l0_0.length c0_0, .int .i64 a0_1]) (t := 94) ?hr ?_; (case hd => rfl); (case hg => rfl); (case hr => first | (go_simp; done) | (go_simp; rfl)); intro gb258 hg w4 hbox hb; have n0_ := Aside0.mk (below_step (by repeat (first | (with_reducible first | exact HB.out | apply below_alloc | apply pw_below_drewN | apply below_drew1) | exact HB.out)) hb); have n1_ := Aside0.mk (hbox); have n2_ := Aside0.mk ((by rw [hg]; exact (below_size (by repeat (first | (with_reducible first | exact HB.out | apply below_alloc | apply pw_below_drewN | apply below_drew1) | exact HB.out))) : w.heap.size ≤ gb258)); have n3_ := Aside0.mk ((by rw [hg]; exact (below_size (by repeat (first | (with_reducible first | exact HB.out | apply below_alloc | apply pw_below_drewN | apply below_drew1) | exact HB.out))) : w.heap.size ≤ gb258)); clear HB; have HB := n0_; have BK258 := n1_; have GW258 := n2_; have GE258 := n3_; clear n0_ n1_ n2_ n3_; clear hb hbox hg) | ((with_reducible refine gate_dst (N := 3) rfl ?_); refine box_event ?hg (N := 3) ?hd (cs := #[.slice A1_0 l1_0.length c1_0, .slice A1_1 l1_1.length c1_1]) (t := 32) ?hr ?_; (case hd => rfl); (case hg => rfl); (case hr => first | (go_simp; done) | (go_simp; rfl)); intro gb259 hg w5 hbox hb; have n0_ := Aside0.mk (blk_below (g := gb258) (o := .cells #[.slice A0_0 l0_0.length c0_0, .int .i64 a0_1] 94 (0, 0)) (by (with_reducible repeat (first | refine blk_drewN ?_ _ | refine blk_drew ?_ | refine blk_alloc ?_ _)); exact BK258.out) hb); have n1_ := Aside0.mk (below_step (by repeat (first | (with_reducible first | exact HB.out | apply below_alloc | apply pw_below_drewN | apply below_drew1 | refine below_set ?_ GE258.out) | exact HB.out)) hb); have n2_ := Aside0.mk (hbox); have n3_ := Aside0.mk ((by rw [hg]; exact (below_size (by repeat (first | (with_reducible first | exact HB.out | apply below_alloc | apply pw_below_drewN | apply below_drew1 | refine below_set ?_ GE258.out) | exact HB.out))) : w.heap.size ≤ gb259)); have n4_ := Aside0.mk ((by rw [hg]; exact (below_size (by repeat (first | (with_reducible first | exact HB.out | apply below_alloc | apply pw_below_drewN | apply below_drew1 | refine below_set ?_ GE258.out) | exact HB.out))) : w.heap.size ≤ gb259)); have n5_ := Aside0.mk ((by rw [hg]; exact Nat.ne_of_lt (blk_lt (g := gb258) (o := .cells #[.slice A0_0 l0_0.length c0_0, .int .i64 a0_1] 94 (0, 0)) (by (with_reducible repeat (first | refine blk_drewN ?_ _ | refine blk_drew ?_ | refine blk_alloc ?_ _)); exact BK258.out)) : gb258 ≠ gb259)); have n6_ := Aside0.mk ((by rw [hg]; exact Nat.ne_of_gt (blk_lt (g := gb258) (o := .cells #[.slice A0_0 l0_0.length c0_0, .int .i64 a0_1] 94 (0, 0)) (by (with_reducible repeat (first | refine blk_drewN ?_ _ | refine blk_drew ?_ | refine blk_alloc ?_ _)); exact BK258.out)) : gb259 ≠ gb258)); clear BK258; clear HB; have BK258 := n0_; have HB := n1_; have BK259 := n2_; have GW259 := n3_; have GE259 := n4_; have NB258_259 := n5_; have NB259_258 := n6_; clear n0_ n1_ n2_ n3_ n4_ n5_ n6_; clear hb hbox hg; have hnb6 := NB258_259.out; have hnc6 := NB259_258.out; have hcz7_0 : w5.cell? ⟨gb258, 0, none⟩ = some (.slice A0_0 l0_0.length c0_0) := (blk_cell BK258.out 0).trans rfl; have hcz7_1 : w5.cell? ⟨gb258, 1, none⟩ = some (.int .i64 a0_1) := (blk_cell BK258.out 1).trans rfl; have hfz7_0 := blk_frozen BK258.out 0; have hfz7_1 := blk_frozen BK258.out 1) | (go_at_call 31; (with_reducible refine (pantileref03_Cell.calls k _ _ l0_0 a0_1 t260 t263 _ ?side1 ?side2 A3.out).mono ?_); (case side1 => repeat (first | exact (Kd.C_below HR0_0.out HB.out) | (with_reducible refine Kd.C_alloc ?_ _) | (with_reducible refine Kd.C_drewN ?_ _) | (with_reducible refine Kd.C_drew ?_))); (case side2 => exact HC0_0.out); rintro e w8 ⟨v261, v264, rfl, ho0, ho1, hb⟩; have n0_ := Aside0.mk (Kd.R_lower ho0 (below_size (by repeat (first | (with_reducible first | exact HB.out | apply below_alloc | apply pw_below_drewN | apply below_drew1 | refine below_set ?_ GE258.out | refine below_set ?_ GE259.out) | exact HB.out)))); have n1_ := Aside0.mk (Kd.R_lower ho1 (below_size (by repeat (first | (with_reducible first | exact HB.out | apply below_alloc | apply pw_below_drewN | apply below_drew1 | refine below_set ?_ GE258.out | refine below_set ?_ GE259.out) | exact HB.out)))); have n2_ := Aside0.mk (blk_below (g := gb258) (o := .cells #[.slice A0_0 l0_0.length c0_0, .int .i64 a0_1] 94 (0, 0)) (by (with_reducible repeat (first | refine blk_drewN ?_ _ | refine blk_drew ?_ | refine blk_alloc ?_ _)); exact BK258.out) hb); have n3_ := Aside0.mk (blk_below (g := gb259) (o := .cells #[.slice A1_0 l1_0.length c1_0, .slice A1_1 l1_1.length c1_1] 32 (0, 0)) (by (with_reducible repeat (first | refine blk_drewN ?_ _ | refine blk_drew ?_ | refine blk_alloc ?_ _)); exact BK259.out) hb); have n4_ := Aside0.mk (below_step (by repeat (first | (with_reducible first | exact HB.out | apply below_alloc | apply pw_below_drewN | apply below_drew1 | refine below_set ?_ GE258.out | refine below_set ?_ GE259.out) | exact HB.out)) hb); clear BK258; clear BK259; clear HB; have HO262 := n0_; have HO265 := n1_; have BK258 := n2_; have BK259 := n3_; have HB := n4_; clear n0_ n1_ n2_ n3_ n4_; (try clear hb); (try clear hb2); (try clear hk); (try clear hi); (try clear ho0); (try clear ho1)) | ((with_reducible refine gate_dst (N := 5) rfl ?_); refine box_event ?hg (N := 5) ?hd (cs := #[.slice none 0 0, .slice none 0 0]) (t := 32) ?hr ?_; (case hd => rfl); (case hg => rfl); (case hr => first | (go_simp; done) | (go_simp; rfl)); intro gb266 hg w9 hbox hb; have n0_ := Aside0.mk (Kd.R_below (by (with_reducible repeat (first | apply Kd.R_alloc | apply Kd.R_drewN | apply Kd.R_drew)); exact HO262.out) hb); have n1_ := Aside0.mk (Kd.R_below (by (with_reducible repeat (first | apply Kd.R_alloc | apply Kd.R_drewN | apply Kd.R_drew)); exact HO265.out) hb); have n2_ := Aside0.mk (blk_below (g := gb258) (o := .cells #[.slice A0_0 l0_0.length c0_0, .int .i64 a0_1] 94 (0, 0)) (by (with_reducible repeat (first | refine blk_drewN ?_ _ | refine blk_drew ?_ | refine blk_alloc ?_ _)); exact BK258.out) hb); have n3_ := Aside0.mk (blk_below (g := gb259) (o := .cells #[.slice A1_0 l1_0.length c1_0, .slice A1_1 l1_1.length c1_1] 32 (0, 0)) (by (with_reducible repeat (first | refine blk_drewN ?_ _ | refine blk_drew ?_ | refine blk_alloc ?_ _)); exact BK259.out) hb); have n4_ := Aside0.mk (below_step (by repeat (first | (with_reducible first | exact HB.out | apply below_alloc | apply pw_below_drewN | apply below_drew1 | refine below_set ?_ GE258.out | refine below_set ?_ GE259.out) | exact HB.out)) hb); have n5_ := Aside0.mk (hbox); have n6_ := Aside0.mk ((by rw [hg]; exact (below_size (by repeat (first | (with_reducible first | exact HB.out | apply below_alloc | apply pw_below_drewN | apply below_drew1 | refine below_set ?_ GE258.out | refine below_set ?_ GE259.out) | exact HB.out))) : w.heap.size ≤ gb266)); have n7_ := Aside0.mk ((by rw [hg]; exact (below_size (by repeat (first | (with_reducible first | exact HB.out | apply below_alloc | apply pw_below_drewN | apply below_drew1 | refine below_set ?_ GE258.out | refine below_set ?_ GE259.out) | exact HB.out))) : w.heap.size ≤ gb266)); have n8_ := Aside0.mk ((by rw [hg]; exact Nat.ne_of_lt (blk_lt (g := gb258) (o := .cells #[.slice A0_0 l0_0.length c0_0, .int .i64 a0_1] 94 (0, 0)) (by (with_reducible repeat (first | refine blk_drewN ?_ _ | refine blk_drew ?_ | refine blk_alloc ?_ _)); exact BK258.out)) : gb258 ≠ gb266)); have n9_ := Aside0.mk ((by rw [hg]; exact Nat.ne_of_gt (blk_lt (g := gb258) (o := .cells #[.slice A0_0 l0_0.length c0_0, .int .i64 a0_1] 94 (0, 0)) (by (with_reducible repeat (first | refine blk_drewN ?_ _ | refine blk_drew ?_ | refine blk_alloc ?_ _)); exact BK258.out)) : gb266 ≠ gb258)); have n10_ := Aside0.mk ((by rw [hg]; exact Nat.ne_of_lt (blk_lt (g := gb259) (o := .cells #[.slice A1_0 l1_0.length c1_0, .slice A1_1 l1_1.length c1_1] 32 (0, 0)) (by (with_reducible repeat (first | refine blk_drewN ?_ _ | refine blk_drew ?_ | refine blk_alloc ?_ _)); exact BK259.out)) : gb259 ≠ gb266)); have n11_ := Aside0.mk ((by rw [hg]; exact Nat.ne_of_gt (blk_lt (g := gb259) (o := .cells #[.slice A1_0 l1_0.length c1_0, .slice A1_1 l1_1.length c1_1] 32 (0, 0)) (by (with_reducible repeat (first | refine blk_drewN ?_ _ | refine blk_drew ?_ | refine blk_alloc ?_ _)); exact BK259.out)) : gb266 ≠ gb259)); clear HO262; clear HO265; clear BK258; clear BK259; clear HB; have HO262 := n0_; have HO265 := n1_; have BK258 := n2_; have BK259 := n3_; have HB := n4_; have BK266 := n5_; have GW266 := n6_; have GE266 := n7_; have NB258_266 := n8_; have NB266_258 := n9_; have NB259_266 := n10_; have NB266_259 := n11_; clear n0_ n1_ n2_ n3_ n4_ n5_ n6_ n7_ n8_ n9_ n10_ n11_; clear hb hbox hg; obtain ⟨Ao10, co10, eo10⟩ := Kd.R_slice HO262.out; subst eo10; have hnb11 := NB266_258.out; have hnc11 := NB258_266.out; have hnb12 := NB266_259.out; have hnc12 := NB259_266.out; have hcz13_0 : w9.cell? ⟨gb266, 0, none⟩ = some (.slice none 0 0) := (blk_cell BK266.out 0).trans rfl; have hcz13_1 : w9.cell? ⟨gb266, 1, none⟩ = some (.slice none 0 0) := (blk_cell BK266.out 1).trans rfl; have hfz13_0 := blk_frozen BK266.out 0; have hfz13_1 := blk_frozen BK266.out 1; obtain ⟨Ao14, co14, eo14⟩ := Kd.R_slice HO265.out; subst eo14)))
 go_loopg [6] k (fun kq v6 w' => ∃ (x6_1 : Int), v6 = .int .i64 x6_1 ∧ Aside0 (pantileref33_meets.l0 kq x6_1 l0_0 a0_1 l1_0 l1_1 t260 t263 = some r) ∧ Aside0 (kq ≤ k) ∧ Aside0 (Kd.R (Kd.int .u64) 30 w' w.heap.size (fun k_ => some k_ ≠ ((.slice Ao14 t263.length co14) : Value).ownBlock) (.slice Ao10 t260.length co10) t260) ∧ Aside0 (Kd.R (Kd.int .u64) 30 w' w.heap.size (fun k_ => some k_ ≠ ((.slice Ao10 t260.length co10) : Value).ownBlock) (.slice Ao14 t263.length co14) t263) ∧ Aside0 (w'.heap[gb258]? = some (.cells #[(.slice A0_0 l0_0.length c0_0), .int .i64 a0_1] 94 (0, 0))) ∧ Aside0 (w'.heap[gb259]? = some (.cells #[(.slice A1_0 l1_0.length c1_0), (.slice A1_1 l1_1.length c1_1)] 32 (0, 0))) ∧ Aside0 (w'.heap[gb266]? = some (.cells #[(.slice Ao10 t260.length co10), (.slice Ao14 t263.length co14)] 32 (0, 0))) ∧ Aside0 (Below w.heap.size w w'))
 case atStart => exact ⟨(0), (by first | rfl | (simp; done) | (simp [*]; done)), H', ⟨Nat.le_refl _⟩, ⟨by (with_reducible repeat (first | apply Kd.R_alloc | apply Kd.R_drewN | apply Kd.R_drew)); exact Kd.R_mono (Kd.R_far (p := ⟨gb266, 1, none⟩) (Kd.R_far (p := ⟨gb266, 0, none⟩) (Kd.R_types HO262.out BK266.out (by decide)) (fun _ hk => hk.2) (.slice Ao10 t260.length co10)) (fun _ hk => hk.2) (.slice Ao14 t263.length co14)) (fun _ hk => hk.1)⟩, ⟨by (with_reducible repeat (first | apply Kd.R_alloc | apply Kd.R_drewN | apply Kd.R_drew)); exact Kd.R_mono (Kd.R_far (p := ⟨gb266, 1, none⟩) (Kd.R_far (p := ⟨gb266, 0, none⟩) (Kd.R_types HO265.out BK266.out (by decide)) (fun _ hk => hk.2) (.slice Ao10 t260.length co10)) (fun _ hk => hk.2) (.slice Ao14 t263.length co14)) (fun _ hk => hk.1)⟩, ⟨by (with_reducible repeat (first | refine blk_drewN ?_ _ | refine blk_drew ?_ | refine blk_alloc ?_ _)); refine blk_far ?_ NB258_266.out _; (with_reducible repeat (first | refine blk_drewN ?_ _ | refine blk_drew ?_ | refine blk_alloc ?_ _)); refine blk_far ?_ NB258_266.out _; (with_reducible repeat (first | refine blk_drewN ?_ _ | refine blk_drew ?_ | refine blk_alloc ?_ _)); exact BK258.out⟩, ⟨by (with_reducible repeat (first | refine blk_drewN ?_ _ | refine blk_drew ?_ | refine blk_alloc ?_ _)); refine blk_far ?_ NB259_266.out _; (with_reducible repeat (first | refine blk_drewN ?_ _ | refine blk_drew ?_ | refine blk_alloc ?_ _)); refine blk_far ?_ NB259_266.out _; (with_reducible repeat (first | refine blk_drewN ?_ _ | refine blk_drew ?_ | refine blk_alloc ?_ _)); exact BK259.out⟩, ⟨by (with_reducible repeat (first | refine blk_drewN ?_ _ | refine blk_drew ?_ | refine blk_alloc ?_ _)); refine blk_put (cs := #[.slice Ao10 t260.length co10, .slice none 0 0]) ?_ 1 _ rfl; (with_reducible repeat (first | refine blk_drewN ?_ _ | refine blk_drew ?_ | refine blk_alloc ?_ _)); refine blk_put (cs := #[.slice none 0 0, .slice none 0 0]) ?_ 0 _ rfl; (with_reducible repeat (first | refine blk_drewN ?_ _ | refine blk_drew ?_ | refine blk_alloc ?_ _)); exact BK266.out⟩, ⟨by repeat (first | (with_reducible first | exact HB.out | apply below_alloc | apply pw_below_drewN | apply below_drew1 | refine below_set ?_ GE258.out | refine below_set ?_ GE259.out | refine below_set ?_ GE266.out) | exact HB.out)⟩⟩
 case round =>
  clear H'
  try clear c1; try clear p2; try clear c6; try clear c9; try clear c11; try clear c12; try clear hcz13_0; try clear hcz13_1; try clear hcz7_0; try clear hcz7_1; try clear hfz13_0; try clear hfz13_1; try clear hfz7_0; try clear hfz7_1
  obtain ⟨x6_1, rfl, HA, HK1, HO_267000, HO_267001, BK258, BK259, BK266, HB⟩ := hrel
  cases gk with
  | zero => exact absurd HA.out (by simp [pantileref33_meets.l0])
  | succ k1 =>
   have H := HA.out
   clear HA
   simp only [pantileref33_meets.l0] at H
   by_cases c15 : x6_1 < (l0_0.length : Int)
   ·rw [if_pos c15] at H
    have c15b0 : decide (x6_1 < (l0_0.length : Int)) = true := decide_eq_true c15
    clear c15
    by_cases c16 : 0 ≤ x6_1
    ·rw [if_pos c16] at H
     have c16b0 : decide (0 ≤ x6_1) = true := decide_eq_true c16
     clear c16
     by_cases c17 : x6_1 < (t260.length : Int)
     ·rw [if_pos c17] at H
      have c17b0 : decide (x6_1 < (t260.length : Int)) = true := decide_eq_true c17
      clear c17
      by_cases c18 : x6_1 < (l1_1.length : Int)
      ·rw [if_pos c18] at H
       have c18b0 : decide (x6_1 < (l1_1.length : Int)) = true := decide_eq_true c18
       clear c18
       by_cases c19 : (rd t260 x6_1) > (rd l1_1 x6_1)
       ·rw [if_pos c19] at H
        have c19b0 : decide ((rd l1_1 x6_1) < (rd t260 x6_1)) = true := decide_eq_true c19
        clear c19
        obtain rfl := Option.some.inj H
        have hnb20 := NB258_259.out
        have hnc20 := NB259_258.out
        have hnb21 := NB258_266.out
        have hnc21 := NB266_258.out
        have hcz22_0 : wr.cell? ⟨gb258, 0, none⟩ = some (.slice A0_0 l0_0.length c0_0) := (blk_cell BK258.out 0).trans rfl
        have hcz22_1 : wr.cell? ⟨gb258, 1, none⟩ = some (.int .i64 a0_1) := (blk_cell BK258.out 1).trans rfl
        have hfz22_0 := blk_frozen BK258.out 0
        have hfz22_1 := blk_frozen BK258.out 1
        have hnb23 := NB266_259.out
        have hnc23 := NB259_266.out
        have hcz24_0 : wr.cell? ⟨gb266, 0, none⟩ = some (.slice Ao10 t260.length co10) := (blk_cell BK266.out 0).trans rfl
        have hcz24_1 : wr.cell? ⟨gb266, 1, none⟩ = some (.slice Ao14 t263.length co14) := (blk_cell BK266.out 1).trans rfl
        have hfz24_0 := blk_frozen BK266.out 0
        have hfz24_1 := blk_frozen BK266.out 1
        have p267 : 0 ≤ (x6_1 : Int) := of_decide_eq_true (by first | (with_reducible assumption) | assumption)
        have q267 : x6_1 < (t260.length : Int) := of_decide_eq_true (by first | (with_reducible assumption) | assumption)
        obtain ⟨ad267, e267, hx267_0⟩ := Kd.at_int (Kd.R_reads' HO_267000.out).2.2 x6_1 p267 q267
        cases e267
        replace p267 := eq_true p267
        replace q267 := eq_true q267
        have hcz25_0 : wr.cell? ⟨gb259, 0, none⟩ = some (.slice A1_0 l1_0.length c1_0) := (blk_cell BK259.out 0).trans rfl
        have hcz25_1 : wr.cell? ⟨gb259, 1, none⟩ = some (.slice A1_1 l1_1.length c1_1) := (blk_cell BK259.out 1).trans rfl
        have hfz25_0 := blk_frozen BK259.out 0
        have hfz25_1 := blk_frozen BK259.out 1
        have p268 : 0 ≤ (x6_1 : Int) := of_decide_eq_true (by first | (with_reducible assumption) | assumption)
        have q268 : x6_1 < (l1_1.length : Int) := of_decide_eq_true (by first | (with_reducible assumption) | assumption)
        obtain ⟨ad268, e268, hx268_0⟩ := Kd.at_int HR1_1.out x6_1 p268 q268
        cases e268
        replace hx268_0 := (HB.out.cell (World.block_lt_of_cell? w _ hx268_0)).trans hx268_0
        replace p268 := eq_true p268
        replace q268 := eq_true q268
        go_wp2
        repeat (go_quiet (fail); try go_wp2)
        go_ret
        exact ⟨by first | rfl | (simp [errW_none, errW_some] <;> rfl) | (simp [*, errW_none, errW_some] <;> rfl), by repeat (first | (with_reducible first | exact HB.out | apply below_alloc | apply pw_below_drewN | apply below_drew1 | refine below_set ?_ GE258.out | refine below_set ?_ GE259.out | refine below_set ?_ GE266.out) | exact HB.out)⟩
       ·rw [if_neg c19] at H
        have c19b0 : decide ((rd l1_1 x6_1) < (rd t260 x6_1)) = false := decide_eq_false c19
        clear c19
        by_cases c26 : x6_1 < (t263.length : Int)
        ·rw [if_pos c26] at H
         have c26b0 : decide (x6_1 < (t263.length : Int)) = true := decide_eq_true c26
         clear c26
         by_cases c27 : x6_1 < (l1_0.length : Int)
         ·rw [if_pos c27] at H
          have c27b0 : decide (x6_1 < (l1_0.length : Int)) = true := decide_eq_true c27
          clear c27
          by_cases c28 : (rd t263 x6_1) < (rd l1_0 x6_1)
          ·rw [if_pos c28] at H
           have c28b0 : decide ((rd t263 x6_1) < (rd l1_0 x6_1)) = true := decide_eq_true c28
           clear c28
           obtain rfl := Option.some.inj H
           have hnb29 := NB258_259.out
           have hnc29 := NB259_258.out
           have hnb30 := NB258_266.out
           have hnc30 := NB266_258.out
           have hcz31_0 : wr.cell? ⟨gb258, 0, none⟩ = some (.slice A0_0 l0_0.length c0_0) := (blk_cell BK258.out 0).trans rfl
           have hcz31_1 : wr.cell? ⟨gb258, 1, none⟩ = some (.int .i64 a0_1) := (blk_cell BK258.out 1).trans rfl
           have hfz31_0 := blk_frozen BK258.out 0
           have hfz31_1 := blk_frozen BK258.out 1
           have hnb32 := NB266_259.out
           have hnc32 := NB259_266.out
           have hcz33_0 : wr.cell? ⟨gb266, 0, none⟩ = some (.slice Ao10 t260.length co10) := (blk_cell BK266.out 0).trans rfl
           have hcz33_1 : wr.cell? ⟨gb266, 1, none⟩ = some (.slice Ao14 t263.length co14) := (blk_cell BK266.out 1).trans rfl
           have hfz33_0 := blk_frozen BK266.out 0
           have hfz33_1 := blk_frozen BK266.out 1
           have p267 : 0 ≤ (x6_1 : Int) := of_decide_eq_true (by first | (with_reducible assumption) | assumption)
           have q267 : x6_1 < (t260.length : Int) := of_decide_eq_true (by first | (with_reducible assumption) | assumption)
           obtain ⟨ad267, e267, hx267_0⟩ := Kd.at_int (Kd.R_reads' HO_267000.out).2.2 x6_1 p267 q267
           cases e267
           replace p267 := eq_true p267
           replace q267 := eq_true q267
           have hcz34_0 : wr.cell? ⟨gb259, 0, none⟩ = some (.slice A1_0 l1_0.length c1_0) := (blk_cell BK259.out 0).trans rfl
           have hcz34_1 : wr.cell? ⟨gb259, 1, none⟩ = some (.slice A1_1 l1_1.length c1_1) := (blk_cell BK259.out 1).trans rfl
           have hfz34_0 := blk_frozen BK259.out 0
           have hfz34_1 := blk_frozen BK259.out 1
           have p268 : 0 ≤ (x6_1 : Int) := of_decide_eq_true (by first | (with_reducible assumption) | assumption)
           have q268 : x6_1 < (l1_1.length : Int) := of_decide_eq_true (by first | (with_reducible assumption) | assumption)
           obtain ⟨ad268, e268, hx268_0⟩ := Kd.at_int HR1_1.out x6_1 p268 q268
           cases e268
           replace hx268_0 := (HB.out.cell (World.block_lt_of_cell? w _ hx268_0)).trans hx268_0
           replace p268 := eq_true p268
           replace q268 := eq_true q268
           have p269 : 0 ≤ (x6_1 : Int) := of_decide_eq_true (by first | (with_reducible assumption) | assumption)
           have q269 : x6_1 < (t263.length : Int) := of_decide_eq_true (by first | (with_reducible assumption) | assumption)
           obtain ⟨ad269, e269, hx269_0⟩ := Kd.at_int (Kd.R_reads' HO_267001.out).2.2 x6_1 p269 q269
           cases e269
           replace p269 := eq_true p269
           replace q269 := eq_true q269
           have p270 : 0 ≤ (x6_1 : Int) := of_decide_eq_true (by first | (with_reducible assumption) | assumption)
           have q270 : x6_1 < (l1_0.length : Int) := of_decide_eq_true (by first | (with_reducible assumption) | assumption)
           obtain ⟨ad270, e270, hx270_0⟩ := Kd.at_int HR1_0.out x6_1 p270 q270
           cases e270
           replace hx270_0 := (HB.out.cell (World.block_lt_of_cell? w _ hx270_0)).trans hx270_0
           replace p270 := eq_true p270
           replace q270 := eq_true q270
           go_wp2
           repeat (go_quiet (fail); try go_wp2)
           go_ret
           exact ⟨by first | rfl | (simp [errW_none, errW_some] <;> rfl) | (simp [*, errW_none, errW_some] <;> rfl), by repeat (first | (with_reducible first | exact HB.out | apply below_alloc | apply pw_below_drewN | apply below_drew1 | refine below_set ?_ GE258.out | refine below_set ?_ GE259.out | refine below_set ?_ GE266.out) | exact HB.out)⟩
          ·rw [if_neg c28] at H
           have c28b0 : decide ((rd t263 x6_1) < (rd l1_0 x6_1)) = false := decide_eq_false c28
           clear c28
           have H' := Aside0.mk H
           clear H
           have hnb35 := NB258_259.out
           have hnc35 := NB259_258.out
           have hnb36 := NB258_266.out
           have hnc36 := NB266_258.out
           have hcz37_0 : wr.cell? ⟨gb258, 0, none⟩ = some (.slice A0_0 l0_0.length c0_0) := (blk_cell BK258.out 0).trans rfl
           have hcz37_1 : wr.cell? ⟨gb258, 1, none⟩ = some (.int .i64 a0_1) := (blk_cell BK258.out 1).trans rfl
           have hfz37_0 := blk_frozen BK258.out 0
           have hfz37_1 := blk_frozen BK258.out 1
           have hnb38 := NB266_259.out
           have hnc38 := NB259_266.out
           have hcz39_0 : wr.cell? ⟨gb266, 0, none⟩ = some (.slice Ao10 t260.length co10) := (blk_cell BK266.out 0).trans rfl
           have hcz39_1 : wr.cell? ⟨gb266, 1, none⟩ = some (.slice Ao14 t263.length co14) := (blk_cell BK266.out 1).trans rfl
           have hfz39_0 := blk_frozen BK266.out 0
           have hfz39_1 := blk_frozen BK266.out 1
           have p267 : 0 ≤ (x6_1 : Int) := of_decide_eq_true (by first | (with_reducible assumption) | assumption)
           have q267 : x6_1 < (t260.length : Int) := of_decide_eq_true (by first | (with_reducible assumption) | assumption)
           obtain ⟨ad267, e267, hx267_0⟩ := Kd.at_int (Kd.R_reads' HO_267000.out).2.2 x6_1 p267 q267
           cases e267
           replace p267 := eq_true p267
           replace q267 := eq_true q267
           have hcz40_0 : wr.cell? ⟨gb259, 0, none⟩ = some (.slice A1_0 l1_0.length c1_0) := (blk_cell BK259.out 0).trans rfl
           have hcz40_1 : wr.cell? ⟨gb259, 1, none⟩ = some (.slice A1_1 l1_1.length c1_1) := (blk_cell BK259.out 1).trans rfl
           have hfz40_0 := blk_frozen BK259.out 0
           have hfz40_1 := blk_frozen BK259.out 1
           have p268 : 0 ≤ (x6_1 : Int) := of_decide_eq_true (by first | (with_reducible assumption) | assumption)
           have q268 : x6_1 < (l1_1.length : Int) := of_decide_eq_true (by first | (with_reducible assumption) | assumption)
           obtain ⟨ad268, e268, hx268_0⟩ := Kd.at_int HR1_1.out x6_1 p268 q268
           cases e268
           replace hx268_0 := (HB.out.cell (World.block_lt_of_cell? w _ hx268_0)).trans hx268_0
           replace p268 := eq_true p268
           replace q268 := eq_true q268
           have p269 : 0 ≤ (x6_1 : Int) := of_decide_eq_true (by first | (with_reducible assumption) | assumption)
           have q269 : x6_1 < (t263.length : Int) := of_decide_eq_true (by first | (with_reducible assumption) | assumption)
           obtain ⟨ad269, e269, hx269_0⟩ := Kd.at_int (Kd.R_reads' HO_267001.out).2.2 x6_1 p269 q269
           cases e269
           replace p269 := eq_true p269
           replace q269 := eq_true q269
           have p270 : 0 ≤ (x6_1 : Int) := of_decide_eq_true (by first | (with_reducible assumption) | assumption)
           have q270 : x6_1 < (l1_0.length : Int) := of_decide_eq_true (by first | (with_reducible assumption) | assumption)
           obtain ⟨ad270, e270, hx270_0⟩ := Kd.at_int HR1_0.out x6_1 p270 q270
           cases e270
           replace hx270_0 := (HB.out.cell (World.block_lt_of_cell? w _ hx270_0)).trans hx270_0
           replace p270 := eq_true p270
           replace q270 := eq_true q270
           go_wp2
           repeat (go_quiet (fail); try go_wp2)
           go_roundg k1
           case measure => have := HK1.out; omega
           case rel => exact ⟨(wrap64 (x6_1 + 1)), (by first | rfl | (simp; done) | (simp [*]; done)), H', ⟨by have := HK1.out; omega⟩, ⟨by (with_reducible repeat (first | apply Kd.R_alloc | apply Kd.R_drewN | apply Kd.R_drew)); exact HO_267000.out⟩, ⟨by (with_reducible repeat (first | apply Kd.R_alloc | apply Kd.R_drewN | apply Kd.R_drew)); exact HO_267001.out⟩, ⟨by (with_reducible repeat (first | refine blk_drewN ?_ _ | refine blk_drew ?_ | refine blk_alloc ?_ _)); exact BK258.out⟩, ⟨by (with_reducible repeat (first | refine blk_drewN ?_ _ | refine blk_drew ?_ | refine blk_alloc ?_ _)); exact BK259.out⟩, ⟨by (with_reducible repeat (first | refine blk_drewN ?_ _ | refine blk_drew ?_ | refine blk_alloc ?_ _)); exact BK266.out⟩, ⟨by repeat (first | (with_reducible first | exact HB.out | apply below_alloc | apply pw_below_drewN | apply below_drew1 | refine below_set ?_ GE258.out | refine below_set ?_ GE259.out | refine below_set ?_ GE266.out) | exact HB.out)⟩⟩
         ·rw [if_neg c27] at H
          exact absurd H (by simp)
        ·rw [if_neg c26] at H
         exact absurd H (by simp)
      ·rw [if_neg c18] at H
       exact absurd H (by simp)
     ·rw [if_neg c17] at H
      exact absurd H (by simp)
    ·rw [if_neg c16] at H
     exact absurd H (by simp)
   ·rw [if_neg c15] at H
    have c15b0 : decide (x6_1 < (l0_0.length : Int)) = false := decide_eq_false c15
    clear c15
    obtain rfl := Option.some.inj H
    have hnb41 := NB258_259.out
    have hnc41 := NB259_258.out
    have hnb42 := NB258_266.out
    have hnc42 := NB266_258.out
    have hcz43_0 : wr.cell? ⟨gb258, 0, none⟩ = some (.slice A0_0 l0_0.length c0_0) := (blk_cell BK258.out 0).trans rfl
    have hcz43_1 : wr.cell? ⟨gb258, 1, none⟩ = some (.int .i64 a0_1) := (blk_cell BK258.out 1).trans rfl
    have hfz43_0 := blk_frozen BK258.out 0
    have hfz43_1 := blk_frozen BK258.out 1
    go_wp2
    repeat (go_quiet (fail); try go_wp2)
    go_ret
    exact ⟨by first | rfl | (simp [errW_none, errW_some] <;> rfl) | (simp [*, errW_none, errW_some] <;> rfl), by repeat (first | (with_reducible first | exact HB.out | apply below_alloc | apply pw_below_drewN | apply below_drew1 | refine below_set ?_ GE258.out | refine below_set ?_ GE259.out | refine below_set ?_ GE266.out) | exact HB.out)⟩

end Go.Proofs.Ythdphjbecibeaaa.PCoverCells
