-- Written by wip/tools/print2.py, a program of this session, over the kit's print of the program. Lean checks it.
import Derived.Test.YthdphjbecibeaaaPBoxNestx0
import Derived.Test.YthdphjbecibeaaaPBoxNestx1
import Derived.Test.YthdphjbecibeaaaPBoxNestx2
namespace Go.Proofs.Ythdphjbecibeaaa.PBoxNest
open Go.RowKit Go.Proofs.YthdphjbecibeaaaW.PrintWords Go.Proofs.YthdphjbecibeaaaW.PrintLast Go.Proofs.YthdphjbecibeaaaW.PrintMore
attribute [local go_sem] max2_int min2_int max_two min_two max_three min_three max_four min_four   -- for this text's walks alone
set_option linter.unusedVariables false
set_option linter.unusedSimpArgs false

/-! ### pantilelaw03_BoxNest: function 9 -/
mutual
def pantilelaw03_BoxNest.j0 : Nat → List Int → Int → Int → Bool → Option (Bool)
  | 0, _, _, _, _ => none
  | k + 1, x0, x1, x2, x36 => if x36 = true then (some true) else ((box_Cell.f k x0 x1).bind fun bt173 => ((box_Cell.f k x0 x2).bind fun bt181 => ((box_Meet.f bt173.1 bt173.2.1 bt181.1 bt181.2.1).bind fun bt189 => ((box_Volume.f k bt173.1 bt173.2.1).bind fun bt197 => ((box_Volume.f k bt181.1 bt181.2.1).bind fun bt199 => (if bt173.2.2 = 0 then (if bt181.2.2 = 0 then (if bt189.2.2 = 0 then (if bt197.2 = 0 then (if bt199.2 = 0 then ((pantileref03_Same.f k bt189.1 bt189.2.1 bt173.1 bt173.2.1).bind fun t201 => (pantilelaw03_BoxNest.j1 k x0 x1 x2 bt197.1 bt199.1 (!t201))) else (pantilelaw03_BoxNest.j1 k x0 x1 x2 bt197.1 bt199.1 true)) else (pantilelaw03_BoxNest.j1 k x0 x1 x2 bt197.1 bt199.1 true)) else (pantilelaw03_BoxNest.j1 k x0 x1 x2 bt197.1 bt199.1 true)) else (pantilelaw03_BoxNest.j1 k x0 x1 x2 bt197.1 bt199.1 true)) else (pantilelaw03_BoxNest.j1 k x0 x1 x2 bt197.1 bt199.1 true)))))))
def pantilelaw03_BoxNest.j1 : Nat → List Int → Int → Int → Int → Int → Bool → Option (Bool)
  | 0, _, _, _, _, _, _ => none
  | k + 1, x0, x1, x2, x13, x15, x88 => if x88 = true then (some false) else (pantilelaw03_BoxNest.l0 k x0 x2 x13 x15 x1)
def pantilelaw03_BoxNest.l0 : Nat → List Int → Int → Int → Int → Int → Option (Bool)
  | 0, _, _, _, _, _ => none
  | k + 1, x0, x2, x13, x15, x17 => if x17 < x2 then (pantilelaw03_BoxNest.l1 k x0 x2 x13 x15 x17 0) else (some (x13 == x15))
def pantilelaw03_BoxNest.l1 : Nat → List Int → Int → Int → Int → Int → Int → Option (Bool)
  | 0, _, _, _, _, _, _ => none
  | k + 1, x0, x2, x13, x15, x17, x18 => if x18 < (x0.length : Int) then (if x13 > 9223372036854775807 then (pantilelaw03_BoxNest.l1 k x0 x2 18446744073709551615 x15 x17 (wrap64 (x18 + 1))) else (pantilelaw03_BoxNest.l1 k x0 x2 (IntKind.u64.wrap (2 * x13)) x15 x17 (wrap64 (x18 + 1)))) else (pantilelaw03_BoxNest.l0 k x0 x2 x13 x15 (wrap64 (x17 + 1)))
end
def pantilelaw03_BoxNest.f (k : Nat) (l0 : List Int) (a1 : Int) (a2 : Int) : Option (Bool) := (pantilelaw03_awake.f k).bind fun t171 => (if t171 = true then ((pantileref01_Right.f l0).bind fun t172 => (if t172 = true then (if a1 < (-1) then (pantilelaw03_BoxNest.j0 k l0 a1 a2 true) else (if a1 > a2 then (pantilelaw03_BoxNest.j0 k l0 a1 a2 true) else (pantilelaw03_BoxNest.j0 k l0 a1 a2 (decide (a2 > 63))))) else (pantilelaw03_BoxNest.j0 k l0 a1 a2 true))) else (some false))
theorem pantilelaw03_BoxNest.mono_l : ∀ k, (∀ y0 y1 y2 y3, LeO (pantilelaw03_BoxNest.j0 k y0 y1 y2 y3) (pantilelaw03_BoxNest.j0 (k + 1) y0 y1 y2 y3)) ∧ (∀ y0 y1 y2 y3 y4 y5, LeO (pantilelaw03_BoxNest.j1 k y0 y1 y2 y3 y4 y5) (pantilelaw03_BoxNest.j1 (k + 1) y0 y1 y2 y3 y4 y5)) ∧ (∀ y0 y1 y2 y3 y4, LeO (pantilelaw03_BoxNest.l0 k y0 y1 y2 y3 y4) (pantilelaw03_BoxNest.l0 (k + 1) y0 y1 y2 y3 y4)) ∧ (∀ y0 y1 y2 y3 y4 y5, LeO (pantilelaw03_BoxNest.l1 k y0 y1 y2 y3 y4 y5) (pantilelaw03_BoxNest.l1 (k + 1) y0 y1 y2 y3 y4 y5))
  | 0 => ⟨fun _ _ _ _ r h => by simp [pantilelaw03_BoxNest.j0] at h, fun _ _ _ _ _ _ r h => by simp [pantilelaw03_BoxNest.j1] at h, fun _ _ _ _ _ r h => by simp [pantilelaw03_BoxNest.l0] at h, fun _ _ _ _ _ _ r h => by simp [pantilelaw03_BoxNest.l1] at h⟩
  | k + 1 => by
    obtain ⟨ih0, ih1, ih2, ih3⟩ := pantilelaw03_BoxNest.mono_l k
    refine ⟨?_, ?_, ?_, ?_⟩
    · intro y0 y1 y2 y3
      unfold pantilelaw03_BoxNest.j0
      repeat' first
      | (with_reducible exact ih0 _ _ _ _)
      | (with_reducible exact ih1 _ _ _ _ _ _)
      | (with_reducible exact ih2 _ _ _ _ _)
      | (with_reducible exact ih3 _ _ _ _ _ _)
      | (with_reducible exact box_Cell.mono _ _ _)
      | (with_reducible exact box_Volume.mono _ _ _)
      | (with_reducible exact pantilelaw03_awake.mono _)
      | (with_reducible exact pantileref03_Same.mono _ _ _ _ _)
      | (with_reducible exact LeO.refl _)
      | (with_reducible exact LeO.none _)
      | (with_reducible refine LeO.ite ?_ ?_)
      | (with_reducible refine LeO.bind ?_ (fun _ => ?_))
      | exact ih0 _ _ _ _
      | exact ih1 _ _ _ _ _ _
      | exact ih2 _ _ _ _ _
      | exact ih3 _ _ _ _ _ _
      | exact box_Cell.mono _ _ _
      | exact box_Volume.mono _ _ _
      | exact pantilelaw03_awake.mono _
      | exact pantileref03_Same.mono _ _ _ _ _
      | exact LeO.none _
      | refine LeO.ite ?_ ?_
      | refine LeO.bind ?_ (fun _ => ?_)
    · intro y0 y1 y2 y3 y4 y5
      unfold pantilelaw03_BoxNest.j1
      repeat' first
      | (with_reducible exact ih0 _ _ _ _)
      | (with_reducible exact ih1 _ _ _ _ _ _)
      | (with_reducible exact ih2 _ _ _ _ _)
      | (with_reducible exact ih3 _ _ _ _ _ _)
      | (with_reducible exact box_Cell.mono _ _ _)
      | (with_reducible exact box_Volume.mono _ _ _)
      | (with_reducible exact pantilelaw03_awake.mono _)
      | (with_reducible exact pantileref03_Same.mono _ _ _ _ _)
      | (with_reducible exact LeO.refl _)
      | (with_reducible exact LeO.none _)
      | (with_reducible refine LeO.ite ?_ ?_)
      | (with_reducible refine LeO.bind ?_ (fun _ => ?_))
      | exact ih0 _ _ _ _
      | exact ih1 _ _ _ _ _ _
      | exact ih2 _ _ _ _ _
      | exact ih3 _ _ _ _ _ _
      | exact box_Cell.mono _ _ _
      | exact box_Volume.mono _ _ _
      | exact pantilelaw03_awake.mono _
      | exact pantileref03_Same.mono _ _ _ _ _
      | exact LeO.none _
      | refine LeO.ite ?_ ?_
      | refine LeO.bind ?_ (fun _ => ?_)
    · intro y0 y1 y2 y3 y4
      unfold pantilelaw03_BoxNest.l0
      repeat' first
      | (with_reducible exact ih0 _ _ _ _)
      | (with_reducible exact ih1 _ _ _ _ _ _)
      | (with_reducible exact ih2 _ _ _ _ _)
      | (with_reducible exact ih3 _ _ _ _ _ _)
      | (with_reducible exact box_Cell.mono _ _ _)
      | (with_reducible exact box_Volume.mono _ _ _)
      | (with_reducible exact pantilelaw03_awake.mono _)
      | (with_reducible exact pantileref03_Same.mono _ _ _ _ _)
      | (with_reducible exact LeO.refl _)
      | (with_reducible exact LeO.none _)
      | (with_reducible refine LeO.ite ?_ ?_)
      | (with_reducible refine LeO.bind ?_ (fun _ => ?_))
      | exact ih0 _ _ _ _
      | exact ih1 _ _ _ _ _ _
      | exact ih2 _ _ _ _ _
      | exact ih3 _ _ _ _ _ _
      | exact box_Cell.mono _ _ _
      | exact box_Volume.mono _ _ _
      | exact pantilelaw03_awake.mono _
      | exact pantileref03_Same.mono _ _ _ _ _
      | exact LeO.none _
      | refine LeO.ite ?_ ?_
      | refine LeO.bind ?_ (fun _ => ?_)
    · intro y0 y1 y2 y3 y4 y5
      unfold pantilelaw03_BoxNest.l1
      repeat' first
      | (with_reducible exact ih0 _ _ _ _)
      | (with_reducible exact ih1 _ _ _ _ _ _)
      | (with_reducible exact ih2 _ _ _ _ _)
      | (with_reducible exact ih3 _ _ _ _ _ _)
      | (with_reducible exact box_Cell.mono _ _ _)
      | (with_reducible exact box_Volume.mono _ _ _)
      | (with_reducible exact pantilelaw03_awake.mono _)
      | (with_reducible exact pantileref03_Same.mono _ _ _ _ _)
      | (with_reducible exact LeO.refl _)
      | (with_reducible exact LeO.none _)
      | (with_reducible refine LeO.ite ?_ ?_)
      | (with_reducible refine LeO.bind ?_ (fun _ => ?_))
      | exact ih0 _ _ _ _
      | exact ih1 _ _ _ _ _ _
      | exact ih2 _ _ _ _ _
      | exact ih3 _ _ _ _ _ _
      | exact box_Cell.mono _ _ _
      | exact box_Volume.mono _ _ _
      | exact pantilelaw03_awake.mono _
      | exact pantileref03_Same.mono _ _ _ _ _
      | exact LeO.none _
      | refine LeO.ite ?_ ?_
      | refine LeO.bind ?_ (fun _ => ?_)
theorem pantilelaw03_BoxNest.mono : ∀ a0 a1 a2 k, LeO (pantilelaw03_BoxNest.f k a0 a1 a2) (pantilelaw03_BoxNest.f (k + 1) a0 a1 a2) := by
  intro a0 a1 a2 k
  obtain ⟨ih0, ih1, ih2, ih3⟩ := pantilelaw03_BoxNest.mono_l k
  unfold pantilelaw03_BoxNest.f
  repeat' first
      | (with_reducible exact ih0 _ _ _ _)
      | (with_reducible exact ih1 _ _ _ _ _ _)
      | (with_reducible exact ih2 _ _ _ _ _)
      | (with_reducible exact ih3 _ _ _ _ _ _)
      | (with_reducible exact box_Cell.mono _ _ _)
      | (with_reducible exact box_Volume.mono _ _ _)
      | (with_reducible exact pantilelaw03_awake.mono _)
      | (with_reducible exact pantileref03_Same.mono _ _ _ _ _)
      | (with_reducible exact LeO.refl _)
      | (with_reducible exact LeO.none _)
      | (with_reducible refine LeO.ite ?_ ?_)
      | (with_reducible refine LeO.bind ?_ (fun _ => ?_))
      | exact ih0 _ _ _ _
      | exact ih1 _ _ _ _ _ _
      | exact ih2 _ _ _ _ _
      | exact ih3 _ _ _ _ _ _
      | exact box_Cell.mono _ _ _
      | exact box_Volume.mono _ _ _
      | exact pantilelaw03_awake.mono _
      | exact pantileref03_Same.mono _ _ _ _ _
      | exact LeO.none _
      | refine LeO.ite ?_ ?_
      | refine LeO.bind ?_ (fun _ => ?_)
set_option maxHeartbeats 8000000 in
set_option maxRecDepth 100000 in
theorem pantilelaw03_BoxNest.calls (k : Nat) (A0 : Option Addr) (c0 : Nat) (l0 : List Int) (a1 : Int) (a2 : Int) (r : Bool) (w : World) (hr0 : Kd.C (Kd.int .u64) w A0 l0.length l0) (hc0 : l0.length ≤ c0) (hrt : r = true) (h : pantilelaw03_BoxNest.f k l0 a1 a2 = some r) :
    Calls Try.prog 9 #[.slice A0 l0.length c0, .int .i64 a1, .int .i64 a2] w fun e w' => e = .returned (.bool r) ∧ Below w.heap.size w w' := by
  have hu32 := Try.underlying32
  have HRT := Aside0.mk hrt
  clear hrt
  have HR0 := Aside0.mk hr0
  have HC0 := Aside0.mk hc0
  clear hr0 hc0
  have HB := Aside0.mk (Below.refl w.heap.size w)
  have H : ((pantilelaw03_awake.f k).bind fun t171 => (if t171 = true then ((pantileref01_Right.f l0).bind fun t172 => (if t172 = true then (if a1 < (-1) then (pantilelaw03_BoxNest.j0 k l0 a1 a2 true) else (if a1 > a2 then (pantilelaw03_BoxNest.j0 k l0 a1 a2 true) else (pantilelaw03_BoxNest.j0 k l0 a1 a2 (decide (a2 > 63))))) else (pantilelaw03_BoxNest.j0 k l0 a1 a2 true))) else (some false))) = some r := h
  clear h
  replace H := Option.bind_eq_some_iff.mp H
  obtain ⟨t171, A40, H⟩ := H
  replace H : (if t171 = true then ((pantileref01_Right.f l0).bind fun t172 => (if t172 = true then (if a1 < (-1) then (pantilelaw03_BoxNest.j0 k l0 a1 a2 true) else (if a1 > a2 then (pantilelaw03_BoxNest.j0 k l0 a1 a2 true) else (pantilelaw03_BoxNest.j0 k l0 a1 a2 (decide (a2 > 63))))) else (pantilelaw03_BoxNest.j0 k l0 a1 a2 true))) else (some false)) = some r := H
  have A4 := Aside0.mk A40
  clear A40
  by_cases c5 : t171 = true
  · subst c5
    have H1 : ((pantileref01_Right.f l0).bind fun t172 => (if t172 = true then (if a1 < (-1) then (pantilelaw03_BoxNest.j0 k l0 a1 a2 true) else (if a1 > a2 then (pantilelaw03_BoxNest.j0 k l0 a1 a2 true) else (pantilelaw03_BoxNest.j0 k l0 a1 a2 (decide (a2 > 63))))) else (pantilelaw03_BoxNest.j0 k l0 a1 a2 true))) = some r := by rw [if_pos rfl] at H; exact H
    clear H
    have H := H1
    clear H1
    have HC6 := Aside0.mk H
    clear H
    go_enter Try.func9, Try.ntmps9
    go_upto_region 3 with (first | ((with_reducible refine gate_callee (f := 24) rfl ?_); refine goesL_ (some 19) rfl rfl Try.func24 (by kernel_rfl) rfl #[] rfl (by (try simp only [List.map_toArray, List.map_cons, List.map_nil]); first | done | rfl | (simp only [List.length_drop, List.length_take]; rfl)) ?_; (with_reducible refine (pantilelaw03_awake.calls k  true _ A4.out).mono ?_); rintro e w7 ⟨rfl, hb⟩; refine ⟨_, rfl, ?_⟩; have n0_ := Aside0.mk (below_step (by repeat (first | (with_reducible first | exact HB.out | apply below_alloc | apply pw_below_drewN | apply below_drew1) | exact HB.out)) hb); clear HB; have HB := n0_; clear n0_; (try clear hb); (try clear hb2); (try clear hk); (try clear hi)))
    (try simp only [Act.put, List.setIfInBounds_toArray, List.set_cons_zero, List.set_cons_succ])
    go_cut [36] (fun v36 wc => ∃ (kq : Nat) (x36_5 : Bool), v36 = .bool x36_5 ∧ Aside0 (pantilelaw03_BoxNest.j0 kq l0 a1 a2 x36_5 = some r) ∧ Aside0 (kq ≤ k) ∧ Aside0 (Below w.heap.size w wc))
    case first =>
      have H := HC6.out
      clear HC6
      replace H := Option.bind_eq_some_iff.mp H
      obtain ⟨t172, A80, H⟩ := H
      replace H : (if t172 = true then (if a1 < (-1) then (pantilelaw03_BoxNest.j0 k l0 a1 a2 true) else (if a1 > a2 then (pantilelaw03_BoxNest.j0 k l0 a1 a2 true) else (pantilelaw03_BoxNest.j0 k l0 a1 a2 (decide (a2 > 63))))) else (pantilelaw03_BoxNest.j0 k l0 a1 a2 true)) = some r := H
      have A8 := Aside0.mk A80
      clear A80
      by_cases c9 : t172 = true
      · subst c9
        have H1 : (if a1 < (-1) then (pantilelaw03_BoxNest.j0 k l0 a1 a2 true) else (if a1 > a2 then (pantilelaw03_BoxNest.j0 k l0 a1 a2 true) else (pantilelaw03_BoxNest.j0 k l0 a1 a2 (decide (a2 > 63))))) = some r := by rw [if_pos rfl] at H; exact H
        clear H
        have H := H1
        clear H1
        by_cases c10 : a1 < (-1)
        · rw [if_pos c10] at H
          have c10b0 : decide (a1 < (-1)) = true := decide_eq_true c10
          clear c10
          (first | rw [c10b0] | (simp only [i64_w, i32_w]; rw [c10b0]) | skip)
          have H' := Aside0.mk H
          clear H
          go_wp2_with (first | ((with_reducible refine gate_callee (f := 28) rfl ?_); refine goesL_ (some 22) rfl rfl Try.func28 (by kernel_rfl) rfl #[.slice A0 l0.length c0] rfl (by (try simp only [List.map_toArray, List.map_cons, List.map_nil]); first | done | rfl | (simp only [List.length_drop, List.length_take]; rfl)) ?_; (with_reducible refine (pantileref01_Right.calls _ _ l0 true _ ?side1 ?side2 A8.out).mono ?_); (case side1 => repeat (first | exact (Kd.C_below HR0.out HB.out) | (with_reducible refine Kd.C_alloc ?_ _) | (with_reducible refine Kd.C_drewN ?_ _) | (with_reducible refine Kd.C_drew ?_))); (case side2 => exact HC0.out); rintro e w' ⟨rfl, ⟨nd, rfl⟩⟩; refine ⟨_, rfl, ?_⟩))
          go_meet
          case rel => exact ⟨_, (true), (by first | rfl | (simp; done) | (simp [*]; done)), H', ⟨by first | omega | exact Nat.le_refl _⟩, ⟨by repeat (first | (with_reducible first | exact HB.out | apply below_alloc | apply pw_below_drewN | apply below_drew1) | exact HB.out)⟩⟩
        · rw [if_neg c10] at H
          have c10b0 : decide (a1 < (-1)) = false := decide_eq_false c10
          clear c10
          (first | rw [c10b0] | (simp only [i64_w, i32_w]; rw [c10b0]) | skip)
          by_cases c11 : a1 > a2
          · rw [if_pos c11] at H
            have c11b0 : decide (a2 < a1) = true := decide_eq_true c11
            clear c11
            have H' := Aside0.mk H
            clear H
            go_wp2_with (first | ((with_reducible refine gate_callee (f := 28) rfl ?_); refine goesL_ (some 22) rfl rfl Try.func28 (by kernel_rfl) rfl #[.slice A0 l0.length c0] rfl (by (try simp only [List.map_toArray, List.map_cons, List.map_nil]); first | done | rfl | (simp only [List.length_drop, List.length_take]; rfl)) ?_; (with_reducible refine (pantileref01_Right.calls _ _ l0 true _ ?side1 ?side2 A8.out).mono ?_); (case side1 => repeat (first | exact (Kd.C_below HR0.out HB.out) | (with_reducible refine Kd.C_alloc ?_ _) | (with_reducible refine Kd.C_drewN ?_ _) | (with_reducible refine Kd.C_drew ?_))); (case side2 => exact HC0.out); rintro e w' ⟨rfl, ⟨nd, rfl⟩⟩; refine ⟨_, rfl, ?_⟩))
            go_meet
            case rel => exact ⟨_, (true), (by first | rfl | (simp; done) | (simp [*]; done)), H', ⟨by first | omega | exact Nat.le_refl _⟩, ⟨by repeat (first | (with_reducible first | exact HB.out | apply below_alloc | apply pw_below_drewN | apply below_drew1) | exact HB.out)⟩⟩
          · rw [if_neg c11] at H
            have c11b0 : decide (a2 < a1) = false := decide_eq_false c11
            clear c11
            have H' := Aside0.mk H
            clear H
            go_wp2_with (first | ((with_reducible refine gate_callee (f := 28) rfl ?_); refine goesL_ (some 22) rfl rfl Try.func28 (by kernel_rfl) rfl #[.slice A0 l0.length c0] rfl (by (try simp only [List.map_toArray, List.map_cons, List.map_nil]); first | done | rfl | (simp only [List.length_drop, List.length_take]; rfl)) ?_; (with_reducible refine (pantileref01_Right.calls _ _ l0 true _ ?side1 ?side2 A8.out).mono ?_); (case side1 => repeat (first | exact (Kd.C_below HR0.out HB.out) | (with_reducible refine Kd.C_alloc ?_ _) | (with_reducible refine Kd.C_drewN ?_ _) | (with_reducible refine Kd.C_drew ?_))); (case side2 => exact HC0.out); rintro e w' ⟨rfl, ⟨nd, rfl⟩⟩; refine ⟨_, rfl, ?_⟩))
            go_meet
            case rel => exact ⟨_, (decide (a2 > 63)), (by first | rfl | (simp; done) | (simp [*]; done)), H', ⟨by first | omega | exact Nat.le_refl _⟩, ⟨by repeat (first | (with_reducible first | exact HB.out | apply below_alloc | apply pw_below_drewN | apply below_drew1) | exact HB.out)⟩⟩
      · replace c9 := Bool.eq_false_iff.mpr c9
        subst c9
        have H1 : (pantilelaw03_BoxNest.j0 k l0 a1 a2 true) = some r := by rw [if_neg (show ¬ (false = true) by decide)] at H; exact H
        clear H
        have H := H1
        clear H1
        have H' := Aside0.mk H
        clear H
        go_wp2_with (first | ((with_reducible refine gate_callee (f := 28) rfl ?_); refine goesL_ (some 22) rfl rfl Try.func28 (by kernel_rfl) rfl #[.slice A0 l0.length c0] rfl (by (try simp only [List.map_toArray, List.map_cons, List.map_nil]); first | done | rfl | (simp only [List.length_drop, List.length_take]; rfl)) ?_; (with_reducible refine (pantileref01_Right.calls _ _ l0 false _ ?side1 ?side2 A8.out).mono ?_); (case side1 => repeat (first | exact (Kd.C_below HR0.out HB.out) | (with_reducible refine Kd.C_alloc ?_ _) | (with_reducible refine Kd.C_drewN ?_ _) | (with_reducible refine Kd.C_drew ?_))); (case side2 => exact HC0.out); rintro e w' ⟨rfl, ⟨nd, rfl⟩⟩; refine ⟨_, rfl, ?_⟩))
        go_meet
        case rel => exact ⟨_, (true), (by first | rfl | (simp; done) | (simp [*]; done)), H', ⟨by first | omega | exact Nat.le_refl _⟩, ⟨by repeat (first | (with_reducible first | exact HB.out | apply below_alloc | apply pw_below_drewN | apply below_drew1) | exact HB.out)⟩⟩
    case rest =>
      clear HC6
      try clear c1
      try clear c2
      try clear p2
      try clear c5
      try clear c9
      try clear c10
      try clear c10b0
      try clear c11
      try clear c11b0
      obtain ⟨kq, x36_5, rfl, HA, HJ5, HB⟩ := hcut
      cases kq with
      | zero => exact absurd HA.out (by simp [pantilelaw03_BoxNest.j0])
      | succ kj5 =>
        have H := HA.out
        clear HA
        simp only [pantilelaw03_BoxNest.j0] at H
        by_cases c12 : x36_5 = true
        · subst c12
          have H1 : (some true) = some r := by rw [if_pos rfl] at H; exact H
          clear H
          have H := H1
          clear H1
          obtain rfl := Option.some.inj H
          go_wp2
          go_ret
          exact ⟨by first | rfl | (simp [errW_none, errW_some] <;> rfl) | (simp [*, errW_none, errW_some] <;> rfl), by repeat (first | (with_reducible first | exact HB.out | apply below_alloc | apply pw_below_drewN | apply below_drew1) | exact HB.out)⟩
        · replace c12 := Bool.eq_false_iff.mpr c12
          subst c12
          have H1 : ((box_Cell.f kj5 l0 a1).bind fun bt173 => ((box_Cell.f kj5 l0 a2).bind fun bt181 => ((box_Meet.f bt173.1 bt173.2.1 bt181.1 bt181.2.1).bind fun bt189 => ((box_Volume.f kj5 bt173.1 bt173.2.1).bind fun bt197 => ((box_Volume.f kj5 bt181.1 bt181.2.1).bind fun bt199 => (if bt173.2.2 = 0 then (if bt181.2.2 = 0 then (if bt189.2.2 = 0 then (if bt197.2 = 0 then (if bt199.2 = 0 then ((pantileref03_Same.f kj5 bt189.1 bt189.2.1 bt173.1 bt173.2.1).bind fun t201 => (pantilelaw03_BoxNest.j1 kj5 l0 a1 a2 bt197.1 bt199.1 (!t201))) else (pantilelaw03_BoxNest.j1 kj5 l0 a1 a2 bt197.1 bt199.1 true)) else (pantilelaw03_BoxNest.j1 kj5 l0 a1 a2 bt197.1 bt199.1 true)) else (pantilelaw03_BoxNest.j1 kj5 l0 a1 a2 bt197.1 bt199.1 true)) else (pantilelaw03_BoxNest.j1 kj5 l0 a1 a2 bt197.1 bt199.1 true)) else (pantilelaw03_BoxNest.j1 kj5 l0 a1 a2 bt197.1 bt199.1 true))))))) = some r := by rw [if_neg (show ¬ (false = true) by decide)] at H; exact H
          clear H
          have H := H1
          clear H1
          replace H := Option.bind_eq_some_iff.mp H
          obtain ⟨⟨t173, t176, t179⟩, A130, H⟩ := H
          replace H : ((box_Cell.f kj5 l0 a2).bind fun bt181 => ((box_Meet.f t173 t176 bt181.1 bt181.2.1).bind fun bt189 => ((box_Volume.f kj5 t173 t176).bind fun bt197 => ((box_Volume.f kj5 bt181.1 bt181.2.1).bind fun bt199 => (if t179 = 0 then (if bt181.2.2 = 0 then (if bt189.2.2 = 0 then (if bt197.2 = 0 then (if bt199.2 = 0 then ((pantileref03_Same.f kj5 bt189.1 bt189.2.1 t173 t176).bind fun t201 => (pantilelaw03_BoxNest.j1 kj5 l0 a1 a2 bt197.1 bt199.1 (!t201))) else (pantilelaw03_BoxNest.j1 kj5 l0 a1 a2 bt197.1 bt199.1 true)) else (pantilelaw03_BoxNest.j1 kj5 l0 a1 a2 bt197.1 bt199.1 true)) else (pantilelaw03_BoxNest.j1 kj5 l0 a1 a2 bt197.1 bt199.1 true)) else (pantilelaw03_BoxNest.j1 kj5 l0 a1 a2 bt197.1 bt199.1 true)) else (pantilelaw03_BoxNest.j1 kj5 l0 a1 a2 bt197.1 bt199.1 true)))))) = some r := H
          have A13 := Aside0.mk A130
          clear A130
          replace H := Option.bind_eq_some_iff.mp H
          obtain ⟨⟨t181, t184, t187⟩, A140, H⟩ := H
          replace H : ((box_Meet.f t173 t176 t181 t184).bind fun bt189 => ((box_Volume.f kj5 t173 t176).bind fun bt197 => ((box_Volume.f kj5 t181 t184).bind fun bt199 => (if t179 = 0 then (if t187 = 0 then (if bt189.2.2 = 0 then (if bt197.2 = 0 then (if bt199.2 = 0 then ((pantileref03_Same.f kj5 bt189.1 bt189.2.1 t173 t176).bind fun t201 => (pantilelaw03_BoxNest.j1 kj5 l0 a1 a2 bt197.1 bt199.1 (!t201))) else (pantilelaw03_BoxNest.j1 kj5 l0 a1 a2 bt197.1 bt199.1 true)) else (pantilelaw03_BoxNest.j1 kj5 l0 a1 a2 bt197.1 bt199.1 true)) else (pantilelaw03_BoxNest.j1 kj5 l0 a1 a2 bt197.1 bt199.1 true)) else (pantilelaw03_BoxNest.j1 kj5 l0 a1 a2 bt197.1 bt199.1 true)) else (pantilelaw03_BoxNest.j1 kj5 l0 a1 a2 bt197.1 bt199.1 true))))) = some r := H
          have A14 := Aside0.mk A140
          clear A140
          replace H := Option.bind_eq_some_iff.mp H
          obtain ⟨⟨t189, t192, t195⟩, A150, H⟩ := H
          replace H : ((box_Volume.f kj5 t173 t176).bind fun bt197 => ((box_Volume.f kj5 t181 t184).bind fun bt199 => (if t179 = 0 then (if t187 = 0 then (if t195 = 0 then (if bt197.2 = 0 then (if bt199.2 = 0 then ((pantileref03_Same.f kj5 t189 t192 t173 t176).bind fun t201 => (pantilelaw03_BoxNest.j1 kj5 l0 a1 a2 bt197.1 bt199.1 (!t201))) else (pantilelaw03_BoxNest.j1 kj5 l0 a1 a2 bt197.1 bt199.1 true)) else (pantilelaw03_BoxNest.j1 kj5 l0 a1 a2 bt197.1 bt199.1 true)) else (pantilelaw03_BoxNest.j1 kj5 l0 a1 a2 bt197.1 bt199.1 true)) else (pantilelaw03_BoxNest.j1 kj5 l0 a1 a2 bt197.1 bt199.1 true)) else (pantilelaw03_BoxNest.j1 kj5 l0 a1 a2 bt197.1 bt199.1 true)))) = some r := H
          have A15 := Aside0.mk A150
          clear A150
          replace H := Option.bind_eq_some_iff.mp H
          obtain ⟨⟨t197, t198⟩, A160, H⟩ := H
          replace H : ((box_Volume.f kj5 t181 t184).bind fun bt199 => (if t179 = 0 then (if t187 = 0 then (if t195 = 0 then (if t198 = 0 then (if bt199.2 = 0 then ((pantileref03_Same.f kj5 t189 t192 t173 t176).bind fun t201 => (pantilelaw03_BoxNest.j1 kj5 l0 a1 a2 t197 bt199.1 (!t201))) else (pantilelaw03_BoxNest.j1 kj5 l0 a1 a2 t197 bt199.1 true)) else (pantilelaw03_BoxNest.j1 kj5 l0 a1 a2 t197 bt199.1 true)) else (pantilelaw03_BoxNest.j1 kj5 l0 a1 a2 t197 bt199.1 true)) else (pantilelaw03_BoxNest.j1 kj5 l0 a1 a2 t197 bt199.1 true)) else (pantilelaw03_BoxNest.j1 kj5 l0 a1 a2 t197 bt199.1 true))) = some r := H
          have A16 := Aside0.mk A160
          clear A160
          replace H := Option.bind_eq_some_iff.mp H
          obtain ⟨⟨t199, t200⟩, A170, H⟩ := H
          replace H : (if t179 = 0 then (if t187 = 0 then (if t195 = 0 then (if t198 = 0 then (if t200 = 0 then ((pantileref03_Same.f kj5 t189 t192 t173 t176).bind fun t201 => (pantilelaw03_BoxNest.j1 kj5 l0 a1 a2 t197 t199 (!t201))) else (pantilelaw03_BoxNest.j1 kj5 l0 a1 a2 t197 t199 true)) else (pantilelaw03_BoxNest.j1 kj5 l0 a1 a2 t197 t199 true)) else (pantilelaw03_BoxNest.j1 kj5 l0 a1 a2 t197 t199 true)) else (pantilelaw03_BoxNest.j1 kj5 l0 a1 a2 t197 t199 true)) else (pantilelaw03_BoxNest.j1 kj5 l0 a1 a2 t197 t199 true)) = some r := H
          have A17 := Aside0.mk A170
          clear A170
          have HC18 := Aside0.mk H
          clear H
          go_upto_region 10 with (first | ((with_reducible refine gate_callee (f := 26) rfl ?_); refine goesL_ (some 40) rfl rfl Try.func26 (by kernel_rfl) rfl #[.slice A0 l0.length c0, .int .i64 a1] rfl (by (try simp only [List.map_toArray, List.map_cons, List.map_nil]); first | done | rfl | (simp only [List.length_drop, List.length_take]; rfl)) ?_; (with_reducible refine (box_Cell.calls kj5 _ _ l0 a1 t173 t176 t179 _ ?side1 ?side2 A13.out).mono ?_); (case side1 => repeat (first | exact (Kd.C_below HR0.out HB.out) | (with_reducible refine Kd.C_alloc ?_ _) | (with_reducible refine Kd.C_drewN ?_ _) | (with_reducible refine Kd.C_drew ?_))); (case side2 => exact HC0.out); rintro e w19 ⟨v174, v177, rfl, ho0, ho1, hb⟩; refine ⟨_, rfl, ?_⟩; have n0_ := Aside0.mk (Kd.R_lower ho0 (below_size (by repeat (first | (with_reducible first | exact HB.out | apply below_alloc | apply pw_below_drewN | apply below_drew1) | exact HB.out)))); have n1_ := Aside0.mk (Kd.R_lower ho1 (below_size (by repeat (first | (with_reducible first | exact HB.out | apply below_alloc | apply pw_below_drewN | apply below_drew1) | exact HB.out)))); have n2_ := Aside0.mk (below_step (by repeat (first | (with_reducible first | exact HB.out | apply below_alloc | apply pw_below_drewN | apply below_drew1) | exact HB.out)) hb); clear HB; have HO175 := n0_; have HO178 := n1_; have HB := n2_; clear n0_ n1_ n2_; (try clear hb); (try clear hb2); (try clear hk); (try clear hi); (try clear ho0); (try clear ho1)) | ((with_reducible refine gate_dst (N := 7) rfl ?_); refine box_event ?hg (N := 7) ?hd (cs := #[.slice none 0 0, .slice none 0 0]) (t := 32) ?hr ?_; (case hd => rfl); (case hg => rfl); (case hr => first | (go_simp; done) | (go_simp; rfl)); intro gb180 hg w20 hbox hb; have n0_ := Aside0.mk (Kd.R_below (by (with_reducible repeat (first | apply Kd.R_alloc | apply Kd.R_drewN | apply Kd.R_drew)); exact HO175.out) hb); have n1_ := Aside0.mk (Kd.R_below (by (with_reducible repeat (first | apply Kd.R_alloc | apply Kd.R_drewN | apply Kd.R_drew)); exact HO178.out) hb); have n2_ := Aside0.mk (below_step (by repeat (first | (with_reducible first | exact HB.out | apply below_alloc | apply pw_below_drewN | apply below_drew1) | exact HB.out)) hb); have n3_ := Aside0.mk (hbox); have n4_ := Aside0.mk ((by rw [hg]; exact (below_size (by repeat (first | (with_reducible first | exact HB.out | apply below_alloc | apply pw_below_drewN | apply below_drew1) | exact HB.out))) : w.heap.size ≤ gb180)); have n5_ := Aside0.mk ((by rw [hg]; exact (below_size (by repeat (first | (with_reducible first | exact HB.out | apply below_alloc | apply pw_below_drewN | apply below_drew1) | exact HB.out))) : w.heap.size ≤ gb180)); clear HO175; clear HO178; clear HB; have HO175 := n0_; have HO178 := n1_; have HB := n2_; have BK180 := n3_; have GW180 := n4_; have GE180 := n5_; clear n0_ n1_ n2_ n3_ n4_ n5_; clear hb hbox hg; obtain ⟨Ao21, co21, eo21⟩ := Kd.R_slice HO175.out; subst eo21; have hcz22_0 : w20.cell? ⟨gb180, 0, none⟩ = some (.slice none 0 0) := (blk_cell BK180.out 0).trans rfl; have hcz22_1 : w20.cell? ⟨gb180, 1, none⟩ = some (.slice none 0 0) := (blk_cell BK180.out 1).trans rfl; have hfz22_0 := blk_frozen BK180.out 0; have hfz22_1 := blk_frozen BK180.out 1; obtain ⟨Ao23, co23, eo23⟩ := Kd.R_slice HO178.out; subst eo23) | ((with_reducible refine gate_callee (f := 26) rfl ?_); refine goesL_ (some 46) rfl rfl Try.func26 (by kernel_rfl) rfl #[.slice A0 l0.length c0, .int .i64 a2] rfl (by (try simp only [List.map_toArray, List.map_cons, List.map_nil]); first | done | rfl | (simp only [List.length_drop, List.length_take]; rfl)) ?_; (with_reducible refine (box_Cell.calls kj5 _ _ l0 a2 t181 t184 t187 _ ?side1 ?side2 A14.out).mono ?_); (case side1 => exact Kd.C_below HR0.out (by repeat (first | (with_reducible first | exact HB.out | apply below_alloc | apply pw_below_drewN | apply below_drew1 | refine below_set ?_ GE180.out) | exact HB.out))); (case side2 => exact HC0.out); rintro e w24 ⟨v182, v185, rfl, ho0, ho1, hb⟩; refine ⟨_, rfl, ?_⟩; have n0_ := Aside0.mk (Kd.R_mono (Kd.R_told (Kd.R_told (Kd.R_old (by (with_reducible repeat (first | apply Kd.R_alloc | apply Kd.R_drewN | apply Kd.R_drew)); exact (Kd.R_mono (Kd.R_far (p := ⟨gb180, 1, none⟩) (Kd.R_far (p := ⟨gb180, 0, none⟩) (Kd.R_types HO175.out BK180.out (by decide)) (fun _ hk => hk.2) (.slice Ao21 t173.length co21)) (fun _ hk => hk.2) (.slice Ao23 t176.length co23)) (fun _ h_ => h_.1))) hb) (Kd.R_base ho0)) (Kd.R_base ho1)) (fun _ h_ => h_.1)); have n1_ := Aside0.mk (Kd.R_mono (Kd.R_told (Kd.R_told (Kd.R_old (by (with_reducible repeat (first | apply Kd.R_alloc | apply Kd.R_drewN | apply Kd.R_drew)); exact (Kd.R_mono (Kd.R_far (p := ⟨gb180, 1, none⟩) (Kd.R_far (p := ⟨gb180, 0, none⟩) (Kd.R_types HO178.out BK180.out (by decide)) (fun _ hk => hk.2) (.slice Ao21 t173.length co21)) (fun _ hk => hk.2) (.slice Ao23 t176.length co23)) (fun _ h_ => h_.1))) hb) (Kd.R_base ho0)) (Kd.R_base ho1)) (fun _ h_ => h_.1)); have n2_ := Aside0.mk (Kd.R_lower (Kd.R_new' (Kd.R_new' ho0 (Kd.R_lt (by (with_reducible repeat (first | apply Kd.R_alloc | apply Kd.R_drewN | apply Kd.R_drew)); exact (Kd.R_mono (Kd.R_far (p := ⟨gb180, 1, none⟩) (Kd.R_far (p := ⟨gb180, 0, none⟩) (Kd.R_types HO175.out BK180.out (by decide)) (fun _ hk => hk.2) (.slice Ao21 t173.length co21)) (fun _ hk => hk.2) (.slice Ao23 t176.length co23)) (fun _ h_ => h_.1))))) (Kd.R_lt (by (with_reducible repeat (first | apply Kd.R_alloc | apply Kd.R_drewN | apply Kd.R_drew)); exact (Kd.R_mono (Kd.R_far (p := ⟨gb180, 1, none⟩) (Kd.R_far (p := ⟨gb180, 0, none⟩) (Kd.R_types HO178.out BK180.out (by decide)) (fun _ hk => hk.2) (.slice Ao21 t173.length co21)) (fun _ hk => hk.2) (.slice Ao23 t176.length co23)) (fun _ h_ => h_.1))))) (below_size (by repeat (first | (with_reducible first | exact HB.out | apply below_alloc | apply pw_below_drewN | apply below_drew1 | refine below_set ?_ GE180.out) | exact HB.out)))); have n3_ := Aside0.mk (Kd.R_lower (Kd.R_new' (Kd.R_new' ho1 (Kd.R_lt (by (with_reducible repeat (first | apply Kd.R_alloc | apply Kd.R_drewN | apply Kd.R_drew)); exact (Kd.R_mono (Kd.R_far (p := ⟨gb180, 1, none⟩) (Kd.R_far (p := ⟨gb180, 0, none⟩) (Kd.R_types HO175.out BK180.out (by decide)) (fun _ hk => hk.2) (.slice Ao21 t173.length co21)) (fun _ hk => hk.2) (.slice Ao23 t176.length co23)) (fun _ h_ => h_.1))))) (Kd.R_lt (by (with_reducible repeat (first | apply Kd.R_alloc | apply Kd.R_drewN | apply Kd.R_drew)); exact (Kd.R_mono (Kd.R_far (p := ⟨gb180, 1, none⟩) (Kd.R_far (p := ⟨gb180, 0, none⟩) (Kd.R_types HO178.out BK180.out (by decide)) (fun _ hk => hk.2) (.slice Ao21 t173.length co21)) (fun _ hk => hk.2) (.slice Ao23 t176.length co23)) (fun _ h_ => h_.1))))) (below_size (by repeat (first | (with_reducible first | exact HB.out | apply below_alloc | apply pw_below_drewN | apply below_drew1 | refine below_set ?_ GE180.out) | exact HB.out)))); have n4_ := Aside0.mk (blk_below (g := gb180) (o := .cells #[.slice Ao21 t173.length co21, .slice Ao23 t176.length co23] 32 (0, 0)) (by (with_reducible repeat (first | refine blk_drewN ?_ _ | refine blk_drew ?_ | refine blk_alloc ?_ _)); refine blk_put (cs := #[.slice Ao21 t173.length co21, .slice none 0 0]) ?_ 1 _ rfl; (with_reducible repeat (first | refine blk_drewN ?_ _ | refine blk_drew ?_ | refine blk_alloc ?_ _)); refine blk_put (cs := #[.slice none 0 0, .slice none 0 0]) ?_ 0 _ rfl; (with_reducible repeat (first | refine blk_drewN ?_ _ | refine blk_drew ?_ | refine blk_alloc ?_ _)); exact BK180.out) hb); have n5_ := Aside0.mk (below_step (by repeat (first | (with_reducible first | exact HB.out | apply below_alloc | apply pw_below_drewN | apply below_drew1 | refine below_set ?_ GE180.out) | exact HB.out)) hb); clear HO175; clear HO178; clear BK180; clear HB; have HO175 := n0_; have HO178 := n1_; have HO183 := n2_; have HO186 := n3_; have BK180 := n4_; have HB := n5_; clear n0_ n1_ n2_ n3_ n4_ n5_; (try clear hb); (try clear hb2); (try clear hk); (try clear hi); (try clear ho0); (try clear ho1)) | ((with_reducible refine gate_dst (N := 9) rfl ?_); refine box_event ?hg (N := 9) ?hd (cs := #[.slice none 0 0, .slice none 0 0]) (t := 32) ?hr ?_; (case hd => rfl); (case hg => rfl); (case hr => first | (go_simp; done) | (go_simp; rfl)); intro gb188 hg w25 hbox hb; have n0_ := Aside0.mk (Kd.R_below (by (with_reducible repeat (first | apply Kd.R_alloc | apply Kd.R_drewN | apply Kd.R_drew)); exact HO175.out) hb); have n1_ := Aside0.mk (Kd.R_below (by (with_reducible repeat (first | apply Kd.R_alloc | apply Kd.R_drewN | apply Kd.R_drew)); exact HO178.out) hb); have n2_ := Aside0.mk (Kd.R_below (by (with_reducible repeat (first | apply Kd.R_alloc | apply Kd.R_drewN | apply Kd.R_drew)); exact HO183.out) hb); have n3_ := Aside0.mk (Kd.R_below (by (with_reducible repeat (first | apply Kd.R_alloc | apply Kd.R_drewN | apply Kd.R_drew)); exact HO186.out) hb); have n4_ := Aside0.mk (blk_below (g := gb180) (o := .cells #[.slice Ao21 t173.length co21, .slice Ao23 t176.length co23] 32 (0, 0)) (by (with_reducible repeat (first | refine blk_drewN ?_ _ | refine blk_drew ?_ | refine blk_alloc ?_ _)); exact BK180.out) hb); have n5_ := Aside0.mk (below_step (by repeat (first | (with_reducible first | exact HB.out | apply below_alloc | apply pw_below_drewN | apply below_drew1 | refine below_set ?_ GE180.out) | exact HB.out)) hb); have n6_ := Aside0.mk (hbox); have n7_ := Aside0.mk ((by rw [hg]; exact (below_size (by repeat (first | (with_reducible first | exact HB.out | apply below_alloc | apply pw_below_drewN | apply below_drew1 | refine below_set ?_ GE180.out) | exact HB.out))) : w.heap.size ≤ gb188)); have n8_ := Aside0.mk ((by rw [hg]; exact (below_size (by repeat (first | (with_reducible first | exact HB.out | apply below_alloc | apply pw_below_drewN | apply below_drew1 | refine below_set ?_ GE180.out) | exact HB.out))) : w.heap.size ≤ gb188)); have n9_ := Aside0.mk ((by rw [hg]; exact Nat.ne_of_lt (blk_lt (g := gb180) (o := .cells #[.slice Ao21 t173.length co21, .slice Ao23 t176.length co23] 32 (0, 0)) (by (with_reducible repeat (first | refine blk_drewN ?_ _ | refine blk_drew ?_ | refine blk_alloc ?_ _)); exact BK180.out)) : gb180 ≠ gb188)); have n10_ := Aside0.mk ((by rw [hg]; exact Nat.ne_of_gt (blk_lt (g := gb180) (o := .cells #[.slice Ao21 t173.length co21, .slice Ao23 t176.length co23] 32 (0, 0)) (by (with_reducible repeat (first | refine blk_drewN ?_ _ | refine blk_drew ?_ | refine blk_alloc ?_ _)); exact BK180.out)) : gb188 ≠ gb180)); clear HO175; clear HO178; clear HO183; clear HO186; clear BK180; clear HB; have HO175 := n0_; have HO178 := n1_; have HO183 := n2_; have HO186 := n3_; have BK180 := n4_; have HB := n5_; have BK188 := n6_; have GW188 := n7_; have GE188 := n8_; have NB180_188 := n9_; have NB188_180 := n10_; clear n0_ n1_ n2_ n3_ n4_ n5_ n6_ n7_ n8_ n9_ n10_; clear hb hbox hg; obtain ⟨Ao26, co26, eo26⟩ := Kd.R_slice HO183.out; subst eo26; have hnb27 := NB188_180.out; have hnc27 := NB180_188.out; have hcz28_0 : w25.cell? ⟨gb188, 0, none⟩ = some (.slice none 0 0) := (blk_cell BK188.out 0).trans rfl; have hcz28_1 : w25.cell? ⟨gb188, 1, none⟩ = some (.slice none 0 0) := (blk_cell BK188.out 1).trans rfl; have hfz28_0 := blk_frozen BK188.out 0; have hfz28_1 := blk_frozen BK188.out 1; obtain ⟨Ao29, co29, eo29⟩ := Kd.R_slice HO186.out; subst eo29; have hcz30_0 : w25.cell? ⟨gb180, 0, none⟩ = some (.slice Ao21 t173.length co21) := (blk_cell BK180.out 0).trans rfl; have hcz30_1 : w25.cell? ⟨gb180, 1, none⟩ = some (.slice Ao23 t176.length co23) := (blk_cell BK180.out 1).trans rfl; have hfz30_0 := blk_frozen BK180.out 0; have hfz30_1 := blk_frozen BK180.out 1) | ((with_reducible refine gate_callee (f := 51) rfl ?_); refine goesL_ (some 52) rfl rfl Try.func51 (by kernel_rfl) rfl #[.agg #[.slice Ao21 t173.length co21, .slice Ao23 t176.length co23], .agg #[.slice Ao26 t181.length co26, .slice Ao29 t184.length co29]] rfl (by (try simp only [List.map_toArray, List.map_cons, List.map_nil]); first | done | rfl | (simp only [List.length_drop, List.length_take]; rfl)) ?_; (with_reducible refine (box_Meet.calls _ _ t173 _ _ t176 _ _ t181 _ _ t184 t189 t192 t195 _ ?side1 ?side2 ?side3 ?side4 ?side5 ?side6 ?side7 ?side8 A15.out).mono ?_); (case side1 => refine (Kd.R_reads' (e := 30) (base := w.heap.size) (ok := fun k_ => ((some k_ ≠ (.slice Ao23 t176.length co23 : Value).ownBlock ∧ some k_ ≠ (.slice Ao26 t181.length co26 : Value).ownBlock) ∧ some k_ ≠ (.slice Ao29 t184.length co29 : Value).ownBlock)) (n := t173.length) (c := co21) ?_).2.2; exact (by (with_reducible repeat (first | apply Kd.R_alloc | apply Kd.R_drewN | apply Kd.R_drew)); exact (Kd.R_mono (Kd.R_far (p := ⟨gb188, 1, none⟩) (Kd.R_far (p := ⟨gb188, 0, none⟩) (Kd.R_types HO175.out BK188.out (by decide)) (fun _ hk => hk.2) (.slice Ao26 t181.length co26)) (fun _ hk => hk.2) (.slice Ao29 t184.length co29)) (fun _ h_ => h_.1)))); (case side2 => exact (Kd.R_reads' HO175.out).2.1); (case side3 => refine (Kd.R_reads' (e := 30) (base := w.heap.size) (ok := fun k_ => ((some k_ ≠ (.slice Ao21 t173.length co21 : Value).ownBlock ∧ some k_ ≠ (.slice Ao26 t181.length co26 : Value).ownBlock) ∧ some k_ ≠ (.slice Ao29 t184.length co29 : Value).ownBlock)) (n := t176.length) (c := co23) ?_).2.2; exact (by (with_reducible repeat (first | apply Kd.R_alloc | apply Kd.R_drewN | apply Kd.R_drew)); exact (Kd.R_mono (Kd.R_far (p := ⟨gb188, 1, none⟩) (Kd.R_far (p := ⟨gb188, 0, none⟩) (Kd.R_types HO178.out BK188.out (by decide)) (fun _ hk => hk.2) (.slice Ao26 t181.length co26)) (fun _ hk => hk.2) (.slice Ao29 t184.length co29)) (fun _ h_ => h_.1)))); (case side4 => exact (Kd.R_reads' HO178.out).2.1); (case side5 => refine (Kd.R_reads' (e := 30) (base := w.heap.size) (ok := fun k_ => ((some k_ ≠ (.slice Ao29 t184.length co29 : Value).ownBlock ∧ some k_ ≠ (.slice Ao21 t173.length co21 : Value).ownBlock) ∧ some k_ ≠ (.slice Ao23 t176.length co23 : Value).ownBlock)) (n := t181.length) (c := co26) ?_).2.2; exact (by (with_reducible repeat (first | apply Kd.R_alloc | apply Kd.R_drewN | apply Kd.R_drew)); exact (Kd.R_mono (Kd.R_far (p := ⟨gb188, 1, none⟩) (Kd.R_far (p := ⟨gb188, 0, none⟩) (Kd.R_types HO183.out BK188.out (by decide)) (fun _ hk => hk.2) (.slice Ao26 t181.length co26)) (fun _ hk => hk.2) (.slice Ao29 t184.length co29)) (fun _ h_ => h_.1)))); (case side6 => exact (Kd.R_reads' HO183.out).2.1); (case side7 => refine (Kd.R_reads' (e := 30) (base := w.heap.size) (ok := fun k_ => ((some k_ ≠ (.slice Ao26 t181.length co26 : Value).ownBlock ∧ some k_ ≠ (.slice Ao21 t173.length co21 : Value).ownBlock) ∧ some k_ ≠ (.slice Ao23 t176.length co23 : Value).ownBlock)) (n := t184.length) (c := co29) ?_).2.2; exact (by (with_reducible repeat (first | apply Kd.R_alloc | apply Kd.R_drewN | apply Kd.R_drew)); exact (Kd.R_mono (Kd.R_far (p := ⟨gb188, 1, none⟩) (Kd.R_far (p := ⟨gb188, 0, none⟩) (Kd.R_types HO186.out BK188.out (by decide)) (fun _ hk => hk.2) (.slice Ao26 t181.length co26)) (fun _ hk => hk.2) (.slice Ao29 t184.length co29)) (fun _ h_ => h_.1)))); (case side8 => exact (Kd.R_reads' HO186.out).2.1); rintro e w31 ⟨v190, v193, rfl, ho0, ho1, hb⟩; refine ⟨_, rfl, ?_⟩; have n0_ := Aside0.mk (Kd.R_mono (Kd.R_told (Kd.R_told (Kd.R_old (by (with_reducible repeat (first | apply Kd.R_alloc | apply Kd.R_drewN | apply Kd.R_drew)); exact (Kd.R_mono (Kd.R_far (p := ⟨gb188, 1, none⟩) (Kd.R_far (p := ⟨gb188, 0, none⟩) (Kd.R_types HO175.out BK188.out (by decide)) (fun _ hk => hk.2) (.slice Ao26 t181.length co26)) (fun _ hk => hk.2) (.slice Ao29 t184.length co29)) (fun _ h_ => h_.1))) hb) (Kd.R_base ho0)) (Kd.R_base ho1)) (fun _ h_ => h_.1)); have n1_ := Aside0.mk (Kd.R_mono (Kd.R_told (Kd.R_told (Kd.R_old (by (with_reducible repeat (first | apply Kd.R_alloc | apply Kd.R_drewN | apply Kd.R_drew)); exact (Kd.R_mono (Kd.R_far (p := ⟨gb188, 1, none⟩) (Kd.R_far (p := ⟨gb188, 0, none⟩) (Kd.R_types HO178.out BK188.out (by decide)) (fun _ hk => hk.2) (.slice Ao26 t181.length co26)) (fun _ hk => hk.2) (.slice Ao29 t184.length co29)) (fun _ h_ => h_.1))) hb) (Kd.R_base ho0)) (Kd.R_base ho1)) (fun _ h_ => h_.1)); have n2_ := Aside0.mk (Kd.R_mono (Kd.R_told (Kd.R_told (Kd.R_old (by (with_reducible repeat (first | apply Kd.R_alloc | apply Kd.R_drewN | apply Kd.R_drew)); exact (Kd.R_mono (Kd.R_far (p := ⟨gb188, 1, none⟩) (Kd.R_far (p := ⟨gb188, 0, none⟩) (Kd.R_types HO183.out BK188.out (by decide)) (fun _ hk => hk.2) (.slice Ao26 t181.length co26)) (fun _ hk => hk.2) (.slice Ao29 t184.length co29)) (fun _ h_ => h_.1))) hb) (Kd.R_base ho0)) (Kd.R_base ho1)) (fun _ h_ => h_.1)); have n3_ := Aside0.mk (Kd.R_mono (Kd.R_told (Kd.R_told (Kd.R_old (by (with_reducible repeat (first | apply Kd.R_alloc | apply Kd.R_drewN | apply Kd.R_drew)); exact (Kd.R_mono (Kd.R_far (p := ⟨gb188, 1, none⟩) (Kd.R_far (p := ⟨gb188, 0, none⟩) (Kd.R_types HO186.out BK188.out (by decide)) (fun _ hk => hk.2) (.slice Ao26 t181.length co26)) (fun _ hk => hk.2) (.slice Ao29 t184.length co29)) (fun _ h_ => h_.1))) hb) (Kd.R_base ho0)) (Kd.R_base ho1)) (fun _ h_ => h_.1)); have n4_ := Aside0.mk (Kd.R_lower (Kd.R_new' (Kd.R_new' (Kd.R_new' (Kd.R_new' ho0 (Kd.R_lt (by (with_reducible repeat (first | apply Kd.R_alloc | apply Kd.R_drewN | apply Kd.R_drew)); exact (Kd.R_mono (Kd.R_far (p := ⟨gb188, 1, none⟩) (Kd.R_far (p := ⟨gb188, 0, none⟩) (Kd.R_types HO175.out BK188.out (by decide)) (fun _ hk => hk.2) (.slice Ao26 t181.length co26)) (fun _ hk => hk.2) (.slice Ao29 t184.length co29)) (fun _ h_ => h_.1))))) (Kd.R_lt (by (with_reducible repeat (first | apply Kd.R_alloc | apply Kd.R_drewN | apply Kd.R_drew)); exact (Kd.R_mono (Kd.R_far (p := ⟨gb188, 1, none⟩) (Kd.R_far (p := ⟨gb188, 0, none⟩) (Kd.R_types HO178.out BK188.out (by decide)) (fun _ hk => hk.2) (.slice Ao26 t181.length co26)) (fun _ hk => hk.2) (.slice Ao29 t184.length co29)) (fun _ h_ => h_.1))))) (Kd.R_lt (by (with_reducible repeat (first | apply Kd.R_alloc | apply Kd.R_drewN | apply Kd.R_drew)); exact (Kd.R_mono (Kd.R_far (p := ⟨gb188, 1, none⟩) (Kd.R_far (p := ⟨gb188, 0, none⟩) (Kd.R_types HO183.out BK188.out (by decide)) (fun _ hk => hk.2) (.slice Ao26 t181.length co26)) (fun _ hk => hk.2) (.slice Ao29 t184.length co29)) (fun _ h_ => h_.1))))) (Kd.R_lt (by (with_reducible repeat (first | apply Kd.R_alloc | apply Kd.R_drewN | apply Kd.R_drew)); exact (Kd.R_mono (Kd.R_far (p := ⟨gb188, 1, none⟩) (Kd.R_far (p := ⟨gb188, 0, none⟩) (Kd.R_types HO186.out BK188.out (by decide)) (fun _ hk => hk.2) (.slice Ao26 t181.length co26)) (fun _ hk => hk.2) (.slice Ao29 t184.length co29)) (fun _ h_ => h_.1))))) (below_size (by repeat (first | (with_reducible first | exact HB.out | apply below_alloc | apply pw_below_drewN | apply below_drew1 | refine below_set ?_ GE180.out | refine below_set ?_ GE188.out) | exact HB.out)))); have n5_ := Aside0.mk (Kd.R_lower (Kd.R_new' (Kd.R_new' (Kd.R_new' (Kd.R_new' ho1 (Kd.R_lt (by (with_reducible repeat (first | apply Kd.R_alloc | apply Kd.R_drewN | apply Kd.R_drew)); exact (Kd.R_mono (Kd.R_far (p := ⟨gb188, 1, none⟩) (Kd.R_far (p := ⟨gb188, 0, none⟩) (Kd.R_types HO175.out BK188.out (by decide)) (fun _ hk => hk.2) (.slice Ao26 t181.length co26)) (fun _ hk => hk.2) (.slice Ao29 t184.length co29)) (fun _ h_ => h_.1))))) (Kd.R_lt (by (with_reducible repeat (first | apply Kd.R_alloc | apply Kd.R_drewN | apply Kd.R_drew)); exact (Kd.R_mono (Kd.R_far (p := ⟨gb188, 1, none⟩) (Kd.R_far (p := ⟨gb188, 0, none⟩) (Kd.R_types HO178.out BK188.out (by decide)) (fun _ hk => hk.2) (.slice Ao26 t181.length co26)) (fun _ hk => hk.2) (.slice Ao29 t184.length co29)) (fun _ h_ => h_.1))))) (Kd.R_lt (by (with_reducible repeat (first | apply Kd.R_alloc | apply Kd.R_drewN | apply Kd.R_drew)); exact (Kd.R_mono (Kd.R_far (p := ⟨gb188, 1, none⟩) (Kd.R_far (p := ⟨gb188, 0, none⟩) (Kd.R_types HO183.out BK188.out (by decide)) (fun _ hk => hk.2) (.slice Ao26 t181.length co26)) (fun _ hk => hk.2) (.slice Ao29 t184.length co29)) (fun _ h_ => h_.1))))) (Kd.R_lt (by (with_reducible repeat (first | apply Kd.R_alloc | apply Kd.R_drewN | apply Kd.R_drew)); exact (Kd.R_mono (Kd.R_far (p := ⟨gb188, 1, none⟩) (Kd.R_far (p := ⟨gb188, 0, none⟩) (Kd.R_types HO186.out BK188.out (by decide)) (fun _ hk => hk.2) (.slice Ao26 t181.length co26)) (fun _ hk => hk.2) (.slice Ao29 t184.length co29)) (fun _ h_ => h_.1))))) (below_size (by repeat (first | (with_reducible first | exact HB.out | apply below_alloc | apply pw_below_drewN | apply below_drew1 | refine below_set ?_ GE180.out | refine below_set ?_ GE188.out) | exact HB.out)))); have n6_ := Aside0.mk (blk_below (g := gb180) (o := .cells #[.slice Ao21 t173.length co21, .slice Ao23 t176.length co23] 32 (0, 0)) (by (with_reducible repeat (first | refine blk_drewN ?_ _ | refine blk_drew ?_ | refine blk_alloc ?_ _)); refine blk_far ?_ NB180_188.out _; (with_reducible repeat (first | refine blk_drewN ?_ _ | refine blk_drew ?_ | refine blk_alloc ?_ _)); refine blk_far ?_ NB180_188.out _; (with_reducible repeat (first | refine blk_drewN ?_ _ | refine blk_drew ?_ | refine blk_alloc ?_ _)); exact BK180.out) hb); have n7_ := Aside0.mk (blk_below (g := gb188) (o := .cells #[.slice Ao26 t181.length co26, .slice Ao29 t184.length co29] 32 (0, 0)) (by (with_reducible repeat (first | refine blk_drewN ?_ _ | refine blk_drew ?_ | refine blk_alloc ?_ _)); refine blk_put (cs := #[.slice Ao26 t181.length co26, .slice none 0 0]) ?_ 1 _ rfl; (with_reducible repeat (first | refine blk_drewN ?_ _ | refine blk_drew ?_ | refine blk_alloc ?_ _)); refine blk_put (cs := #[.slice none 0 0, .slice none 0 0]) ?_ 0 _ rfl; (with_reducible repeat (first | refine blk_drewN ?_ _ | refine blk_drew ?_ | refine blk_alloc ?_ _)); exact BK188.out) hb); have n8_ := Aside0.mk (below_step (by repeat (first | (with_reducible first | exact HB.out | apply below_alloc | apply pw_below_drewN | apply below_drew1 | refine below_set ?_ GE180.out | refine below_set ?_ GE188.out) | exact HB.out)) hb); clear HO175; clear HO178; clear HO183; clear HO186; clear BK180; clear BK188; clear HB; have HO175 := n0_; have HO178 := n1_; have HO183 := n2_; have HO186 := n3_; have HO191 := n4_; have HO194 := n5_; have BK180 := n6_; have BK188 := n7_; have HB := n8_; clear n0_ n1_ n2_ n3_ n4_ n5_ n6_ n7_ n8_; (try clear hb); (try clear hb2); (try clear hk); (try clear hi); (try clear ho0); (try clear ho1)) | ((with_reducible refine gate_dst (N := 11) rfl ?_); refine box_event ?hg (N := 11) ?hd (cs := #[.slice none 0 0, .slice none 0 0]) (t := 32) ?hr ?_; (case hd => rfl); (case hg => rfl); (case hr => first | (go_simp; done) | (go_simp; rfl)); intro gb196 hg w32 hbox hb; have n0_ := Aside0.mk (Kd.R_below (by (with_reducible repeat (first | apply Kd.R_alloc | apply Kd.R_drewN | apply Kd.R_drew)); exact HO175.out) hb); have n1_ := Aside0.mk (Kd.R_below (by (with_reducible repeat (first | apply Kd.R_alloc | apply Kd.R_drewN | apply Kd.R_drew)); exact HO178.out) hb); have n2_ := Aside0.mk (Kd.R_below (by (with_reducible repeat (first | apply Kd.R_alloc | apply Kd.R_drewN | apply Kd.R_drew)); exact HO183.out) hb); have n3_ := Aside0.mk (Kd.R_below (by (with_reducible repeat (first | apply Kd.R_alloc | apply Kd.R_drewN | apply Kd.R_drew)); exact HO186.out) hb); have n4_ := Aside0.mk (Kd.R_below (by (with_reducible repeat (first | apply Kd.R_alloc | apply Kd.R_drewN | apply Kd.R_drew)); exact HO191.out) hb); have n5_ := Aside0.mk (Kd.R_below (by (with_reducible repeat (first | apply Kd.R_alloc | apply Kd.R_drewN | apply Kd.R_drew)); exact HO194.out) hb); have n6_ := Aside0.mk (blk_below (g := gb180) (o := .cells #[.slice Ao21 t173.length co21, .slice Ao23 t176.length co23] 32 (0, 0)) (by (with_reducible repeat (first | refine blk_drewN ?_ _ | refine blk_drew ?_ | refine blk_alloc ?_ _)); exact BK180.out) hb); have n7_ := Aside0.mk (blk_below (g := gb188) (o := .cells #[.slice Ao26 t181.length co26, .slice Ao29 t184.length co29] 32 (0, 0)) (by (with_reducible repeat (first | refine blk_drewN ?_ _ | refine blk_drew ?_ | refine blk_alloc ?_ _)); exact BK188.out) hb); have n8_ := Aside0.mk (below_step (by repeat (first | (with_reducible first | exact HB.out | apply below_alloc | apply pw_below_drewN | apply below_drew1 | refine below_set ?_ GE180.out | refine below_set ?_ GE188.out) | exact HB.out)) hb); have n9_ := Aside0.mk (hbox); have n10_ := Aside0.mk ((by rw [hg]; exact (below_size (by repeat (first | (with_reducible first | exact HB.out | apply below_alloc | apply pw_below_drewN | apply below_drew1 | refine below_set ?_ GE180.out | refine below_set ?_ GE188.out) | exact HB.out))) : w.heap.size ≤ gb196)); have n11_ := Aside0.mk ((by rw [hg]; exact (below_size (by repeat (first | (with_reducible first | exact HB.out | apply below_alloc | apply pw_below_drewN | apply below_drew1 | refine below_set ?_ GE180.out | refine below_set ?_ GE188.out) | exact HB.out))) : w.heap.size ≤ gb196)); have n12_ := Aside0.mk ((by rw [hg]; exact Nat.ne_of_lt (blk_lt (g := gb180) (o := .cells #[.slice Ao21 t173.length co21, .slice Ao23 t176.length co23] 32 (0, 0)) (by (with_reducible repeat (first | refine blk_drewN ?_ _ | refine blk_drew ?_ | refine blk_alloc ?_ _)); exact BK180.out)) : gb180 ≠ gb196)); have n13_ := Aside0.mk ((by rw [hg]; exact Nat.ne_of_gt (blk_lt (g := gb180) (o := .cells #[.slice Ao21 t173.length co21, .slice Ao23 t176.length co23] 32 (0, 0)) (by (with_reducible repeat (first | refine blk_drewN ?_ _ | refine blk_drew ?_ | refine blk_alloc ?_ _)); exact BK180.out)) : gb196 ≠ gb180)); have n14_ := Aside0.mk ((by rw [hg]; exact Nat.ne_of_lt (blk_lt (g := gb188) (o := .cells #[.slice Ao26 t181.length co26, .slice Ao29 t184.length co29] 32 (0, 0)) (by (with_reducible repeat (first | refine blk_drewN ?_ _ | refine blk_drew ?_ | refine blk_alloc ?_ _)); exact BK188.out)) : gb188 ≠ gb196)); have n15_ := Aside0.mk ((by rw [hg]; exact Nat.ne_of_gt (blk_lt (g := gb188) (o := .cells #[.slice Ao26 t181.length co26, .slice Ao29 t184.length co29] 32 (0, 0)) (by (with_reducible repeat (first | refine blk_drewN ?_ _ | refine blk_drew ?_ | refine blk_alloc ?_ _)); exact BK188.out)) : gb196 ≠ gb188)); clear HO175; clear HO178; clear HO183; clear HO186; clear HO191; clear HO194; clear BK180; clear BK188; clear HB; have HO175 := n0_; have HO178 := n1_; have HO183 := n2_; have HO186 := n3_; have HO191 := n4_; have HO194 := n5_; have BK180 := n6_; have BK188 := n7_; have HB := n8_; have BK196 := n9_; have GW196 := n10_; have GE196 := n11_; have NB180_196 := n12_; have NB196_180 := n13_; have NB188_196 := n14_; have NB196_188 := n15_; clear n0_ n1_ n2_ n3_ n4_ n5_ n6_ n7_ n8_ n9_ n10_ n11_ n12_ n13_ n14_ n15_; clear hb hbox hg; obtain ⟨Ao33, co33, eo33⟩ := Kd.R_slice HO191.out; subst eo33; have hnb34 := NB196_180.out; have hnc34 := NB180_196.out; have hnb35 := NB196_188.out; have hnc35 := NB188_196.out; have hcz36_0 : w32.cell? ⟨gb196, 0, none⟩ = some (.slice none 0 0) := (blk_cell BK196.out 0).trans rfl; have hcz36_1 : w32.cell? ⟨gb196, 1, none⟩ = some (.slice none 0 0) := (blk_cell BK196.out 1).trans rfl; have hfz36_0 := blk_frozen BK196.out 0; have hfz36_1 := blk_frozen BK196.out 1; obtain ⟨Ao37, co37, eo37⟩ := Kd.R_slice HO194.out; subst eo37; have hcz38_0 : w32.cell? ⟨gb180, 0, none⟩ = some (.slice Ao21 t173.length co21) := (blk_cell BK180.out 0).trans rfl; have hcz38_1 : w32.cell? ⟨gb180, 1, none⟩ = some (.slice Ao23 t176.length co23) := (blk_cell BK180.out 1).trans rfl; have hfz38_0 := blk_frozen BK180.out 0; have hfz38_1 := blk_frozen BK180.out 1) | ((with_reducible refine gate_callee (f := 52) rfl ?_); refine goesL_ (some 57) rfl rfl Try.func52 (by kernel_rfl) rfl #[.agg #[.slice Ao21 t173.length co21, .slice Ao23 t176.length co23]] rfl (by (try simp only [List.map_toArray, List.map_cons, List.map_nil]); first | done | rfl | (simp only [List.length_drop, List.length_take]; rfl)) ?_; (with_reducible refine (box_Volume.calls kj5 _ _ t173 _ _ t176 t197 t198 _ ?side1 ?side2 ?side3 ?side4 A16.out).mono ?_); (case side1 => refine (Kd.R_reads' (e := 30) (base := w.heap.size) (ok := fun k_ => ((((some k_ ≠ (.slice Ao23 t176.length co23 : Value).ownBlock ∧ some k_ ≠ (.slice Ao26 t181.length co26 : Value).ownBlock) ∧ some k_ ≠ (.slice Ao29 t184.length co29 : Value).ownBlock) ∧ some k_ ≠ (.slice Ao33 t189.length co33 : Value).ownBlock) ∧ some k_ ≠ (.slice Ao37 t192.length co37 : Value).ownBlock)) (n := t173.length) (c := co21) ?_).2.2; exact (by (with_reducible repeat (first | apply Kd.R_alloc | apply Kd.R_drewN | apply Kd.R_drew)); exact (Kd.R_mono (Kd.R_far (p := ⟨gb196, 1, none⟩) (Kd.R_far (p := ⟨gb196, 0, none⟩) (Kd.R_types HO175.out BK196.out (by decide)) (fun _ hk => hk.2) (.slice Ao33 t189.length co33)) (fun _ hk => hk.2) (.slice Ao37 t192.length co37)) (fun _ h_ => h_.1)))); (case side2 => exact (Kd.R_reads' HO175.out).2.1); (case side3 => refine (Kd.R_reads' (e := 30) (base := w.heap.size) (ok := fun k_ => ((((some k_ ≠ (.slice Ao21 t173.length co21 : Value).ownBlock ∧ some k_ ≠ (.slice Ao26 t181.length co26 : Value).ownBlock) ∧ some k_ ≠ (.slice Ao29 t184.length co29 : Value).ownBlock) ∧ some k_ ≠ (.slice Ao33 t189.length co33 : Value).ownBlock) ∧ some k_ ≠ (.slice Ao37 t192.length co37 : Value).ownBlock)) (n := t176.length) (c := co23) ?_).2.2; exact (by (with_reducible repeat (first | apply Kd.R_alloc | apply Kd.R_drewN | apply Kd.R_drew)); exact (Kd.R_mono (Kd.R_far (p := ⟨gb196, 1, none⟩) (Kd.R_far (p := ⟨gb196, 0, none⟩) (Kd.R_types HO178.out BK196.out (by decide)) (fun _ hk => hk.2) (.slice Ao33 t189.length co33)) (fun _ hk => hk.2) (.slice Ao37 t192.length co37)) (fun _ h_ => h_.1)))); (case side4 => exact (Kd.R_reads' HO178.out).2.1); rintro e w39 ⟨rfl, hb⟩; refine ⟨_, rfl, ?_⟩; have n0_ := Aside0.mk (Kd.R_below (by (with_reducible repeat (first | apply Kd.R_alloc | apply Kd.R_drewN | apply Kd.R_drew)); exact (Kd.R_mono (Kd.R_far (p := ⟨gb196, 1, none⟩) (Kd.R_far (p := ⟨gb196, 0, none⟩) (Kd.R_types HO175.out BK196.out (by decide)) (fun _ hk => hk.2) (.slice Ao33 t189.length co33)) (fun _ hk => hk.2) (.slice Ao37 t192.length co37)) (fun _ h_ => h_.1))) hb); have n1_ := Aside0.mk (Kd.R_below (by (with_reducible repeat (first | apply Kd.R_alloc | apply Kd.R_drewN | apply Kd.R_drew)); exact (Kd.R_mono (Kd.R_far (p := ⟨gb196, 1, none⟩) (Kd.R_far (p := ⟨gb196, 0, none⟩) (Kd.R_types HO178.out BK196.out (by decide)) (fun _ hk => hk.2) (.slice Ao33 t189.length co33)) (fun _ hk => hk.2) (.slice Ao37 t192.length co37)) (fun _ h_ => h_.1))) hb); have n2_ := Aside0.mk (Kd.R_below (by (with_reducible repeat (first | apply Kd.R_alloc | apply Kd.R_drewN | apply Kd.R_drew)); exact (Kd.R_mono (Kd.R_far (p := ⟨gb196, 1, none⟩) (Kd.R_far (p := ⟨gb196, 0, none⟩) (Kd.R_types HO183.out BK196.out (by decide)) (fun _ hk => hk.2) (.slice Ao33 t189.length co33)) (fun _ hk => hk.2) (.slice Ao37 t192.length co37)) (fun _ h_ => h_.1))) hb); have n3_ := Aside0.mk (Kd.R_below (by (with_reducible repeat (first | apply Kd.R_alloc | apply Kd.R_drewN | apply Kd.R_drew)); exact (Kd.R_mono (Kd.R_far (p := ⟨gb196, 1, none⟩) (Kd.R_far (p := ⟨gb196, 0, none⟩) (Kd.R_types HO186.out BK196.out (by decide)) (fun _ hk => hk.2) (.slice Ao33 t189.length co33)) (fun _ hk => hk.2) (.slice Ao37 t192.length co37)) (fun _ h_ => h_.1))) hb); have n4_ := Aside0.mk (Kd.R_below (by (with_reducible repeat (first | apply Kd.R_alloc | apply Kd.R_drewN | apply Kd.R_drew)); exact (Kd.R_mono (Kd.R_far (p := ⟨gb196, 1, none⟩) (Kd.R_far (p := ⟨gb196, 0, none⟩) (Kd.R_types HO191.out BK196.out (by decide)) (fun _ hk => hk.2) (.slice Ao33 t189.length co33)) (fun _ hk => hk.2) (.slice Ao37 t192.length co37)) (fun _ h_ => h_.1))) hb); have n5_ := Aside0.mk (Kd.R_below (by (with_reducible repeat (first | apply Kd.R_alloc | apply Kd.R_drewN | apply Kd.R_drew)); exact (Kd.R_mono (Kd.R_far (p := ⟨gb196, 1, none⟩) (Kd.R_far (p := ⟨gb196, 0, none⟩) (Kd.R_types HO194.out BK196.out (by decide)) (fun _ hk => hk.2) (.slice Ao33 t189.length co33)) (fun _ hk => hk.2) (.slice Ao37 t192.length co37)) (fun _ h_ => h_.1))) hb); have n6_ := Aside0.mk (blk_below (g := gb180) (o := .cells #[.slice Ao21 t173.length co21, .slice Ao23 t176.length co23] 32 (0, 0)) (by (with_reducible repeat (first | refine blk_drewN ?_ _ | refine blk_drew ?_ | refine blk_alloc ?_ _)); refine blk_far ?_ NB180_196.out _; (with_reducible repeat (first | refine blk_drewN ?_ _ | refine blk_drew ?_ | refine blk_alloc ?_ _)); refine blk_far ?_ NB180_196.out _; (with_reducible repeat (first | refine blk_drewN ?_ _ | refine blk_drew ?_ | refine blk_alloc ?_ _)); exact BK180.out) hb); have n7_ := Aside0.mk (blk_below (g := gb188) (o := .cells #[.slice Ao26 t181.length co26, .slice Ao29 t184.length co29] 32 (0, 0)) (by (with_reducible repeat (first | refine blk_drewN ?_ _ | refine blk_drew ?_ | refine blk_alloc ?_ _)); refine blk_far ?_ NB188_196.out _; (with_reducible repeat (first | refine blk_drewN ?_ _ | refine blk_drew ?_ | refine blk_alloc ?_ _)); refine blk_far ?_ NB188_196.out _; (with_reducible repeat (first | refine blk_drewN ?_ _ | refine blk_drew ?_ | refine blk_alloc ?_ _)); exact BK188.out) hb); have n8_ := Aside0.mk (blk_below (g := gb196) (o := .cells #[.slice Ao33 t189.length co33, .slice Ao37 t192.length co37] 32 (0, 0)) (by (with_reducible repeat (first | refine blk_drewN ?_ _ | refine blk_drew ?_ | refine blk_alloc ?_ _)); refine blk_put (cs := #[.slice Ao33 t189.length co33, .slice none 0 0]) ?_ 1 _ rfl; (with_reducible repeat (first | refine blk_drewN ?_ _ | refine blk_drew ?_ | refine blk_alloc ?_ _)); refine blk_put (cs := #[.slice none 0 0, .slice none 0 0]) ?_ 0 _ rfl; (with_reducible repeat (first | refine blk_drewN ?_ _ | refine blk_drew ?_ | refine blk_alloc ?_ _)); exact BK196.out) hb); have n9_ := Aside0.mk (below_step (by repeat (first | (with_reducible first | exact HB.out | apply below_alloc | apply pw_below_drewN | apply below_drew1 | refine below_set ?_ GE180.out | refine below_set ?_ GE188.out | refine below_set ?_ GE196.out) | exact HB.out)) hb); clear HO175; clear HO178; clear HO183; clear HO186; clear HO191; clear HO194; clear BK180; clear BK188; clear BK196; clear HB; have HO175 := n0_; have HO178 := n1_; have HO183 := n2_; have HO186 := n3_; have HO191 := n4_; have HO194 := n5_; have BK180 := n6_; have BK188 := n7_; have BK196 := n8_; have HB := n9_; clear n0_ n1_ n2_ n3_ n4_ n5_ n6_ n7_ n8_ n9_; (try clear hb); (try clear hb2); (try clear hk); (try clear hi); have hcz40_0 : w39.cell? ⟨gb188, 0, none⟩ = some (.slice Ao26 t181.length co26) := (blk_cell BK188.out 0).trans rfl; have hcz40_1 : w39.cell? ⟨gb188, 1, none⟩ = some (.slice Ao29 t184.length co29) := (blk_cell BK188.out 1).trans rfl; have hfz40_0 := blk_frozen BK188.out 0; have hfz40_1 := blk_frozen BK188.out 1) | ((with_reducible refine gate_callee (f := 52) rfl ?_); refine goesL_ (some 62) rfl rfl Try.func52 (by kernel_rfl) rfl #[.agg #[.slice Ao26 t181.length co26, .slice Ao29 t184.length co29]] rfl (by (try simp only [List.map_toArray, List.map_cons, List.map_nil]); first | done | rfl | (simp only [List.length_drop, List.length_take]; rfl)) ?_; (with_reducible refine (box_Volume.calls kj5 _ _ t181 _ _ t184 t199 t200 _ ?side1 ?side2 ?side3 ?side4 A17.out).mono ?_); (case side1 => repeat (first | exact (Kd.R_reads' HO183.out).2.2 | (with_reducible refine Kd.C_alloc ?_ _) | (with_reducible refine Kd.C_drewN ?_ _) | (with_reducible refine Kd.C_drew ?_))); (case side2 => exact (Kd.R_reads' HO183.out).2.1); (case side3 => repeat (first | exact (Kd.R_reads' HO186.out).2.2 | (with_reducible refine Kd.C_alloc ?_ _) | (with_reducible refine Kd.C_drewN ?_ _) | (with_reducible refine Kd.C_drew ?_))); (case side4 => exact (Kd.R_reads' HO186.out).2.1); rintro e w41 ⟨rfl, hb⟩; refine ⟨_, rfl, ?_⟩; have n0_ := Aside0.mk (Kd.R_below (by (with_reducible repeat (first | apply Kd.R_alloc | apply Kd.R_drewN | apply Kd.R_drew)); exact HO175.out) hb); have n1_ := Aside0.mk (Kd.R_below (by (with_reducible repeat (first | apply Kd.R_alloc | apply Kd.R_drewN | apply Kd.R_drew)); exact HO178.out) hb); have n2_ := Aside0.mk (Kd.R_below (by (with_reducible repeat (first | apply Kd.R_alloc | apply Kd.R_drewN | apply Kd.R_drew)); exact HO183.out) hb); have n3_ := Aside0.mk (Kd.R_below (by (with_reducible repeat (first | apply Kd.R_alloc | apply Kd.R_drewN | apply Kd.R_drew)); exact HO186.out) hb); have n4_ := Aside0.mk (Kd.R_below (by (with_reducible repeat (first | apply Kd.R_alloc | apply Kd.R_drewN | apply Kd.R_drew)); exact HO191.out) hb); have n5_ := Aside0.mk (Kd.R_below (by (with_reducible repeat (first | apply Kd.R_alloc | apply Kd.R_drewN | apply Kd.R_drew)); exact HO194.out) hb); have n6_ := Aside0.mk (blk_below (g := gb180) (o := .cells #[.slice Ao21 t173.length co21, .slice Ao23 t176.length co23] 32 (0, 0)) (by (with_reducible repeat (first | refine blk_drewN ?_ _ | refine blk_drew ?_ | refine blk_alloc ?_ _)); exact BK180.out) hb); have n7_ := Aside0.mk (blk_below (g := gb188) (o := .cells #[.slice Ao26 t181.length co26, .slice Ao29 t184.length co29] 32 (0, 0)) (by (with_reducible repeat (first | refine blk_drewN ?_ _ | refine blk_drew ?_ | refine blk_alloc ?_ _)); exact BK188.out) hb); have n8_ := Aside0.mk (blk_below (g := gb196) (o := .cells #[.slice Ao33 t189.length co33, .slice Ao37 t192.length co37] 32 (0, 0)) (by (with_reducible repeat (first | refine blk_drewN ?_ _ | refine blk_drew ?_ | refine blk_alloc ?_ _)); exact BK196.out) hb); have n9_ := Aside0.mk (below_step (by repeat (first | (with_reducible first | exact HB.out | apply below_alloc | apply pw_below_drewN | apply below_drew1 | refine below_set ?_ GE180.out | refine below_set ?_ GE188.out | refine below_set ?_ GE196.out) | exact HB.out)) hb); clear HO175; clear HO178; clear HO183; clear HO186; clear HO191; clear HO194; clear BK180; clear BK188; clear BK196; clear HB; have HO175 := n0_; have HO178 := n1_; have HO183 := n2_; have HO186 := n3_; have HO191 := n4_; have HO194 := n5_; have BK180 := n6_; have BK188 := n7_; have BK196 := n8_; have HB := n9_; clear n0_ n1_ n2_ n3_ n4_ n5_ n6_ n7_ n8_ n9_; (try clear hb); (try clear hb2); (try clear hk); (try clear hi)))
          (try simp only [Act.put, List.setIfInBounds_toArray, List.set_cons_zero, List.set_cons_succ])
          go_cut [88] (fun v88 wc => ∃ (kq : Nat) (x88_17 : Bool), v88 = .bool x88_17 ∧ Aside0 (pantilelaw03_BoxNest.j1 kq l0 a1 a2 t197 t199 x88_17 = some r) ∧ Aside0 (kq ≤ kj5) ∧ Aside0 (Kd.R (Kd.int .u64) 30 wc w.heap.size (fun k_ => some k_ ≠ ((.slice Ao23 t176.length co23) : Value).ownBlock ∧ some k_ ≠ ((.slice Ao26 t181.length co26) : Value).ownBlock ∧ some k_ ≠ ((.slice Ao29 t184.length co29) : Value).ownBlock ∧ some k_ ≠ ((.slice Ao33 t189.length co33) : Value).ownBlock ∧ some k_ ≠ ((.slice Ao37 t192.length co37) : Value).ownBlock) (.slice Ao21 t173.length co21) t173) ∧ Aside0 (Kd.R (Kd.int .u64) 30 wc w.heap.size (fun k_ => some k_ ≠ ((.slice Ao21 t173.length co21) : Value).ownBlock ∧ some k_ ≠ ((.slice Ao26 t181.length co26) : Value).ownBlock ∧ some k_ ≠ ((.slice Ao29 t184.length co29) : Value).ownBlock ∧ some k_ ≠ ((.slice Ao33 t189.length co33) : Value).ownBlock ∧ some k_ ≠ ((.slice Ao37 t192.length co37) : Value).ownBlock) (.slice Ao23 t176.length co23) t176) ∧ Aside0 (Kd.R (Kd.int .u64) 30 wc w.heap.size (fun k_ => some k_ ≠ ((.slice Ao21 t173.length co21) : Value).ownBlock ∧ some k_ ≠ ((.slice Ao23 t176.length co23) : Value).ownBlock ∧ some k_ ≠ ((.slice Ao29 t184.length co29) : Value).ownBlock ∧ some k_ ≠ ((.slice Ao33 t189.length co33) : Value).ownBlock ∧ some k_ ≠ ((.slice Ao37 t192.length co37) : Value).ownBlock) (.slice Ao26 t181.length co26) t181) ∧ Aside0 (Kd.R (Kd.int .u64) 30 wc w.heap.size (fun k_ => some k_ ≠ ((.slice Ao21 t173.length co21) : Value).ownBlock ∧ some k_ ≠ ((.slice Ao23 t176.length co23) : Value).ownBlock ∧ some k_ ≠ ((.slice Ao26 t181.length co26) : Value).ownBlock ∧ some k_ ≠ ((.slice Ao33 t189.length co33) : Value).ownBlock ∧ some k_ ≠ ((.slice Ao37 t192.length co37) : Value).ownBlock) (.slice Ao29 t184.length co29) t184) ∧ Aside0 (Kd.R (Kd.int .u64) 30 wc w.heap.size (fun k_ => some k_ ≠ ((.slice Ao21 t173.length co21) : Value).ownBlock ∧ some k_ ≠ ((.slice Ao23 t176.length co23) : Value).ownBlock ∧ some k_ ≠ ((.slice Ao26 t181.length co26) : Value).ownBlock ∧ some k_ ≠ ((.slice Ao29 t184.length co29) : Value).ownBlock ∧ some k_ ≠ ((.slice Ao37 t192.length co37) : Value).ownBlock) (.slice Ao33 t189.length co33) t189) ∧ Aside0 (Kd.R (Kd.int .u64) 30 wc w.heap.size (fun k_ => some k_ ≠ ((.slice Ao21 t173.length co21) : Value).ownBlock ∧ some k_ ≠ ((.slice Ao23 t176.length co23) : Value).ownBlock ∧ some k_ ≠ ((.slice Ao26 t181.length co26) : Value).ownBlock ∧ some k_ ≠ ((.slice Ao29 t184.length co29) : Value).ownBlock ∧ some k_ ≠ ((.slice Ao33 t189.length co33) : Value).ownBlock) (.slice Ao37 t192.length co37) t192) ∧ Aside0 (wc.heap[gb180]? = some (.cells #[(.slice Ao21 t173.length co21), (.slice Ao23 t176.length co23)] 32 (0, 0))) ∧ Aside0 (wc.heap[gb188]? = some (.cells #[(.slice Ao26 t181.length co26), (.slice Ao29 t184.length co29)] 32 (0, 0))) ∧ Aside0 (wc.heap[gb196]? = some (.cells #[(.slice Ao33 t189.length co33), (.slice Ao37 t192.length co37)] 32 (0, 0))) ∧ Aside0 (Below w.heap.size w wc))
          case first =>
            have H := HC18.out
            clear HC18
            by_cases c42 : t179 = 0
            · rw [if_pos c42] at H
              have c42b0 : (t179 == 0) = true := beq_iff_eq.mpr c42
              have c42b1 : (t179 != 0) = false := bne_eq_false_iff_eq.mpr c42
              clear c42
              (first | rw [c42b0] | (simp only [i64_w, i32_w]; rw [c42b0]) | skip)
              by_cases c43 : t187 = 0
              · rw [if_pos c43] at H
                have c43b0 : (t187 == 0) = true := beq_iff_eq.mpr c43
                have c43b1 : (t187 != 0) = false := bne_eq_false_iff_eq.mpr c43
                clear c43
                by_cases c44 : t195 = 0
                · rw [if_pos c44] at H
                  have c44b0 : (t195 == 0) = true := beq_iff_eq.mpr c44
                  have c44b1 : (t195 != 0) = false := bne_eq_false_iff_eq.mpr c44
                  clear c44
                  by_cases c45 : t198 = 0
                  · rw [if_pos c45] at H
                    have c45b0 : (t198 == 0) = true := beq_iff_eq.mpr c45
                    have c45b1 : (t198 != 0) = false := bne_eq_false_iff_eq.mpr c45
                    clear c45
                    by_cases c46 : t200 = 0
                    · rw [if_pos c46] at H
                      have c46b0 : (t200 == 0) = true := beq_iff_eq.mpr c46
                      have c46b1 : (t200 != 0) = false := bne_eq_false_iff_eq.mpr c46
                      clear c46
                      replace H := Option.bind_eq_some_iff.mp H
                      obtain ⟨t201, A470, H⟩ := H
                      replace H : (pantilelaw03_BoxNest.j1 kj5 l0 a1 a2 t197 t199 (!t201)) = some r := H
                      have A47 := Aside0.mk A470
                      clear A470
                      have H' := Aside0.mk H
                      clear H
                      have hnb48 := NB196_180.out
                      have hnc48 := NB180_196.out
                      have hnb49 := NB196_188.out
                      have hnc49 := NB188_196.out
                      have hcz50_0 : w41.cell? ⟨gb196, 0, none⟩ = some (.slice Ao33 t189.length co33) := (blk_cell BK196.out 0).trans rfl
                      have hcz50_1 : w41.cell? ⟨gb196, 1, none⟩ = some (.slice Ao37 t192.length co37) := (blk_cell BK196.out 1).trans rfl
                      have hfz50_0 := blk_frozen BK196.out 0
                      have hfz50_1 := blk_frozen BK196.out 1
                      have hnb51 := NB180_188.out
                      have hnc51 := NB188_180.out
                      have hcz52_0 : w41.cell? ⟨gb180, 0, none⟩ = some (.slice Ao21 t173.length co21) := (blk_cell BK180.out 0).trans rfl
                      have hcz52_1 : w41.cell? ⟨gb180, 1, none⟩ = some (.slice Ao23 t176.length co23) := (blk_cell BK180.out 1).trans rfl
                      have hfz52_0 := blk_frozen BK180.out 0
                      have hfz52_1 := blk_frozen BK180.out 1
                      go_wp2_with (first | (go_at_call 29; (with_reducible refine (pantileref03_Same.calls kj5 _ _ t189 _ _ t192 _ _ t173 _ _ t176 t201 _ ?side1 ?side2 ?side3 ?side4 ?side5 ?side6 ?side7 ?side8 A47.out).mono ?_); (case side1 => repeat (first | exact (Kd.R_reads' HO191.out).2.2 | (with_reducible refine Kd.C_alloc ?_ _) | (with_reducible refine Kd.C_drewN ?_ _) | (with_reducible refine Kd.C_drew ?_))); (case side2 => exact (Kd.R_reads' HO191.out).2.1); (case side3 => repeat (first | exact (Kd.R_reads' HO194.out).2.2 | (with_reducible refine Kd.C_alloc ?_ _) | (with_reducible refine Kd.C_drewN ?_ _) | (with_reducible refine Kd.C_drew ?_))); (case side4 => exact (Kd.R_reads' HO194.out).2.1); (case side5 => repeat (first | exact (Kd.R_reads' HO175.out).2.2 | (with_reducible refine Kd.C_alloc ?_ _) | (with_reducible refine Kd.C_drewN ?_ _) | (with_reducible refine Kd.C_drew ?_))); (case side6 => exact (Kd.R_reads' HO175.out).2.1); (case side7 => repeat (first | exact (Kd.R_reads' HO178.out).2.2 | (with_reducible refine Kd.C_alloc ?_ _) | (with_reducible refine Kd.C_drewN ?_ _) | (with_reducible refine Kd.C_drew ?_))); (case side8 => exact (Kd.R_reads' HO178.out).2.1); rintro e w53 ⟨rfl, hb⟩; have n0_ := Aside0.mk (Kd.R_below (by (with_reducible repeat (first | apply Kd.R_alloc | apply Kd.R_drewN | apply Kd.R_drew)); exact HO175.out) hb); have n1_ := Aside0.mk (Kd.R_below (by (with_reducible repeat (first | apply Kd.R_alloc | apply Kd.R_drewN | apply Kd.R_drew)); exact HO178.out) hb); have n2_ := Aside0.mk (Kd.R_below (by (with_reducible repeat (first | apply Kd.R_alloc | apply Kd.R_drewN | apply Kd.R_drew)); exact HO183.out) hb); have n3_ := Aside0.mk (Kd.R_below (by (with_reducible repeat (first | apply Kd.R_alloc | apply Kd.R_drewN | apply Kd.R_drew)); exact HO186.out) hb); have n4_ := Aside0.mk (Kd.R_below (by (with_reducible repeat (first | apply Kd.R_alloc | apply Kd.R_drewN | apply Kd.R_drew)); exact HO191.out) hb); have n5_ := Aside0.mk (Kd.R_below (by (with_reducible repeat (first | apply Kd.R_alloc | apply Kd.R_drewN | apply Kd.R_drew)); exact HO194.out) hb); have n6_ := Aside0.mk (blk_below (g := gb180) (o := .cells #[.slice Ao21 t173.length co21, .slice Ao23 t176.length co23] 32 (0, 0)) (by (with_reducible repeat (first | refine blk_drewN ?_ _ | refine blk_drew ?_ | refine blk_alloc ?_ _)); exact BK180.out) hb); have n7_ := Aside0.mk (blk_below (g := gb188) (o := .cells #[.slice Ao26 t181.length co26, .slice Ao29 t184.length co29] 32 (0, 0)) (by (with_reducible repeat (first | refine blk_drewN ?_ _ | refine blk_drew ?_ | refine blk_alloc ?_ _)); exact BK188.out) hb); have n8_ := Aside0.mk (blk_below (g := gb196) (o := .cells #[.slice Ao33 t189.length co33, .slice Ao37 t192.length co37] 32 (0, 0)) (by (with_reducible repeat (first | refine blk_drewN ?_ _ | refine blk_drew ?_ | refine blk_alloc ?_ _)); exact BK196.out) hb); have n9_ := Aside0.mk (below_step (by repeat (first | (with_reducible first | exact HB.out | apply below_alloc | apply pw_below_drewN | apply below_drew1 | refine below_set ?_ GE180.out | refine below_set ?_ GE188.out | refine below_set ?_ GE196.out) | exact HB.out)) hb); clear HO175; clear HO178; clear HO183; clear HO186; clear HO191; clear HO194; clear BK180; clear BK188; clear BK196; clear HB; have HO175 := n0_; have HO178 := n1_; have HO183 := n2_; have HO186 := n3_; have HO191 := n4_; have HO194 := n5_; have BK180 := n6_; have BK188 := n7_; have BK196 := n8_; have HB := n9_; clear n0_ n1_ n2_ n3_ n4_ n5_ n6_ n7_ n8_ n9_; (try clear hb); (try clear hb2); (try clear hk); (try clear hi)))
                      go_meet
                      case rel => exact ⟨_, (!t201), (by first | rfl | (simp; done) | (simp [*]; done)), H', ⟨by have := HJ5.out; first | omega | exact Nat.le_refl _⟩, ⟨by (with_reducible repeat (first | apply Kd.R_alloc | apply Kd.R_drewN | apply Kd.R_drew)); exact Kd.R_mono HO175.out (fun _ hk => ⟨hk.1.1.1.1, ⟨hk.1.1.1.2, ⟨hk.1.1.2, ⟨hk.1.2, hk.2⟩⟩⟩⟩)⟩, ⟨by (with_reducible repeat (first | apply Kd.R_alloc | apply Kd.R_drewN | apply Kd.R_drew)); exact Kd.R_mono HO178.out (fun _ hk => ⟨hk.1.1.1.1, ⟨hk.1.1.1.2, ⟨hk.1.1.2, ⟨hk.1.2, hk.2⟩⟩⟩⟩)⟩, ⟨by (with_reducible repeat (first | apply Kd.R_alloc | apply Kd.R_drewN | apply Kd.R_drew)); exact Kd.R_mono HO183.out (fun _ hk => ⟨hk.1.1.1.2, ⟨hk.1.1.2, ⟨hk.1.1.1.1, ⟨hk.1.2, hk.2⟩⟩⟩⟩)⟩, ⟨by (with_reducible repeat (first | apply Kd.R_alloc | apply Kd.R_drewN | apply Kd.R_drew)); exact Kd.R_mono HO186.out (fun _ hk => ⟨hk.1.1.1.2, ⟨hk.1.1.2, ⟨hk.1.1.1.1, ⟨hk.1.2, hk.2⟩⟩⟩⟩)⟩, ⟨by (with_reducible repeat (first | apply Kd.R_alloc | apply Kd.R_drewN | apply Kd.R_drew)); exact Kd.R_mono HO191.out (fun _ hk => ⟨hk.1.1.1.2, ⟨hk.1.1.2, ⟨hk.1.2, ⟨hk.2, hk.1.1.1.1⟩⟩⟩⟩)⟩, ⟨by (with_reducible repeat (first | apply Kd.R_alloc | apply Kd.R_drewN | apply Kd.R_drew)); exact Kd.R_mono HO194.out (fun _ hk => ⟨hk.1.1.1.2, ⟨hk.1.1.2, ⟨hk.1.2, ⟨hk.2, hk.1.1.1.1⟩⟩⟩⟩)⟩, ⟨by (with_reducible repeat (first | refine blk_drewN ?_ _ | refine blk_drew ?_ | refine blk_alloc ?_ _)); exact BK180.out⟩, ⟨by (with_reducible repeat (first | refine blk_drewN ?_ _ | refine blk_drew ?_ | refine blk_alloc ?_ _)); exact BK188.out⟩, ⟨by (with_reducible repeat (first | refine blk_drewN ?_ _ | refine blk_drew ?_ | refine blk_alloc ?_ _)); exact BK196.out⟩, ⟨by repeat (first | (with_reducible first | exact HB.out | apply below_alloc | apply pw_below_drewN | apply below_drew1 | refine below_set ?_ GE180.out | refine below_set ?_ GE188.out | refine below_set ?_ GE196.out) | exact HB.out)⟩⟩
                    · rw [if_neg c46] at H
                      have c46b0 : (t200 == 0) = false := beq_eq_false_iff_ne.mpr c46
                      have c46b1 : (t200 != 0) = true := bne_iff_ne.mpr c46
                      have H' := Aside0.mk H
                      clear H
                      go_wp2
                      go_meet
                      case rel => exact ⟨_, (true), (by first | rfl | (simp; done) | (simp [*]; done)), H', ⟨by have := HJ5.out; first | omega | exact Nat.le_refl _⟩, ⟨by (with_reducible repeat (first | apply Kd.R_alloc | apply Kd.R_drewN | apply Kd.R_drew)); exact Kd.R_mono HO175.out (fun _ hk => ⟨hk.1.1.1.1, ⟨hk.1.1.1.2, ⟨hk.1.1.2, ⟨hk.1.2, hk.2⟩⟩⟩⟩)⟩, ⟨by (with_reducible repeat (first | apply Kd.R_alloc | apply Kd.R_drewN | apply Kd.R_drew)); exact Kd.R_mono HO178.out (fun _ hk => ⟨hk.1.1.1.1, ⟨hk.1.1.1.2, ⟨hk.1.1.2, ⟨hk.1.2, hk.2⟩⟩⟩⟩)⟩, ⟨by (with_reducible repeat (first | apply Kd.R_alloc | apply Kd.R_drewN | apply Kd.R_drew)); exact Kd.R_mono HO183.out (fun _ hk => ⟨hk.1.1.1.2, ⟨hk.1.1.2, ⟨hk.1.1.1.1, ⟨hk.1.2, hk.2⟩⟩⟩⟩)⟩, ⟨by (with_reducible repeat (first | apply Kd.R_alloc | apply Kd.R_drewN | apply Kd.R_drew)); exact Kd.R_mono HO186.out (fun _ hk => ⟨hk.1.1.1.2, ⟨hk.1.1.2, ⟨hk.1.1.1.1, ⟨hk.1.2, hk.2⟩⟩⟩⟩)⟩, ⟨by (with_reducible repeat (first | apply Kd.R_alloc | apply Kd.R_drewN | apply Kd.R_drew)); exact Kd.R_mono HO191.out (fun _ hk => ⟨hk.1.1.1.2, ⟨hk.1.1.2, ⟨hk.1.2, ⟨hk.2, hk.1.1.1.1⟩⟩⟩⟩)⟩, ⟨by (with_reducible repeat (first | apply Kd.R_alloc | apply Kd.R_drewN | apply Kd.R_drew)); exact Kd.R_mono HO194.out (fun _ hk => ⟨hk.1.1.1.2, ⟨hk.1.1.2, ⟨hk.1.2, ⟨hk.2, hk.1.1.1.1⟩⟩⟩⟩)⟩, ⟨by (with_reducible repeat (first | refine blk_drewN ?_ _ | refine blk_drew ?_ | refine blk_alloc ?_ _)); exact BK180.out⟩, ⟨by (with_reducible repeat (first | refine blk_drewN ?_ _ | refine blk_drew ?_ | refine blk_alloc ?_ _)); exact BK188.out⟩, ⟨by (with_reducible repeat (first | refine blk_drewN ?_ _ | refine blk_drew ?_ | refine blk_alloc ?_ _)); exact BK196.out⟩, ⟨by repeat (first | (with_reducible first | exact HB.out | apply below_alloc | apply pw_below_drewN | apply below_drew1 | refine below_set ?_ GE180.out | refine below_set ?_ GE188.out | refine below_set ?_ GE196.out) | exact HB.out)⟩⟩
                  · rw [if_neg c45] at H
                    have c45b0 : (t198 == 0) = false := beq_eq_false_iff_ne.mpr c45
                    have c45b1 : (t198 != 0) = true := bne_iff_ne.mpr c45
                    have H' := Aside0.mk H
                    clear H
                    go_wp2
                    go_meet
                    case rel => exact ⟨_, (true), (by first | rfl | (simp; done) | (simp [*]; done)), H', ⟨by have := HJ5.out; first | omega | exact Nat.le_refl _⟩, ⟨by (with_reducible repeat (first | apply Kd.R_alloc | apply Kd.R_drewN | apply Kd.R_drew)); exact Kd.R_mono HO175.out (fun _ hk => ⟨hk.1.1.1.1, ⟨hk.1.1.1.2, ⟨hk.1.1.2, ⟨hk.1.2, hk.2⟩⟩⟩⟩)⟩, ⟨by (with_reducible repeat (first | apply Kd.R_alloc | apply Kd.R_drewN | apply Kd.R_drew)); exact Kd.R_mono HO178.out (fun _ hk => ⟨hk.1.1.1.1, ⟨hk.1.1.1.2, ⟨hk.1.1.2, ⟨hk.1.2, hk.2⟩⟩⟩⟩)⟩, ⟨by (with_reducible repeat (first | apply Kd.R_alloc | apply Kd.R_drewN | apply Kd.R_drew)); exact Kd.R_mono HO183.out (fun _ hk => ⟨hk.1.1.1.2, ⟨hk.1.1.2, ⟨hk.1.1.1.1, ⟨hk.1.2, hk.2⟩⟩⟩⟩)⟩, ⟨by (with_reducible repeat (first | apply Kd.R_alloc | apply Kd.R_drewN | apply Kd.R_drew)); exact Kd.R_mono HO186.out (fun _ hk => ⟨hk.1.1.1.2, ⟨hk.1.1.2, ⟨hk.1.1.1.1, ⟨hk.1.2, hk.2⟩⟩⟩⟩)⟩, ⟨by (with_reducible repeat (first | apply Kd.R_alloc | apply Kd.R_drewN | apply Kd.R_drew)); exact Kd.R_mono HO191.out (fun _ hk => ⟨hk.1.1.1.2, ⟨hk.1.1.2, ⟨hk.1.2, ⟨hk.2, hk.1.1.1.1⟩⟩⟩⟩)⟩, ⟨by (with_reducible repeat (first | apply Kd.R_alloc | apply Kd.R_drewN | apply Kd.R_drew)); exact Kd.R_mono HO194.out (fun _ hk => ⟨hk.1.1.1.2, ⟨hk.1.1.2, ⟨hk.1.2, ⟨hk.2, hk.1.1.1.1⟩⟩⟩⟩)⟩, ⟨by (with_reducible repeat (first | refine blk_drewN ?_ _ | refine blk_drew ?_ | refine blk_alloc ?_ _)); exact BK180.out⟩, ⟨by (with_reducible repeat (first | refine blk_drewN ?_ _ | refine blk_drew ?_ | refine blk_alloc ?_ _)); exact BK188.out⟩, ⟨by (with_reducible repeat (first | refine blk_drewN ?_ _ | refine blk_drew ?_ | refine blk_alloc ?_ _)); exact BK196.out⟩, ⟨by repeat (first | (with_reducible first | exact HB.out | apply below_alloc | apply pw_below_drewN | apply below_drew1 | refine below_set ?_ GE180.out | refine below_set ?_ GE188.out | refine below_set ?_ GE196.out) | exact HB.out)⟩⟩
                · rw [if_neg c44] at H
                  have c44b0 : (t195 == 0) = false := beq_eq_false_iff_ne.mpr c44
                  have c44b1 : (t195 != 0) = true := bne_iff_ne.mpr c44
                  have H' := Aside0.mk H
                  clear H
                  go_wp2
                  go_meet
                  case rel => exact ⟨_, (true), (by first | rfl | (simp; done) | (simp [*]; done)), H', ⟨by have := HJ5.out; first | omega | exact Nat.le_refl _⟩, ⟨by (with_reducible repeat (first | apply Kd.R_alloc | apply Kd.R_drewN | apply Kd.R_drew)); exact Kd.R_mono HO175.out (fun _ hk => ⟨hk.1.1.1.1, ⟨hk.1.1.1.2, ⟨hk.1.1.2, ⟨hk.1.2, hk.2⟩⟩⟩⟩)⟩, ⟨by (with_reducible repeat (first | apply Kd.R_alloc | apply Kd.R_drewN | apply Kd.R_drew)); exact Kd.R_mono HO178.out (fun _ hk => ⟨hk.1.1.1.1, ⟨hk.1.1.1.2, ⟨hk.1.1.2, ⟨hk.1.2, hk.2⟩⟩⟩⟩)⟩, ⟨by (with_reducible repeat (first | apply Kd.R_alloc | apply Kd.R_drewN | apply Kd.R_drew)); exact Kd.R_mono HO183.out (fun _ hk => ⟨hk.1.1.1.2, ⟨hk.1.1.2, ⟨hk.1.1.1.1, ⟨hk.1.2, hk.2⟩⟩⟩⟩)⟩, ⟨by (with_reducible repeat (first | apply Kd.R_alloc | apply Kd.R_drewN | apply Kd.R_drew)); exact Kd.R_mono HO186.out (fun _ hk => ⟨hk.1.1.1.2, ⟨hk.1.1.2, ⟨hk.1.1.1.1, ⟨hk.1.2, hk.2⟩⟩⟩⟩)⟩, ⟨by (with_reducible repeat (first | apply Kd.R_alloc | apply Kd.R_drewN | apply Kd.R_drew)); exact Kd.R_mono HO191.out (fun _ hk => ⟨hk.1.1.1.2, ⟨hk.1.1.2, ⟨hk.1.2, ⟨hk.2, hk.1.1.1.1⟩⟩⟩⟩)⟩, ⟨by (with_reducible repeat (first | apply Kd.R_alloc | apply Kd.R_drewN | apply Kd.R_drew)); exact Kd.R_mono HO194.out (fun _ hk => ⟨hk.1.1.1.2, ⟨hk.1.1.2, ⟨hk.1.2, ⟨hk.2, hk.1.1.1.1⟩⟩⟩⟩)⟩, ⟨by (with_reducible repeat (first | refine blk_drewN ?_ _ | refine blk_drew ?_ | refine blk_alloc ?_ _)); exact BK180.out⟩, ⟨by (with_reducible repeat (first | refine blk_drewN ?_ _ | refine blk_drew ?_ | refine blk_alloc ?_ _)); exact BK188.out⟩, ⟨by (with_reducible repeat (first | refine blk_drewN ?_ _ | refine blk_drew ?_ | refine blk_alloc ?_ _)); exact BK196.out⟩, ⟨by repeat (first | (with_reducible first | exact HB.out | apply below_alloc | apply pw_below_drewN | apply below_drew1 | refine below_set ?_ GE180.out | refine below_set ?_ GE188.out | refine below_set ?_ GE196.out) | exact HB.out)⟩⟩
              · rw [if_neg c43] at H
                have c43b0 : (t187 == 0) = false := beq_eq_false_iff_ne.mpr c43
                have c43b1 : (t187 != 0) = true := bne_iff_ne.mpr c43
                have H' := Aside0.mk H
                clear H
                go_wp2
                go_meet
                case rel => exact ⟨_, (true), (by first | rfl | (simp; done) | (simp [*]; done)), H', ⟨by have := HJ5.out; first | omega | exact Nat.le_refl _⟩, ⟨by (with_reducible repeat (first | apply Kd.R_alloc | apply Kd.R_drewN | apply Kd.R_drew)); exact Kd.R_mono HO175.out (fun _ hk => ⟨hk.1.1.1.1, ⟨hk.1.1.1.2, ⟨hk.1.1.2, ⟨hk.1.2, hk.2⟩⟩⟩⟩)⟩, ⟨by (with_reducible repeat (first | apply Kd.R_alloc | apply Kd.R_drewN | apply Kd.R_drew)); exact Kd.R_mono HO178.out (fun _ hk => ⟨hk.1.1.1.1, ⟨hk.1.1.1.2, ⟨hk.1.1.2, ⟨hk.1.2, hk.2⟩⟩⟩⟩)⟩, ⟨by (with_reducible repeat (first | apply Kd.R_alloc | apply Kd.R_drewN | apply Kd.R_drew)); exact Kd.R_mono HO183.out (fun _ hk => ⟨hk.1.1.1.2, ⟨hk.1.1.2, ⟨hk.1.1.1.1, ⟨hk.1.2, hk.2⟩⟩⟩⟩)⟩, ⟨by (with_reducible repeat (first | apply Kd.R_alloc | apply Kd.R_drewN | apply Kd.R_drew)); exact Kd.R_mono HO186.out (fun _ hk => ⟨hk.1.1.1.2, ⟨hk.1.1.2, ⟨hk.1.1.1.1, ⟨hk.1.2, hk.2⟩⟩⟩⟩)⟩, ⟨by (with_reducible repeat (first | apply Kd.R_alloc | apply Kd.R_drewN | apply Kd.R_drew)); exact Kd.R_mono HO191.out (fun _ hk => ⟨hk.1.1.1.2, ⟨hk.1.1.2, ⟨hk.1.2, ⟨hk.2, hk.1.1.1.1⟩⟩⟩⟩)⟩, ⟨by (with_reducible repeat (first | apply Kd.R_alloc | apply Kd.R_drewN | apply Kd.R_drew)); exact Kd.R_mono HO194.out (fun _ hk => ⟨hk.1.1.1.2, ⟨hk.1.1.2, ⟨hk.1.2, ⟨hk.2, hk.1.1.1.1⟩⟩⟩⟩)⟩, ⟨by (with_reducible repeat (first | refine blk_drewN ?_ _ | refine blk_drew ?_ | refine blk_alloc ?_ _)); exact BK180.out⟩, ⟨by (with_reducible repeat (first | refine blk_drewN ?_ _ | refine blk_drew ?_ | refine blk_alloc ?_ _)); exact BK188.out⟩, ⟨by (with_reducible repeat (first | refine blk_drewN ?_ _ | refine blk_drew ?_ | refine blk_alloc ?_ _)); exact BK196.out⟩, ⟨by repeat (first | (with_reducible first | exact HB.out | apply below_alloc | apply pw_below_drewN | apply below_drew1 | refine below_set ?_ GE180.out | refine below_set ?_ GE188.out | refine below_set ?_ GE196.out) | exact HB.out)⟩⟩
            · rw [if_neg c42] at H
              have c42b0 : (t179 == 0) = false := beq_eq_false_iff_ne.mpr c42
              have c42b1 : (t179 != 0) = true := bne_iff_ne.mpr c42
              (first | rw [c42b0] | (simp only [i64_w, i32_w]; rw [c42b0]) | skip)
              have H' := Aside0.mk H
              clear H
              go_wp2
              go_meet
              case rel => exact ⟨_, (true), (by first | rfl | (simp; done) | (simp [*]; done)), H', ⟨by have := HJ5.out; first | omega | exact Nat.le_refl _⟩, ⟨by (with_reducible repeat (first | apply Kd.R_alloc | apply Kd.R_drewN | apply Kd.R_drew)); exact Kd.R_mono HO175.out (fun _ hk => ⟨hk.1.1.1.1, ⟨hk.1.1.1.2, ⟨hk.1.1.2, ⟨hk.1.2, hk.2⟩⟩⟩⟩)⟩, ⟨by (with_reducible repeat (first | apply Kd.R_alloc | apply Kd.R_drewN | apply Kd.R_drew)); exact Kd.R_mono HO178.out (fun _ hk => ⟨hk.1.1.1.1, ⟨hk.1.1.1.2, ⟨hk.1.1.2, ⟨hk.1.2, hk.2⟩⟩⟩⟩)⟩, ⟨by (with_reducible repeat (first | apply Kd.R_alloc | apply Kd.R_drewN | apply Kd.R_drew)); exact Kd.R_mono HO183.out (fun _ hk => ⟨hk.1.1.1.2, ⟨hk.1.1.2, ⟨hk.1.1.1.1, ⟨hk.1.2, hk.2⟩⟩⟩⟩)⟩, ⟨by (with_reducible repeat (first | apply Kd.R_alloc | apply Kd.R_drewN | apply Kd.R_drew)); exact Kd.R_mono HO186.out (fun _ hk => ⟨hk.1.1.1.2, ⟨hk.1.1.2, ⟨hk.1.1.1.1, ⟨hk.1.2, hk.2⟩⟩⟩⟩)⟩, ⟨by (with_reducible repeat (first | apply Kd.R_alloc | apply Kd.R_drewN | apply Kd.R_drew)); exact Kd.R_mono HO191.out (fun _ hk => ⟨hk.1.1.1.2, ⟨hk.1.1.2, ⟨hk.1.2, ⟨hk.2, hk.1.1.1.1⟩⟩⟩⟩)⟩, ⟨by (with_reducible repeat (first | apply Kd.R_alloc | apply Kd.R_drewN | apply Kd.R_drew)); exact Kd.R_mono HO194.out (fun _ hk => ⟨hk.1.1.1.2, ⟨hk.1.1.2, ⟨hk.1.2, ⟨hk.2, hk.1.1.1.1⟩⟩⟩⟩)⟩, ⟨by (with_reducible repeat (first | refine blk_drewN ?_ _ | refine blk_drew ?_ | refine blk_alloc ?_ _)); exact BK180.out⟩, ⟨by (with_reducible repeat (first | refine blk_drewN ?_ _ | refine blk_drew ?_ | refine blk_alloc ?_ _)); exact BK188.out⟩, ⟨by (with_reducible repeat (first | refine blk_drewN ?_ _ | refine blk_drew ?_ | refine blk_alloc ?_ _)); exact BK196.out⟩, ⟨by repeat (first | (with_reducible first | exact HB.out | apply below_alloc | apply pw_below_drewN | apply below_drew1 | refine below_set ?_ GE180.out | refine below_set ?_ GE188.out | refine below_set ?_ GE196.out) | exact HB.out)⟩⟩
          case rest =>
            clear HC18
            try clear c1
            try clear c2
            try clear p2
            try clear c3
            try clear c4
            try clear c5
            try clear c9
            try clear c10
            try clear c10b0
            try clear c11
            try clear c11b0
            try clear c12
            try clear c24
            try clear c26
            try clear c27
            try clear c28
            try clear c34
            try clear c35
            try clear c42
            try clear c42b0
            try clear c42b1
            try clear c43
            try clear c43b0
            try clear c43b1
            try clear c44
            try clear c44b0
            try clear c44b1
            try clear c45
            try clear c45b0
            try clear c45b1
            try clear c46
            try clear c46b0
            try clear c46b1
            try clear c48
            try clear c49
            try clear c51
            try clear c52
            try clear hcz22_0
            try clear hcz22_1
            try clear hcz28_0
            try clear hcz28_1
            try clear hcz30_0
            try clear hcz30_1
            try clear hcz36_0
            try clear hcz36_1
            try clear hcz38_0
            try clear hcz38_1
            try clear hcz40_0
            try clear hcz40_1
            try clear hcz50_0
            try clear hcz50_1
            try clear hcz52_0
            try clear hcz52_1
            try clear hfz22_0
            try clear hfz22_1
            try clear hfz28_0
            try clear hfz28_1
            try clear hfz30_0
            try clear hfz30_1
            try clear hfz36_0
            try clear hfz36_1
            try clear hfz38_0
            try clear hfz38_1
            try clear hfz40_0
            try clear hfz40_1
            try clear hfz50_0
            try clear hfz50_1
            try clear hfz52_0
            try clear hfz52_1
            try clear p2
            obtain ⟨kq, x88_17, rfl, HA, HJ17, HO_181000, HO_181001, HO_189000, HO_189001, HO_197000, HO_197001, BK180, BK188, BK196, HB⟩ := hcut
            cases kq with
            | zero => exact absurd HA.out (by simp [pantilelaw03_BoxNest.j1])
            | succ kj17 =>
              have H := HA.out
              clear HA
              simp only [pantilelaw03_BoxNest.j1] at H
              by_cases c54 : x88_17 = true
              · subst c54
                have H1 : (some false) = some r := by rw [if_pos rfl] at H; exact H
                clear H
                have H := H1
                clear H1
                exact Bool.noConfusion ((Option.some.inj H).trans HRT.out)
              · replace c54 := Bool.eq_false_iff.mpr c54
                subst c54
                have H1 : (pantilelaw03_BoxNest.l0 kj17 l0 a2 t197 t199 a1) = some r := by rw [if_neg (show ¬ (false = true) by decide)] at H; exact H
                clear H
                have H := H1
                clear H1
                have H' := Aside0.mk H
                clear H
                go_wp2
                go_loopg [13, 17] kj17 (fun kq v13 v17 w' => ∃ (x13_3 : Int) (x17_3 : Int), v13 = .int .u64 x13_3 ∧ v17 = .int .i64 x17_3 ∧ Aside0 (pantilelaw03_BoxNest.l0 kq l0 a2 x13_3 t199 x17_3 = some r) ∧ Aside0 (kq ≤ kj17) ∧ Aside0 (Kd.R (Kd.int .u64) 30 w' w.heap.size (fun k_ => some k_ ≠ ((.slice Ao23 t176.length co23) : Value).ownBlock ∧ some k_ ≠ ((.slice Ao26 t181.length co26) : Value).ownBlock ∧ some k_ ≠ ((.slice Ao29 t184.length co29) : Value).ownBlock ∧ some k_ ≠ ((.slice Ao33 t189.length co33) : Value).ownBlock ∧ some k_ ≠ ((.slice Ao37 t192.length co37) : Value).ownBlock) (.slice Ao21 t173.length co21) t173) ∧ Aside0 (Kd.R (Kd.int .u64) 30 w' w.heap.size (fun k_ => some k_ ≠ ((.slice Ao21 t173.length co21) : Value).ownBlock ∧ some k_ ≠ ((.slice Ao26 t181.length co26) : Value).ownBlock ∧ some k_ ≠ ((.slice Ao29 t184.length co29) : Value).ownBlock ∧ some k_ ≠ ((.slice Ao33 t189.length co33) : Value).ownBlock ∧ some k_ ≠ ((.slice Ao37 t192.length co37) : Value).ownBlock) (.slice Ao23 t176.length co23) t176) ∧ Aside0 (Kd.R (Kd.int .u64) 30 w' w.heap.size (fun k_ => some k_ ≠ ((.slice Ao21 t173.length co21) : Value).ownBlock ∧ some k_ ≠ ((.slice Ao23 t176.length co23) : Value).ownBlock ∧ some k_ ≠ ((.slice Ao29 t184.length co29) : Value).ownBlock ∧ some k_ ≠ ((.slice Ao33 t189.length co33) : Value).ownBlock ∧ some k_ ≠ ((.slice Ao37 t192.length co37) : Value).ownBlock) (.slice Ao26 t181.length co26) t181) ∧ Aside0 (Kd.R (Kd.int .u64) 30 w' w.heap.size (fun k_ => some k_ ≠ ((.slice Ao21 t173.length co21) : Value).ownBlock ∧ some k_ ≠ ((.slice Ao23 t176.length co23) : Value).ownBlock ∧ some k_ ≠ ((.slice Ao26 t181.length co26) : Value).ownBlock ∧ some k_ ≠ ((.slice Ao33 t189.length co33) : Value).ownBlock ∧ some k_ ≠ ((.slice Ao37 t192.length co37) : Value).ownBlock) (.slice Ao29 t184.length co29) t184) ∧ Aside0 (Kd.R (Kd.int .u64) 30 w' w.heap.size (fun k_ => some k_ ≠ ((.slice Ao21 t173.length co21) : Value).ownBlock ∧ some k_ ≠ ((.slice Ao23 t176.length co23) : Value).ownBlock ∧ some k_ ≠ ((.slice Ao26 t181.length co26) : Value).ownBlock ∧ some k_ ≠ ((.slice Ao29 t184.length co29) : Value).ownBlock ∧ some k_ ≠ ((.slice Ao37 t192.length co37) : Value).ownBlock) (.slice Ao33 t189.length co33) t189) ∧ Aside0 (Kd.R (Kd.int .u64) 30 w' w.heap.size (fun k_ => some k_ ≠ ((.slice Ao21 t173.length co21) : Value).ownBlock ∧ some k_ ≠ ((.slice Ao23 t176.length co23) : Value).ownBlock ∧ some k_ ≠ ((.slice Ao26 t181.length co26) : Value).ownBlock ∧ some k_ ≠ ((.slice Ao29 t184.length co29) : Value).ownBlock ∧ some k_ ≠ ((.slice Ao33 t189.length co33) : Value).ownBlock) (.slice Ao37 t192.length co37) t192) ∧ Aside0 (w'.heap[gb180]? = some (.cells #[(.slice Ao21 t173.length co21), (.slice Ao23 t176.length co23)] 32 (0, 0))) ∧ Aside0 (w'.heap[gb188]? = some (.cells #[(.slice Ao26 t181.length co26), (.slice Ao29 t184.length co29)] 32 (0, 0))) ∧ Aside0 (w'.heap[gb196]? = some (.cells #[(.slice Ao33 t189.length co33), (.slice Ao37 t192.length co37)] 32 (0, 0))) ∧ Aside0 (Below w.heap.size w w'))
                case atStart => exact ⟨(t197), (a1), (by first | rfl | (simp; done) | (simp [*]; done)), (by first | rfl | (simp; done) | (simp [*]; done)), H', ⟨Nat.le_refl _⟩, ⟨by (with_reducible repeat (first | apply Kd.R_alloc | apply Kd.R_drewN | apply Kd.R_drew)); exact HO_181000.out⟩, ⟨by (with_reducible repeat (first | apply Kd.R_alloc | apply Kd.R_drewN | apply Kd.R_drew)); exact HO_181001.out⟩, ⟨by (with_reducible repeat (first | apply Kd.R_alloc | apply Kd.R_drewN | apply Kd.R_drew)); exact HO_189000.out⟩, ⟨by (with_reducible repeat (first | apply Kd.R_alloc | apply Kd.R_drewN | apply Kd.R_drew)); exact HO_189001.out⟩, ⟨by (with_reducible repeat (first | apply Kd.R_alloc | apply Kd.R_drewN | apply Kd.R_drew)); exact HO_197000.out⟩, ⟨by (with_reducible repeat (first | apply Kd.R_alloc | apply Kd.R_drewN | apply Kd.R_drew)); exact HO_197001.out⟩, ⟨by (with_reducible repeat (first | refine blk_drewN ?_ _ | refine blk_drew ?_ | refine blk_alloc ?_ _)); exact BK180.out⟩, ⟨by (with_reducible repeat (first | refine blk_drewN ?_ _ | refine blk_drew ?_ | refine blk_alloc ?_ _)); exact BK188.out⟩, ⟨by (with_reducible repeat (first | refine blk_drewN ?_ _ | refine blk_drew ?_ | refine blk_alloc ?_ _)); exact BK196.out⟩, ⟨by repeat (first | (with_reducible first | exact HB.out | apply below_alloc | apply pw_below_drewN | apply below_drew1 | refine below_set ?_ GE180.out | refine below_set ?_ GE188.out | refine below_set ?_ GE196.out) | exact HB.out)⟩⟩
                case round =>
                  clear H'
                  try clear c1
                  try clear c2
                  try clear p2
                  try clear c3
                  try clear c4
                  try clear c5
                  try clear c9
                  try clear c10
                  try clear c10b0
                  try clear c11
                  try clear c11b0
                  try clear c12
                  try clear c24
                  try clear c26
                  try clear c27
                  try clear c28
                  try clear c34
                  try clear c35
                  try clear c42
                  try clear c42b0
                  try clear c42b1
                  try clear c43
                  try clear c43b0
                  try clear c43b1
                  try clear c44
                  try clear c44b0
                  try clear c44b1
                  try clear c45
                  try clear c45b0
                  try clear c45b1
                  try clear c46
                  try clear c46b0
                  try clear c46b1
                  try clear c48
                  try clear c49
                  try clear c51
                  try clear c52
                  try clear c54
                  try clear hcz22_0
                  try clear hcz22_1
                  try clear hcz28_0
                  try clear hcz28_1
                  try clear hcz30_0
                  try clear hcz30_1
                  try clear hcz36_0
                  try clear hcz36_1
                  try clear hcz38_0
                  try clear hcz38_1
                  try clear hcz40_0
                  try clear hcz40_1
                  try clear hcz50_0
                  try clear hcz50_1
                  try clear hcz52_0
                  try clear hcz52_1
                  try clear hfz22_0
                  try clear hfz22_1
                  try clear hfz28_0
                  try clear hfz28_1
                  try clear hfz30_0
                  try clear hfz30_1
                  try clear hfz36_0
                  try clear hfz36_1
                  try clear hfz38_0
                  try clear hfz38_1
                  try clear hfz40_0
                  try clear hfz40_1
                  try clear hfz50_0
                  try clear hfz50_1
                  try clear hfz52_0
                  try clear hfz52_1
                  try clear p2
                  obtain ⟨x13_3, x17_3, rfl, rfl, HA, HK3, HO_181000, HO_181001, HO_189000, HO_189001, HO_197000, HO_197001, BK180, BK188, BK196, HB⟩ := hrel
                  cases gk with
                  | zero => exact absurd HA.out (by simp [pantilelaw03_BoxNest.l0])
                  | succ k3 =>
                    have H := HA.out
                    clear HA
                    simp only [pantilelaw03_BoxNest.l0] at H
                    by_cases c55 : x17_3 < a2
                    · rw [if_pos c55] at H
                      have c55b0 : decide (x17_3 < a2) = true := decide_eq_true c55
                      clear c55
                      have H' := Aside0.mk H
                      clear H
                      go_wp2
                      go_loopg [13, 18] k3 (fun kq v13 v18 w' => ∃ (x13_4 : Int) (x18_4 : Int), v13 = .int .u64 x13_4 ∧ v18 = .int .i64 x18_4 ∧ Aside0 (pantilelaw03_BoxNest.l1 kq l0 a2 x13_4 t199 x17_3 x18_4 = some r) ∧ Aside0 (kq ≤ k3) ∧ Aside0 (Kd.R (Kd.int .u64) 30 w' w.heap.size (fun k_ => some k_ ≠ ((.slice Ao23 t176.length co23) : Value).ownBlock ∧ some k_ ≠ ((.slice Ao26 t181.length co26) : Value).ownBlock ∧ some k_ ≠ ((.slice Ao29 t184.length co29) : Value).ownBlock ∧ some k_ ≠ ((.slice Ao33 t189.length co33) : Value).ownBlock ∧ some k_ ≠ ((.slice Ao37 t192.length co37) : Value).ownBlock) (.slice Ao21 t173.length co21) t173) ∧ Aside0 (Kd.R (Kd.int .u64) 30 w' w.heap.size (fun k_ => some k_ ≠ ((.slice Ao21 t173.length co21) : Value).ownBlock ∧ some k_ ≠ ((.slice Ao26 t181.length co26) : Value).ownBlock ∧ some k_ ≠ ((.slice Ao29 t184.length co29) : Value).ownBlock ∧ some k_ ≠ ((.slice Ao33 t189.length co33) : Value).ownBlock ∧ some k_ ≠ ((.slice Ao37 t192.length co37) : Value).ownBlock) (.slice Ao23 t176.length co23) t176) ∧ Aside0 (Kd.R (Kd.int .u64) 30 w' w.heap.size (fun k_ => some k_ ≠ ((.slice Ao21 t173.length co21) : Value).ownBlock ∧ some k_ ≠ ((.slice Ao23 t176.length co23) : Value).ownBlock ∧ some k_ ≠ ((.slice Ao29 t184.length co29) : Value).ownBlock ∧ some k_ ≠ ((.slice Ao33 t189.length co33) : Value).ownBlock ∧ some k_ ≠ ((.slice Ao37 t192.length co37) : Value).ownBlock) (.slice Ao26 t181.length co26) t181) ∧ Aside0 (Kd.R (Kd.int .u64) 30 w' w.heap.size (fun k_ => some k_ ≠ ((.slice Ao21 t173.length co21) : Value).ownBlock ∧ some k_ ≠ ((.slice Ao23 t176.length co23) : Value).ownBlock ∧ some k_ ≠ ((.slice Ao26 t181.length co26) : Value).ownBlock ∧ some k_ ≠ ((.slice Ao33 t189.length co33) : Value).ownBlock ∧ some k_ ≠ ((.slice Ao37 t192.length co37) : Value).ownBlock) (.slice Ao29 t184.length co29) t184) ∧ Aside0 (Kd.R (Kd.int .u64) 30 w' w.heap.size (fun k_ => some k_ ≠ ((.slice Ao21 t173.length co21) : Value).ownBlock ∧ some k_ ≠ ((.slice Ao23 t176.length co23) : Value).ownBlock ∧ some k_ ≠ ((.slice Ao26 t181.length co26) : Value).ownBlock ∧ some k_ ≠ ((.slice Ao29 t184.length co29) : Value).ownBlock ∧ some k_ ≠ ((.slice Ao37 t192.length co37) : Value).ownBlock) (.slice Ao33 t189.length co33) t189) ∧ Aside0 (Kd.R (Kd.int .u64) 30 w' w.heap.size (fun k_ => some k_ ≠ ((.slice Ao21 t173.length co21) : Value).ownBlock ∧ some k_ ≠ ((.slice Ao23 t176.length co23) : Value).ownBlock ∧ some k_ ≠ ((.slice Ao26 t181.length co26) : Value).ownBlock ∧ some k_ ≠ ((.slice Ao29 t184.length co29) : Value).ownBlock ∧ some k_ ≠ ((.slice Ao33 t189.length co33) : Value).ownBlock) (.slice Ao37 t192.length co37) t192) ∧ Aside0 (w'.heap[gb180]? = some (.cells #[(.slice Ao21 t173.length co21), (.slice Ao23 t176.length co23)] 32 (0, 0))) ∧ Aside0 (w'.heap[gb188]? = some (.cells #[(.slice Ao26 t181.length co26), (.slice Ao29 t184.length co29)] 32 (0, 0))) ∧ Aside0 (w'.heap[gb196]? = some (.cells #[(.slice Ao33 t189.length co33), (.slice Ao37 t192.length co37)] 32 (0, 0))) ∧ Aside0 (Below w.heap.size w w'))
                      case atStart => exact ⟨(x13_3), (0), (by first | rfl | (simp; done) | (simp [*]; done)), (by first | rfl | (simp; done) | (simp [*]; done)), H', ⟨Nat.le_refl _⟩, ⟨by (with_reducible repeat (first | apply Kd.R_alloc | apply Kd.R_drewN | apply Kd.R_drew)); exact HO_181000.out⟩, ⟨by (with_reducible repeat (first | apply Kd.R_alloc | apply Kd.R_drewN | apply Kd.R_drew)); exact HO_181001.out⟩, ⟨by (with_reducible repeat (first | apply Kd.R_alloc | apply Kd.R_drewN | apply Kd.R_drew)); exact HO_189000.out⟩, ⟨by (with_reducible repeat (first | apply Kd.R_alloc | apply Kd.R_drewN | apply Kd.R_drew)); exact HO_189001.out⟩, ⟨by (with_reducible repeat (first | apply Kd.R_alloc | apply Kd.R_drewN | apply Kd.R_drew)); exact HO_197000.out⟩, ⟨by (with_reducible repeat (first | apply Kd.R_alloc | apply Kd.R_drewN | apply Kd.R_drew)); exact HO_197001.out⟩, ⟨by (with_reducible repeat (first | refine blk_drewN ?_ _ | refine blk_drew ?_ | refine blk_alloc ?_ _)); exact BK180.out⟩, ⟨by (with_reducible repeat (first | refine blk_drewN ?_ _ | refine blk_drew ?_ | refine blk_alloc ?_ _)); exact BK188.out⟩, ⟨by (with_reducible repeat (first | refine blk_drewN ?_ _ | refine blk_drew ?_ | refine blk_alloc ?_ _)); exact BK196.out⟩, ⟨by repeat (first | (with_reducible first | exact HB.out | apply below_alloc | apply pw_below_drewN | apply below_drew1 | refine below_set ?_ GE180.out | refine below_set ?_ GE188.out | refine below_set ?_ GE196.out) | exact HB.out)⟩⟩
                      case round =>
                        clear H'
                        try clear c1
                        try clear c2
                        try clear p2
                        try clear c3
                        try clear c4
                        try clear c5
                        try clear c9
                        try clear c10
                        try clear c10b0
                        try clear c11
                        try clear c11b0
                        try clear c12
                        try clear c24
                        try clear c26
                        try clear c27
                        try clear c28
                        try clear c34
                        try clear c35
                        try clear c42
                        try clear c42b0
                        try clear c42b1
                        try clear c43
                        try clear c43b0
                        try clear c43b1
                        try clear c44
                        try clear c44b0
                        try clear c44b1
                        try clear c45
                        try clear c45b0
                        try clear c45b1
                        try clear c46
                        try clear c46b0
                        try clear c46b1
                        try clear c48
                        try clear c49
                        try clear c51
                        try clear c52
                        try clear c54
                        try clear c55
                        try clear c55b0
                        try clear hcz22_0
                        try clear hcz22_1
                        try clear hcz28_0
                        try clear hcz28_1
                        try clear hcz30_0
                        try clear hcz30_1
                        try clear hcz36_0
                        try clear hcz36_1
                        try clear hcz38_0
                        try clear hcz38_1
                        try clear hcz40_0
                        try clear hcz40_1
                        try clear hcz50_0
                        try clear hcz50_1
                        try clear hcz52_0
                        try clear hcz52_1
                        try clear hfz22_0
                        try clear hfz22_1
                        try clear hfz28_0
                        try clear hfz28_1
                        try clear hfz30_0
                        try clear hfz30_1
                        try clear hfz36_0
                        try clear hfz36_1
                        try clear hfz38_0
                        try clear hfz38_1
                        try clear hfz40_0
                        try clear hfz40_1
                        try clear hfz50_0
                        try clear hfz50_1
                        try clear hfz52_0
                        try clear hfz52_1
                        try clear p2
                        obtain ⟨x13_4, x18_4, rfl, rfl, HA, HK4, HO_181000, HO_181001, HO_189000, HO_189001, HO_197000, HO_197001, BK180, BK188, BK196, HB⟩ := hrel
                        cases gk with
                        | zero => exact absurd HA.out (by simp [pantilelaw03_BoxNest.l1])
                        | succ k4 =>
                          have H := HA.out
                          clear HA
                          simp only [pantilelaw03_BoxNest.l1] at H
                          by_cases c56 : x18_4 < (l0.length : Int)
                          · rw [if_pos c56] at H
                            have c56b0 : decide (x18_4 < (l0.length : Int)) = true := decide_eq_true c56
                            clear c56
                            by_cases c57 : x13_4 > 9223372036854775807
                            · rw [if_pos c57] at H
                              have c57b0 : decide (9223372036854775807 < x13_4) = true := decide_eq_true c57
                              clear c57
                              have H' := Aside0.mk H
                              clear H
                              go_wp2
                              go_roundg k4
                              case measure => have := HJ5.out; have := HJ17.out; have := HK3.out; have := HK4.out; omega
                              case rel => exact ⟨(18446744073709551615), (wrap64 (x18_4 + 1)), (by first | rfl | (simp; done) | (simp [*]; done)), (by first | rfl | (simp; done) | (simp [*]; done)), H', ⟨by have := HJ5.out; have := HJ17.out; have := HK3.out; have := HK4.out; omega⟩, ⟨by (with_reducible repeat (first | apply Kd.R_alloc | apply Kd.R_drewN | apply Kd.R_drew)); exact HO_181000.out⟩, ⟨by (with_reducible repeat (first | apply Kd.R_alloc | apply Kd.R_drewN | apply Kd.R_drew)); exact HO_181001.out⟩, ⟨by (with_reducible repeat (first | apply Kd.R_alloc | apply Kd.R_drewN | apply Kd.R_drew)); exact HO_189000.out⟩, ⟨by (with_reducible repeat (first | apply Kd.R_alloc | apply Kd.R_drewN | apply Kd.R_drew)); exact HO_189001.out⟩, ⟨by (with_reducible repeat (first | apply Kd.R_alloc | apply Kd.R_drewN | apply Kd.R_drew)); exact HO_197000.out⟩, ⟨by (with_reducible repeat (first | apply Kd.R_alloc | apply Kd.R_drewN | apply Kd.R_drew)); exact HO_197001.out⟩, ⟨by (with_reducible repeat (first | refine blk_drewN ?_ _ | refine blk_drew ?_ | refine blk_alloc ?_ _)); exact BK180.out⟩, ⟨by (with_reducible repeat (first | refine blk_drewN ?_ _ | refine blk_drew ?_ | refine blk_alloc ?_ _)); exact BK188.out⟩, ⟨by (with_reducible repeat (first | refine blk_drewN ?_ _ | refine blk_drew ?_ | refine blk_alloc ?_ _)); exact BK196.out⟩, ⟨by repeat (first | (with_reducible first | exact HB.out | apply below_alloc | apply pw_below_drewN | apply below_drew1 | refine below_set ?_ GE180.out | refine below_set ?_ GE188.out | refine below_set ?_ GE196.out) | exact HB.out)⟩⟩
                            · rw [if_neg c57] at H
                              have c57b0 : decide (9223372036854775807 < x13_4) = false := decide_eq_false c57
                              clear c57
                              have H' := Aside0.mk H
                              clear H
                              go_wp2
                              go_roundg k4
                              case measure => have := HJ5.out; have := HJ17.out; have := HK3.out; have := HK4.out; omega
                              case rel => exact ⟨(IntKind.u64.wrap (2 * x13_4)), (wrap64 (x18_4 + 1)), (by first | rfl | (simp; done) | (simp [*]; done)), (by first | rfl | (simp; done) | (simp [*]; done)), H', ⟨by have := HJ5.out; have := HJ17.out; have := HK3.out; have := HK4.out; omega⟩, ⟨by (with_reducible repeat (first | apply Kd.R_alloc | apply Kd.R_drewN | apply Kd.R_drew)); exact HO_181000.out⟩, ⟨by (with_reducible repeat (first | apply Kd.R_alloc | apply Kd.R_drewN | apply Kd.R_drew)); exact HO_181001.out⟩, ⟨by (with_reducible repeat (first | apply Kd.R_alloc | apply Kd.R_drewN | apply Kd.R_drew)); exact HO_189000.out⟩, ⟨by (with_reducible repeat (first | apply Kd.R_alloc | apply Kd.R_drewN | apply Kd.R_drew)); exact HO_189001.out⟩, ⟨by (with_reducible repeat (first | apply Kd.R_alloc | apply Kd.R_drewN | apply Kd.R_drew)); exact HO_197000.out⟩, ⟨by (with_reducible repeat (first | apply Kd.R_alloc | apply Kd.R_drewN | apply Kd.R_drew)); exact HO_197001.out⟩, ⟨by (with_reducible repeat (first | refine blk_drewN ?_ _ | refine blk_drew ?_ | refine blk_alloc ?_ _)); exact BK180.out⟩, ⟨by (with_reducible repeat (first | refine blk_drewN ?_ _ | refine blk_drew ?_ | refine blk_alloc ?_ _)); exact BK188.out⟩, ⟨by (with_reducible repeat (first | refine blk_drewN ?_ _ | refine blk_drew ?_ | refine blk_alloc ?_ _)); exact BK196.out⟩, ⟨by repeat (first | (with_reducible first | exact HB.out | apply below_alloc | apply pw_below_drewN | apply below_drew1 | refine below_set ?_ GE180.out | refine below_set ?_ GE188.out | refine below_set ?_ GE196.out) | exact HB.out)⟩⟩
                          · rw [if_neg c56] at H
                            have c56b0 : decide (x18_4 < (l0.length : Int)) = false := decide_eq_false c56
                            clear c56
                            have H' := Aside0.mk H
                            clear H
                            go_wp2
                            go_roundg k4
                            case measure => have := HJ5.out; have := HJ17.out; have := HK3.out; have := HK4.out; omega
                            case rel => exact ⟨(x13_4), (wrap64 (x17_3 + 1)), (by first | rfl | (simp; done) | (simp [*]; done)), (by first | rfl | (simp; done) | (simp [*]; done)), H', ⟨by have := HJ5.out; have := HJ17.out; have := HK3.out; have := HK4.out; omega⟩, ⟨by (with_reducible repeat (first | apply Kd.R_alloc | apply Kd.R_drewN | apply Kd.R_drew)); exact HO_181000.out⟩, ⟨by (with_reducible repeat (first | apply Kd.R_alloc | apply Kd.R_drewN | apply Kd.R_drew)); exact HO_181001.out⟩, ⟨by (with_reducible repeat (first | apply Kd.R_alloc | apply Kd.R_drewN | apply Kd.R_drew)); exact HO_189000.out⟩, ⟨by (with_reducible repeat (first | apply Kd.R_alloc | apply Kd.R_drewN | apply Kd.R_drew)); exact HO_189001.out⟩, ⟨by (with_reducible repeat (first | apply Kd.R_alloc | apply Kd.R_drewN | apply Kd.R_drew)); exact HO_197000.out⟩, ⟨by (with_reducible repeat (first | apply Kd.R_alloc | apply Kd.R_drewN | apply Kd.R_drew)); exact HO_197001.out⟩, ⟨by (with_reducible repeat (first | refine blk_drewN ?_ _ | refine blk_drew ?_ | refine blk_alloc ?_ _)); exact BK180.out⟩, ⟨by (with_reducible repeat (first | refine blk_drewN ?_ _ | refine blk_drew ?_ | refine blk_alloc ?_ _)); exact BK188.out⟩, ⟨by (with_reducible repeat (first | refine blk_drewN ?_ _ | refine blk_drew ?_ | refine blk_alloc ?_ _)); exact BK196.out⟩, ⟨by repeat (first | (with_reducible first | exact HB.out | apply below_alloc | apply pw_below_drewN | apply below_drew1 | refine below_set ?_ GE180.out | refine below_set ?_ GE188.out | refine below_set ?_ GE196.out) | exact HB.out)⟩⟩
                    · rw [if_neg c55] at H
                      have c55b0 : decide (x17_3 < a2) = false := decide_eq_false c55
                      clear c55
                      obtain rfl := Option.some.inj H
                      go_wp2
                      go_ret
                      exact ⟨by first | rfl | (simp [errW_none, errW_some] <;> rfl) | (simp [*, errW_none, errW_some] <;> rfl), by repeat (first | (with_reducible first | exact HB.out | apply below_alloc | apply pw_below_drewN | apply below_drew1 | refine below_set ?_ GE180.out | refine below_set ?_ GE188.out | refine below_set ?_ GE196.out) | exact HB.out)⟩
  · replace c5 := Bool.eq_false_iff.mpr c5
    subst c5
    have H1 : (some false) = some r := by rw [if_neg (show ¬ (false = true) by decide)] at H; exact H
    clear H
    have H := H1
    clear H1
    exact Bool.noConfusion ((Option.some.inj H).trans HRT.out)

/-- THE ONE PURE STATEMENT of pantilelaw03_BoxNest: yours. -/
def pantilelaw03_BoxNest.Pure : Prop := ∀ (l0 : List Int) (a1 : Int) (a2 : Int), l0.length ≤ maxLen → l0.length * 8 ≤ 140737488351232 → (∀ x ∈ l0, (Lit.int .u64 x).wf = true) → (Lit.int .i64 a1).wf = true → (Lit.int .i64 a2).wf = true → ∃ k, pantilelaw03_BoxNest.f k l0 a1 a2 = some true
theorem pantilelaw03_BoxNest.walk (P : pantilelaw03_BoxNest.Pure) (a0 : Option Addr) (len0 cap0 : Nat) (z0 : List Int) (a1 : Int) (a2 : Int) (w : World) (w0 : (a0 = none ∧ len0 = 0 ∧ cap0 = 0 ∧ z0 = []) ∨ ∃ x, a0 = some x ∧ len0 ≤ cap0 ∧ cap0 ≤ maxLen ∧ z0.length = cap0 ∧ (∀ i, i < z0.length → w.cell? (x.add i) = some (.int .u64 (z0.getD i 0))) ∧ ∀ n ∈ z0, (Lit.int .u64 n).wf = true) (y0 : len0 * 8 ≤ 140737488351232) (w1 : (Lit.int .i64 a1).wf = true) (w2 : (Lit.int .i64 a2).wf = true) :
    Calls Try.prog 9 #[.slice a0 len0 cap0, .int .i64 a1, .int .i64 a2] w fun e w' => e = .returned (.bool true) ∧ Below w.heap.size w w' := by
  obtain ⟨l0, rfl, hr0, hm0, hw0, hc0⟩ := ReadsInt.ofRowC w0
  obtain ⟨k, h⟩ := P l0 a1 a2 hm0 y0 hw0 w1 w2
  refine (pantilelaw03_BoxNest.calls k _ _ l0 a1 a2 true w (Kd.C_of_reads (d := (0 : Int)) (h1 := fun _ => rfl) hr0) hc0 rfl h).mono ?_
  rintro e w' ⟨rfl, hd⟩
  exact ⟨rfl, hd⟩

end Go.Proofs.Ythdphjbecibeaaa.PBoxNest
