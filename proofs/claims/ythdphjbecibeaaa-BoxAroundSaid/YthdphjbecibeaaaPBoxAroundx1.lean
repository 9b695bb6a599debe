-- Written by wip/tools/print2.py, a program of this session, over the kit's print of the program. Lean checks it.
import Derived.Test.YthdphjbecibeaaaPBoxAroundx0
namespace Go.Proofs.Ythdphjbecibeaaa.PBoxAround
open Go.RowKit Go.Proofs.YthdphjbecibeaaaW.PrintWords Go.Proofs.YthdphjbecibeaaaW.PrintLast Go.Proofs.YthdphjbecibeaaaW.PrintMore
attribute [local go_sem] max2_int min2_int max_two min_two max_three min_three max_four min_four   -- for this text's walks alone
set_option linter.unusedVariables false
set_option linter.unusedSimpArgs false

/-! ### pantileref01_Bit: function 87 -/
def pantileref01_Bit.f (a0 : Int) (a1 : Int) : Option (Int) := if 0 ≤ a1 then (some (wrap64 (Int.tmod (shr .u64 a0 a1) 2))) else (none)
set_option maxHeartbeats 8000000 in
set_option maxRecDepth 100000 in
theorem pantileref01_Bit.calls (a0 : Int) (a1 : Int) (r : Int) (w : World) (h : pantileref01_Bit.f a0 a1 = some r) :
    Calls Try.prog 87 #[.int .u64 a0, .int .i64 a1] w fun e w' => e = .returned (.int .i64 r) ∧ Drawn0 w w' := by
  have H : (if 0 ≤ a1 then (some (wrap64 (Int.tmod (shr .u64 a0 a1) 2))) else (none)) = some r := h
  clear h
  by_cases c3 : 0 ≤ a1
  · rw [if_pos c3] at H
    have c3b0 := eq_true c3
    have c3b1 : decide (0 ≤ a1) = true := decide_eq_true c3
    clear c3
    obtain ⟨ji4, hji4⟩ : ∃ j_ : Int, (shr .u64 a0 a1) = j_ := ⟨_, rfl⟩
    replace H : (some (wrap64 (Int.tmod (ji4) 2))) = some r := by first | (rw [hji4] at H; exact H) | (simp only [hji4] at H ⊢; exact H)
    have hji4_ : (a0 / 2 ^ min a1.toNat 64) = ji4 := hji4
    have hji4z : a1 ≤ 64 → (a0 / 2 ^ a1.toNat) = ji4 := shr_small hji4
    obtain rfl := Option.some.inj H
    go_enter Try.func87, Try.ntmps87
    go_wp2
    go_ret
    exact ⟨by first | rfl | (simp; done) | (simp only [← hji4] <;> (first | rfl | simp)) | (simp [*]; done), by repeat (first | exact Drawn0.refl _ | apply Drawn0.step)⟩
  · rw [if_neg c3] at H
    exact absurd H (by simp)

/-! ### pantileref01_Addr: function 47 -/
def pantileref01_Addr.l0 : Nat → List Int → Int → Int → Int → Option (Int)
  | 0, _, _, _, _ => none
  | k + 1, x0, x1, x5, x6 => if x6 < (x0.length : Int) then (if 0 ≤ x6 then ((pantileref01_Bit.f (rd x0 x6) x1).bind fun t102 => (pantileref01_Addr.l0 k x0 x1 (wrap64 ((wrap64 (2 * x5)) + t102)) (wrap64 (x6 + 1)))) else (none)) else (some x5)
def pantileref01_Addr.f (k : Nat) (l0 : List Int) (a1 : Int) : Option (Int) := pantileref01_Addr.l0 k l0 a1 0 0
theorem pantileref01_Addr.mono_l : ∀ k, (∀ y0 y1 y2 y3, LeO (pantileref01_Addr.l0 k y0 y1 y2 y3) (pantileref01_Addr.l0 (k + 1) y0 y1 y2 y3))
  | 0 => fun _ _ _ _ r h => by simp [pantileref01_Addr.l0] at h
  | k + 1 => by
    have ih0 := pantileref01_Addr.mono_l k
    · intro y0 y1 y2 y3
      unfold pantileref01_Addr.l0
      repeat' first
      | (with_reducible exact ih0 _ _ _ _)
      | (with_reducible exact LeO.refl _)
      | (with_reducible exact LeO.none _)
      | (with_reducible refine LeO.ite ?_ ?_)
      | (with_reducible refine LeO.bind ?_ (fun _ => ?_))
      | exact ih0 _ _ _ _
      | exact LeO.none _
      | refine LeO.ite ?_ ?_
      | refine LeO.bind ?_ (fun _ => ?_)
theorem pantileref01_Addr.mono : ∀ a0 a1 k, LeO (pantileref01_Addr.f k a0 a1) (pantileref01_Addr.f (k + 1) a0 a1) := by
  intro a0 a1 k
  have ih0 := pantileref01_Addr.mono_l k
  unfold pantileref01_Addr.f
  repeat' first
      | (with_reducible exact ih0 _ _ _ _)
      | (with_reducible exact LeO.refl _)
      | (with_reducible exact LeO.none _)
      | (with_reducible refine LeO.ite ?_ ?_)
      | (with_reducible refine LeO.bind ?_ (fun _ => ?_))
      | exact ih0 _ _ _ _
      | exact LeO.none _
      | refine LeO.ite ?_ ?_
      | refine LeO.bind ?_ (fun _ => ?_)
set_option maxHeartbeats 8000000 in
set_option maxRecDepth 100000 in
theorem pantileref01_Addr.calls (k : Nat) (A0 : Option Addr) (c0 : Nat) (l0 : List Int) (a1 : Int) (r : Int) (w : World) (hr0 : Kd.C (Kd.int .u64) w A0 l0.length l0) (hc0 : l0.length ≤ c0) (h : pantileref01_Addr.f k l0 a1 = some r) :
    Calls Try.prog 47 #[.slice A0 l0.length c0, .int .i64 a1] w fun e w' => e = .returned (.int .i64 r) ∧ Drawn0 w w' := by
  have HR0 := Aside0.mk hr0
  have HC0 := Aside0.mk hc0
  clear hr0 hc0
  have H : (pantileref01_Addr.l0 k l0 a1 0 0) = some r := h
  clear h
  have H' := Aside0.mk H
  clear H
  go_enter Try.func47, Try.ntmps47
  go_wp2
  go_loopg [5, 6] k (fun kq v5 v6 w' => ∃ (x5_1 : Int) (x6_1 : Int), v5 = .int .i64 x5_1 ∧ v6 = .int .i64 x6_1 ∧ Aside0 (pantileref01_Addr.l0 kq l0 a1 x5_1 x6_1 = some r) ∧ Aside0 (kq ≤ k) ∧ Drawn0 w w')
  case atStart => exact ⟨(0), (0), (by first | rfl | (simp; done) | (simp [*]; done)), (by first | rfl | (simp; done) | (simp [*]; done)), H', ⟨Nat.le_refl _⟩, by repeat (first | exact Drawn0.refl _ | apply Drawn0.step)⟩
  case round =>
    clear H'
    try clear p2
    obtain ⟨x5_1, x6_1, rfl, rfl, HA, HK1, ⟨m1, rfl⟩⟩ := hrel
    cases gk with
    | zero => exact absurd HA.out (by simp [pantileref01_Addr.l0])
    | succ k1 =>
      have H := HA.out
      clear HA
      simp only [pantileref01_Addr.l0] at H
      by_cases c3 : x6_1 < (l0.length : Int)
      · rw [if_pos c3] at H
        have c3b0 : decide (x6_1 < (l0.length : Int)) = true := decide_eq_true c3
        clear c3
        by_cases c4 : 0 ≤ x6_1
        · rw [if_pos c4] at H
          have c4b0 : decide (0 ≤ x6_1) = true := decide_eq_true c4
          clear c4
          replace H := Option.bind_eq_some_iff.mp H
          obtain ⟨t102, A50, H⟩ := H
          replace H : (pantileref01_Addr.l0 k1 l0 a1 (wrap64 ((wrap64 (2 * x5_1)) + t102)) (wrap64 (x6_1 + 1))) = some r := H
          have A5 := Aside0.mk A50
          clear A50
          have H' := Aside0.mk H
          clear H
          have p101 : 0 ≤ (x6_1 : Int) := of_decide_eq_true (by first | (with_reducible assumption) | assumption)
          have q101 : x6_1 < (l0.length : Int) := of_decide_eq_true (by first | (with_reducible assumption) | assumption)
          obtain ⟨ad101, e101, hx101_0⟩ := Kd.at_int HR0.out x6_1 p101 q101
          cases e101
          replace p101 := eq_true p101
          replace q101 := eq_true q101
          go_wp2_with (first | ((with_reducible refine gate_callee (f := 87) rfl ?_); refine goesL_ (some 20) rfl rfl Try.func87 (by kernel_rfl) rfl #[.int .u64 (rd l0 x6_1), .int .i64 a1] rfl (by (try simp only [List.map_toArray, List.map_cons, List.map_nil]); first | done | rfl | (simp only [List.length_drop, List.length_take]; rfl)) ?_; (with_reducible refine (pantileref01_Bit.calls (rd l0 x6_1) a1 t102 _ A5.out).mono ?_); rintro e w' ⟨rfl, ⟨nd, rfl⟩⟩; refine ⟨_, rfl, ?_⟩))
          go_roundg k1
          case measure => have := HK1.out; omega
          case rel => exact ⟨(wrap64 ((wrap64 (2 * x5_1)) + t102)), (wrap64 (x6_1 + 1)), (by first | rfl | (simp; done) | (simp [*]; done)), (by first | rfl | (simp; done) | (simp [*]; done)), H', ⟨by have := HK1.out; omega⟩, by repeat (first | exact Drawn0.refl _ | apply Drawn0.step)⟩
        · rw [if_neg c4] at H
          exact absurd H (by simp)
      · rw [if_neg c3] at H
        have c3b0 : decide (x6_1 < (l0.length : Int)) = false := decide_eq_false c3
        clear c3
        obtain rfl := Option.some.inj H
        go_wp2
        go_ret
        exact ⟨by first | rfl | (simp; done) | (simp [*]; done), by repeat (first | exact Drawn0.refl _ | apply Drawn0.step)⟩

/-! ### pantileref01_Part: function 22 -/
def pantileref01_Part.l0 : Nat → List Int → List Int → Int → Option (Int)
  | 0, _, _, _ => none
  | k + 1, x0, x1, x5 => if x5 ≥ 0 then ((pantileref01_Addr.f k x0 x5).bind fun t103 => ((pantileref01_Addr.f k x1 x5).bind fun t104 => (if t103 = t104 then (pantileref01_Part.l0 k x0 x1 (wrap64 (x5 - 1))) else (some x5)))) else (some (-1))
def pantileref01_Part.f (k : Nat) (l0 : List Int) (l1 : List Int) : Option (Int) := pantileref01_Part.l0 k l0 l1 63
theorem pantileref01_Part.mono_l : ∀ k, (∀ y0 y1 y2, LeO (pantileref01_Part.l0 k y0 y1 y2) (pantileref01_Part.l0 (k + 1) y0 y1 y2))
  | 0 => fun _ _ _ r h => by simp [pantileref01_Part.l0] at h
  | k + 1 => by
    have ih0 := pantileref01_Part.mono_l k
    · intro y0 y1 y2
      unfold pantileref01_Part.l0
      repeat' first
      | (with_reducible exact ih0 _ _ _)
      | (with_reducible exact pantileref01_Addr.mono _ _ _)
      | (with_reducible exact LeO.refl _)
      | (with_reducible exact LeO.none _)
      | (with_reducible refine LeO.ite ?_ ?_)
      | (with_reducible refine LeO.bind ?_ (fun _ => ?_))
      | exact ih0 _ _ _
      | exact pantileref01_Addr.mono _ _ _
      | exact LeO.none _
      | refine LeO.ite ?_ ?_
      | refine LeO.bind ?_ (fun _ => ?_)
theorem pantileref01_Part.mono : ∀ a0 a1 k, LeO (pantileref01_Part.f k a0 a1) (pantileref01_Part.f (k + 1) a0 a1) := by
  intro a0 a1 k
  have ih0 := pantileref01_Part.mono_l k
  unfold pantileref01_Part.f
  repeat' first
      | (with_reducible exact ih0 _ _ _)
      | (with_reducible exact pantileref01_Addr.mono _ _ _)
      | (with_reducible exact LeO.refl _)
      | (with_reducible exact LeO.none _)
      | (with_reducible refine LeO.ite ?_ ?_)
      | (with_reducible refine LeO.bind ?_ (fun _ => ?_))
      | exact ih0 _ _ _
      | exact pantileref01_Addr.mono _ _ _
      | exact LeO.none _
      | refine LeO.ite ?_ ?_
      | refine LeO.bind ?_ (fun _ => ?_)
set_option maxHeartbeats 8000000 in
set_option maxRecDepth 100000 in
theorem pantileref01_Part.calls (k : Nat) (A0 : Option Addr) (c0 : Nat) (l0 : List Int) (A1 : Option Addr) (c1 : Nat) (l1 : List Int) (r : Int) (w : World) (hr0 : Kd.C (Kd.int .u64) w A0 l0.length l0) (hc0 : l0.length ≤ c0) (hr1 : Kd.C (Kd.int .u64) w A1 l1.length l1) (hc1 : l1.length ≤ c1) (h : pantileref01_Part.f k l0 l1 = some r) :
    Calls Try.prog 22 #[.slice A0 l0.length c0, .slice A1 l1.length c1] w fun e w' => e = .returned (.int .i64 r) ∧ Drawn0 w w' := by
  have HR0 := Aside0.mk hr0
  have HC0 := Aside0.mk hc0
  clear hr0 hc0
  have HR1 := Aside0.mk hr1
  have HC1 := Aside0.mk hc1
  clear hr1 hc1
  have H : (pantileref01_Part.l0 k l0 l1 63) = some r := h
  clear h
  have H' := Aside0.mk H
  clear H
  go_enter Try.func22, Try.ntmps22
  go_wp2
  go_loopg [5] k (fun kq v5 w' => ∃ (x5_1 : Int), v5 = .int .i64 x5_1 ∧ Aside0 (pantileref01_Part.l0 kq l0 l1 x5_1 = some r) ∧ Aside0 (kq ≤ k) ∧ Drawn0 w w')
  case atStart => exact ⟨(63), (by first | rfl | (simp; done) | (simp [*]; done)), H', ⟨Nat.le_refl _⟩, by repeat (first | exact Drawn0.refl _ | apply Drawn0.step)⟩
  case round =>
    clear H'
    try clear c1
    try clear c2
    try clear p2
    obtain ⟨x5_1, rfl, HA, HK1, ⟨m1, rfl⟩⟩ := hrel
    cases gk with
    | zero => exact absurd HA.out (by simp [pantileref01_Part.l0])
    | succ k1 =>
      have H := HA.out
      clear HA
      simp only [pantileref01_Part.l0] at H
      by_cases c3 : x5_1 ≥ 0
      · rw [if_pos c3] at H
        have c3b0 : decide (0 ≤ x5_1) = true := decide_eq_true c3
        clear c3
        replace H := Option.bind_eq_some_iff.mp H
        obtain ⟨t103, A40, H⟩ := H
        replace H : ((pantileref01_Addr.f k1 l1 x5_1).bind fun t104 => (if t103 = t104 then (pantileref01_Part.l0 k1 l0 l1 (wrap64 (x5_1 - 1))) else (some x5_1))) = some r := H
        have A4 := Aside0.mk A40
        clear A40
        replace H := Option.bind_eq_some_iff.mp H
        obtain ⟨t104, A50, H⟩ := H
        replace H : (if t103 = t104 then (pantileref01_Part.l0 k1 l0 l1 (wrap64 (x5_1 - 1))) else (some x5_1)) = some r := H
        have A5 := Aside0.mk A50
        clear A50
        by_cases c6 : t103 = t104
        · rw [if_pos c6] at H
          have c6b0 : (t103 == t104) = true := beq_iff_eq.mpr c6
          have c6b1 : (t103 != t104) = false := bne_eq_false_iff_eq.mpr c6
          clear c6
          have H' := Aside0.mk H
          clear H
          go_wp2_with (first | ((with_reducible refine gate_callee (f := 47) rfl ?_); refine goesL_ (some 12) rfl rfl Try.func47 (by kernel_rfl) rfl #[.slice A0 l0.length c0, .int .i64 x5_1] rfl (by (try simp only [List.map_toArray, List.map_cons, List.map_nil]); first | done | rfl | (simp only [List.length_drop, List.length_take]; rfl)) ?_; (with_reducible refine (pantileref01_Addr.calls k1 _ _ l0 x5_1 t103 _ ?side1 ?side2 A4.out).mono ?_); (case side1 => repeat (first | exact HR0.out | (with_reducible refine Kd.C_alloc ?_ _) | (with_reducible refine Kd.C_drewN ?_ _) | (with_reducible refine Kd.C_drew ?_))); (case side2 => exact HC0.out); rintro e w' ⟨rfl, ⟨nd, rfl⟩⟩; refine ⟨_, rfl, ?_⟩) | ((with_reducible refine gate_callee (f := 47) rfl ?_); refine goesL_ (some 15) rfl rfl Try.func47 (by kernel_rfl) rfl #[.slice A1 l1.length c1, .int .i64 x5_1] rfl (by (try simp only [List.map_toArray, List.map_cons, List.map_nil]); first | done | rfl | (simp only [List.length_drop, List.length_take]; rfl)) ?_; (with_reducible refine (pantileref01_Addr.calls k1 _ _ l1 x5_1 t104 _ ?side1 ?side2 A5.out).mono ?_); (case side1 => repeat (first | exact HR1.out | (with_reducible refine Kd.C_alloc ?_ _) | (with_reducible refine Kd.C_drewN ?_ _) | (with_reducible refine Kd.C_drew ?_))); (case side2 => exact HC1.out); rintro e w' ⟨rfl, ⟨nd, rfl⟩⟩; refine ⟨_, rfl, ?_⟩))
          go_roundg k1
          case measure => have := HK1.out; omega
          case rel => exact ⟨(wrap64 (x5_1 - 1)), (by first | rfl | (simp; done) | (simp [*]; done)), H', ⟨by have := HK1.out; omega⟩, by repeat (first | exact Drawn0.refl _ | apply Drawn0.step)⟩
        · rw [if_neg c6] at H
          have c6b0 : (t103 == t104) = false := beq_eq_false_iff_ne.mpr c6
          have c6b1 : (t103 != t104) = true := bne_iff_ne.mpr c6
          obtain rfl := Option.some.inj H
          go_wp2_with (first | ((with_reducible refine gate_callee (f := 47) rfl ?_); refine goesL_ (some 12) rfl rfl Try.func47 (by kernel_rfl) rfl #[.slice A0 l0.length c0, .int .i64 x5_1] rfl (by (try simp only [List.map_toArray, List.map_cons, List.map_nil]); first | done | rfl | (simp only [List.length_drop, List.length_take]; rfl)) ?_; (with_reducible refine (pantileref01_Addr.calls k1 _ _ l0 x5_1 t103 _ ?side1 ?side2 A4.out).mono ?_); (case side1 => repeat (first | exact HR0.out | (with_reducible refine Kd.C_alloc ?_ _) | (with_reducible refine Kd.C_drewN ?_ _) | (with_reducible refine Kd.C_drew ?_))); (case side2 => exact HC0.out); rintro e w' ⟨rfl, ⟨nd, rfl⟩⟩; refine ⟨_, rfl, ?_⟩) | ((with_reducible refine gate_callee (f := 47) rfl ?_); refine goesL_ (some 15) rfl rfl Try.func47 (by kernel_rfl) rfl #[.slice A1 l1.length c1, .int .i64 x5_1] rfl (by (try simp only [List.map_toArray, List.map_cons, List.map_nil]); first | done | rfl | (simp only [List.length_drop, List.length_take]; rfl)) ?_; (with_reducible refine (pantileref01_Addr.calls k1 _ _ l1 x5_1 t104 _ ?side1 ?side2 A5.out).mono ?_); (case side1 => repeat (first | exact HR1.out | (with_reducible refine Kd.C_alloc ?_ _) | (with_reducible refine Kd.C_drewN ?_ _) | (with_reducible refine Kd.C_drew ?_))); (case side2 => exact HC1.out); rintro e w' ⟨rfl, ⟨nd, rfl⟩⟩; refine ⟨_, rfl, ?_⟩))
          go_ret
          exact ⟨by first | rfl | (simp; done) | (simp [*]; done), by repeat (first | exact Drawn0.refl _ | apply Drawn0.step)⟩
      · rw [if_neg c3] at H
        have c3b0 : decide (0 ≤ x5_1) = false := decide_eq_false c3
        clear c3
        obtain rfl := Option.some.inj H
        go_wp2
        go_ret
        exact ⟨by first | rfl | (simp; done) | (simp [*]; done), by repeat (first | exact Drawn0.refl _ | apply Drawn0.step)⟩

/-! ### zbits_Right: function 45 -/
def zbits_Right.f (l0 : List Int) : Option (Bool) := if (l0.length : Int) ≥ 1 then (some (decide ((l0.length : Int) ≤ 16))) else (some false)
set_option maxHeartbeats 8000000 in
set_option maxRecDepth 100000 in
theorem zbits_Right.calls (A0 : Option Addr) (c0 : Nat) (l0 : List Int) (r : Bool) (w : World) (hr0 : Kd.C (Kd.int .u64) w A0 l0.length l0) (hc0 : l0.length ≤ c0) (h : zbits_Right.f l0 = some r) :
    Calls Try.prog 45 #[.slice A0 l0.length c0] w fun e w' => e = .returned (.bool r) ∧ Drawn0 w w' := by
  have HR0 := Aside0.mk hr0
  have HC0 := Aside0.mk hc0
  clear hr0 hc0
  have H : (if (l0.length : Int) ≥ 1 then (some (decide ((l0.length : Int) ≤ 16))) else (some false)) = some r := h
  clear h
  by_cases c2 : (l0.length : Int) ≥ 1
  · rw [if_pos c2] at H
    have c2b0 : decide (1 ≤ (l0.length : Int)) = true := decide_eq_true c2
    have c2b1 : decide (1 ≤ l0.length) = true := decide_eq_true (by omega)
    clear c2
    obtain rfl := Option.some.inj H
    go_enter Try.func45, Try.ntmps45
    go_wp2
    go_ret
    exact ⟨by first | rfl | (simp; done) | (simp [*]; done), by repeat (first | exact Drawn0.refl _ | apply Drawn0.step)⟩
  · rw [if_neg c2] at H
    have c2b0 : decide (1 ≤ (l0.length : Int)) = false := decide_eq_false c2
    have c2b1 : decide (1 ≤ l0.length) = false := decide_eq_false (by omega)
    clear c2
    obtain rfl := Option.some.inj H
    go_enter Try.func45, Try.ntmps45
    go_wp2
    go_ret
    exact ⟨by first | rfl | (simp; done) | (simp [*]; done), by repeat (first | exact Drawn0.refl _ | apply Drawn0.step)⟩

-- NOT PRINTED: function 74 (box_each)

/-! ### box_Around: function 25: by hand -/
def box_Around.f (l0 : List Int) (a1 : Int) : Option (List Int × List Int × Int) := (zbits_Right.f l0).bind fun t => if t = true then some (Go.Proofs.YthdphjbecibeaaaHe.mkI l0.length (fun i => Go.Proofs.YthdphjbecibeaaaHe.arLo (rd l0 i) a1), Go.Proofs.YthdphjbecibeaaaHe.mkI l0.length (fun i => Go.Proofs.YthdphjbecibeaaaHe.arHi (rd l0 i) a1), 0) else some ([], [], 2)
set_option maxHeartbeats 1600000 in
set_option maxRecDepth 100000 in
theorem box_Around.calls (A0 : Option Addr) (c0 : Nat) (l0 : List Int) (a1 : Int) (r1 : List Int) (r2 : List Int) (r3 : Int) (w : World) (hr0 : Kd.C (Kd.int .u64) w A0 l0.length l0) (hc0 : l0.length ≤ c0) (h : box_Around.f l0 a1 = some (r1, r2, r3)) :
    Calls Try.prog 25 #[.slice A0 l0.length c0, .int .u64 a1] w fun e w' => ∃ v0_ v1_ : Value, e = .returned (.tuple #[.agg #[v0_, v1_], .int .i64 r3]) ∧ Kd.R (Kd.int .u64) 30 w' w.heap.size (fun k_ => some k_ ≠ (v1_ : Value).ownBlock) v0_ r1 ∧ Kd.R (Kd.int .u64) 30 w' w.heap.size (fun k_ => some k_ ≠ (v0_ : Value).ownBlock) v1_ r2 ∧ Below w.heap.size w w' := by
  have hu32 := Try.underlying32
  obtain ⟨t, ht, H⟩ := Option.bind_eq_some_iff.mp h
  have HT := Aside0.mk ht
  have HC0 := Aside0.mk hc0
  have HR0 := Aside0.mk hr0
  clear h ht hc0 hr0
  have hmf : ∀ (fn : Fn) (first cap : Array Value) (w : World), (Instr.makeFunc fn first cap).run Try.prog w = .ok (.func fn first cap) w := fun _ _ _ _ => rfl
  have hC3 : ∀ o0 o1 o2, Kd.C (Kd.int .u64) (((w.alloc o0).alloc o1).alloc o2) A0 l0.length l0 := fun o0 o1 o2 => Kd.C_below HR0.out (below_alloc (below_alloc (below_alloc (Below.refl _ _) o0) o1) o2)
  have HB3 : ∀ o0 o1 o2, Below w.heap.size w (((w.alloc o0).alloc o1).alloc o2) := fun o0 o1 o2 => below_alloc (below_alloc (below_alloc (Below.refl _ _) o0) o1) o2
  have hbk : ∀ o0 o1 o2, (((w.alloc o0).alloc o1).alloc o2).heap[w.heap.size + 1 + 1]? = some o2 := fun o0 o1 o2 => by
    have hh := blk_new ((w.alloc o0).alloc o1) o2
    have e : ((w.alloc o0).alloc o1).heap.size = w.heap.size + 1 + 1 := by simp
    rwa [e] at hh
  have hbk0 : ∀ o0 o1 o2, (((w.alloc o0).alloc o1).alloc o2).heap[w.heap.size]? = some o0 := fun o0 o1 o2 => blk_alloc (blk_alloc (blk_new w o0) o1) o2
  have hbk1 : ∀ o0 o1 o2, (((w.alloc o0).alloc o1).alloc o2).heap[w.heap.size + 1]? = some o1 := fun o0 o1 o2 => by
    have hh := blk_new (w.alloc o0) o1
    have e : (w.alloc o0).heap.size = w.heap.size + 1 := by simp
    rw [e] at hh
    exact blk_alloc hh o2
  cases t with
  | false =>
    rw [if_neg (by simp)] at H
    simp only [Option.some.injEq, Prod.mk.injEq] at H
    obtain ⟨rfl, rfl, rfl⟩ := H
    go_enter Try.func25, Try.ntmps25
    go_wp2_with (go_at_call 45; refine (zbits_Right.calls A0 c0 l0 false _ (hC3 _ _ _) HC0.out HT.out).mono ?_; rintro e w' ⟨rfl, nd, rfl⟩)
    refine bodyPost_ret (results_ct rfl _ _ (w.heap.size + 1 + 1) 32 #[.slice none 0 0, .slice none 0 0] (0, 0) _ rfl ?_ Try.underlying32 rfl (by kernel_rfl)) rfl ?_
    · exact blk_put (cs := #[.slice none 0 0, .slice none 0 0]) (blk_put (cs := #[.slice none 0 0, .slice none 0 0]) (hbk _ _ _) 0 _ rfl) 1 _ rfl
    · exact ⟨_, _, rfl, Kd.R_nil _ _ _ _ _, Kd.R_nil _ _ _ _ _, ((pw_below_drewN (HB3 _ _ _) _).setCell (show w.heap.size ≤ w.heap.size + 1 + 1 by omega) _).setCell (show w.heap.size ≤ w.heap.size + 1 + 1 by omega) _⟩
  | true =>
    rw [if_pos rfl] at H
    simp only [Option.some.injEq, Prod.mk.injEq] at H
    obtain ⟨rfl, rfl, rfl⟩ := H
    have hr16 : l0.length ≤ 1000000 := by
      have hx := HT.out
      unfold zbits_Right.f at hx
      by_cases h1 : (l0.length : Int) ≥ 1
      · rw [if_pos h1] at hx
        have := of_decide_eq_true (Option.some.inj hx)
        omega
      · rw [if_neg h1] at hx
        simp at hx
    have h1r : 1 ≤ l0.length := by
      have hx := HT.out
      unfold zbits_Right.f at hx
      by_cases h1 : (l0.length : Int) ≥ 1
      · omega
      · rw [if_neg h1] at hx
        simp at hx
    obtain ⟨ad, had, _⟩ := HR0.out.2.2 h1r
    subst had
    have hcell : ∀ i : Nat, i < l0.length → w.cell? (ad.add i) = some (.int .u64 (rd l0 i)) := fun i hi => by
      obtain ⟨ad', e, hx⟩ := Kd.at_int HR0.out (i : Int) (by omega) (by omega)
      cases e
      simpa using hx
    have HF : ∀ (o0 o2 : Obj) (m i : Nat) (W : World), i < l0.length → Below ((((w.alloc (.cells #[.slice (some ad) l0.length c0] 22)).alloc (.cells #[.int .u64 a1] 30)).alloc o2).drewN m).heap.size ((((w.alloc (.cells #[.slice (some ad) l0.length c0] 22)).alloc (.cells #[.int .u64 a1] 30)).alloc o2).drewN m) W →
        Calls Try.prog 75 #[.int .i64 i, .pointer (some ⟨w.heap.size, 0, none⟩), .pointer (some ⟨w.heap.size + 1, 0, none⟩)] W fun e W' => e = .returned (.tuple #[.int .u64 (Go.Proofs.YthdphjbecibeaaaHe.arLo (rd l0 i) a1), .int .u64 (Go.Proofs.YthdphjbecibeaaaHe.arHi (rd l0 i) a1)]) ∧ ∃ m, W' = W.drewN m := by
      intro o0 o2 m i W hi hb
      have k0 := blk_below (blk_drewN (hbk0 (.cells #[.slice (some ad) l0.length c0] 22) (.cells #[.int .u64 a1] 30) o2) m) hb
      have k1 := blk_below (blk_drewN (hbk1 (.cells #[.slice (some ad) l0.length c0] 22) (.cells #[.int .u64 a1] 30) o2) m) hb
      have hB := below_then (pw_below_drewN (HB3 (.cells #[.slice (some ad) l0.length c0] 22) (.cells #[.int .u64 a1] 30) o2) m) (pw_below_drewN (HB3 _ _ o2) m).size hb
      exact Go.Proofs.YthdphjbecibeaaaHe.clo75 i _ _ c0 ad l0 a1 W ((blk_cell k0 0).trans rfl) ((blk_cell k1 0).trans rfl) hi ((hB.cell (World.block_lt_of_cell? w _ (hcell i hi))).trans (hcell i hi))
    go_enter Try.func25, Try.ntmps25
    go_wp2_with (go_at_call 45; refine (zbits_Right.calls _ c0 l0 true _ (hC3 _ _ _) HC0.out HT.out).mono ?_; rintro e w' ⟨rfl, nd, rfl⟩)
    go_wp2_with (go_at_call 74; refine (Go.Proofs.YthdphjbecibeaaaHe.eachAround l0.length hr16 w.heap.size (w.heap.size + 1) _ _ _ (HF (.cells #[] 0) _ _)).mono ?_; rintro e w' ⟨gl, gh, rfl, hne, hR0, hR1, hB⟩; have hk := blk_below (blk_drewN (hbk _ _ _) _) hB; have hz0 : w'.cell? ⟨w.heap.size + 1 + 1, 0, none⟩ = some (.slice none 0 0) := (blk_cell hk 0).trans rfl; have hz1 : w'.cell? ⟨w.heap.size + 1 + 1, 1, none⟩ = some (.slice none 0 0) := (blk_cell hk 1).trans rfl; have hy0 := blk_frozen hk 0; have hy1 := blk_frozen hk 1; have HN := Aside0.mk hne; have HK := Aside0.mk hk; have HR0' := Aside0.mk hR0; have HR1' := Aside0.mk hR1; have HB' := Aside0.mk hB; clear hne hk hR0 hR1 hB)
    have hsz : ∀ (o0 o1 o2 : Obj) (m : Nat), ((((w.alloc o0).alloc o1).alloc o2).drewN m).heap.size = w.heap.size + 1 + 1 + 1 := fun o0 o1 o2 m => by simp
    have hR0 := Kd.R_bound HR0'.out
    have hR1 := Kd.R_bound HR1'.out
    have hB := HB'.out
    rw [hsz] at hR0 hR1 hB
    refine bodyPost_ret (results_ct rfl _ _ (w.heap.size + 1 + 1) 32 #[.slice (some ⟨gl, 0, none⟩) l0.length l0.length, .slice (some ⟨gh, 0, none⟩) l0.length l0.length] (0, 0) _ rfl (blk_put (cs := #[.slice (some ⟨gl, 0, none⟩) l0.length l0.length, .slice none 0 0]) (blk_put (cs := #[.slice none 0 0, .slice none 0 0]) HK.out 0 _ rfl) 1 _ rfl) Try.underlying32 rfl (by kernel_rfl)) rfl ?_
    refine ⟨_, _, rfl, ?_, ?_, ?_⟩
    · exact Kd.R_mono (Kd.R_lower (Kd.R_far (Kd.R_far hR0 (fun k hk => show k ≠ w.heap.size + 1 + 1 by have := hk.2.1; omega) _) (fun k hk => show k ≠ w.heap.size + 1 + 1 by have := hk.2.1; omega) _) (by omega)) (fun k hk => by have := hk.1; simpa [Value.ownBlock] using this)
    · exact Kd.R_mono (Kd.R_lower (Kd.R_far (Kd.R_far hR1 (fun k hk => show k ≠ w.heap.size + 1 + 1 by have := hk.2.1; omega) _) (fun k hk => show k ≠ w.heap.size + 1 + 1 by have := hk.2.1; omega) _) (by omega)) (fun k hk => by have := hk.1; simpa [Value.ownBlock] using this)
    · have hb1 := pw_below_drewN (HB3 (.cells #[.slice (some ad) l0.length c0] 22) (.cells #[.int .u64 a1] 30) (.cells #[.slice none 0 0, .slice none 0 0] 32)) nd
      exact ((below_then hb1 hb1.size HB'.out).setCell (show w.heap.size ≤ w.heap.size + 1 + 1 by omega) _).setCell (show w.heap.size ≤ w.heap.size + 1 + 1 by omega) _

/-! ### zbits_level: function 79 -/
def zbits_level.f (a0 : Int) : Option (Bool) := if a0 ≥ 0 then (some (decide (a0 < 64))) else (some false)
set_option maxHeartbeats 8000000 in
set_option maxRecDepth 100000 in
theorem zbits_level.calls (a0 : Int) (r : Bool) (w : World) (h : zbits_level.f a0 = some r) :
    Calls Try.prog 79 #[.int .i64 a0] w fun e w' => e = .returned (.bool r) ∧ Drawn0 w w' := by
  have H : (if a0 ≥ 0 then (some (decide (a0 < 64))) else (some false)) = some r := h
  clear h
  by_cases c2 : a0 ≥ 0
  · rw [if_pos c2] at H
    have c2b0 : decide (0 ≤ a0) = true := decide_eq_true c2
    clear c2
    obtain rfl := Option.some.inj H
    go_enter Try.func79, Try.ntmps79
    go_wp2
    go_ret
    exact ⟨by first | rfl | (simp; done) | (simp [*]; done), by repeat (first | exact Drawn0.refl _ | apply Drawn0.step)⟩
  · rw [if_neg c2] at H
    have c2b0 : decide (0 ≤ a0) = false := decide_eq_false c2
    clear c2
    obtain rfl := Option.some.inj H
    go_enter Try.func79, Try.ntmps79
    go_wp2
    go_ret
    exact ⟨by first | rfl | (simp; done) | (simp [*]; done), by repeat (first | exact Drawn0.refl _ | apply Drawn0.step)⟩

/-! ### slices_Clone_uint64_uint64: function 80 -/
def slices_Clone_uint64_uint64.f (l0 : List Int) : Option (List Int) := (some (([] : List Int) : List Int)).bind fun y105 => (if y105.length + l0.length < 17592186044416 then (some (y105 ++ l0)) else (none))
set_option maxHeartbeats 8000000 in
set_option maxRecDepth 100000 in
theorem slices_Clone_uint64_uint64.calls (A0 : Option Addr) (c0 : Nat) (l0 : List Int) (r : List Int) (w : World) (hr0 : Kd.C (Kd.int .u64) w A0 l0.length l0) (hc0 : l0.length ≤ c0) (h : slices_Clone_uint64_uint64.f l0 = some r) :
    Calls Try.prog 80 #[.slice A0 l0.length c0] w fun e w' => ∃ v0_ : Value, e = .returned (v0_) ∧ Kd.R (Kd.int .u64) 30 w' w.heap.size (fun _ => True) v0_ r ∧ Below w.heap.size w w' := by
  have HR0 := Aside0.mk hr0
  have HC0 := Aside0.mk hc0
  clear hr0 hc0
  have HB := Aside0.mk (Below.refl w.heap.size w)
  have H : ((some (([] : List Int) : List Int)).bind fun y105 => (if y105.length + l0.length < 17592186044416 then (some (y105 ++ l0)) else (none))) = some r := h
  clear h
  obtain ⟨y105, hy105⟩ : ∃ y_ : List Int, y_ = (([] : List Int)) := ⟨_, rfl⟩
  replace H : (if y105.length + l0.length < 17592186044416 then (some (y105 ++ l0)) else (none)) = some r := by first | (rw [hy105]; with_reducible exact H) | (have H2_ := (Option.bind_some _ _).symm.trans H; rw [hy105]; with_reducible exact H2_) | (have H2_ := (Option.bind_some _ _).symm.trans H; with_reducible exact H2_) | with_reducible exact H | (rw [hy105]; exact H) | exact H
  have Ny105 := Aside0.mk hy105
  clear hy105
  by_cases c2 : y105.length + l0.length < 17592186044416
  · rw [if_pos c2] at H
    have LMc2 := Aside0.mk c2
    clear c2
    obtain ⟨y108, hy108⟩ : ∃ y_ : List Int, y_ = (y105 ++ l0) := ⟨_, rfl⟩
    replace H : (some y108) = some r := by first | (rw [hy108]; with_reducible exact H) | (have H2_ := (Option.bind_some _ _).symm.trans H; rw [hy108]; with_reducible exact H2_) | (have H2_ := (Option.bind_some _ _).symm.trans H; with_reducible exact H2_) | with_reducible exact H | (rw [hy108]; exact H) | exact H
    have Ny108 := Aside0.mk hy108
    clear hy108
    obtain rfl := Option.some.inj H
    cases A0 with
    | none =>
      obtain rfl : l0 = [] := by
        have hz := HR0.out
        rcases Nat.eq_zero_or_pos l0.length with h0 | h0
        · exact List.length_eq_zero_iff.1 h0
        · obtain ⟨ad, he, _⟩ := hz.2.2 h0
          exact absurd he (by simp)
      obtain rfl : y108 = [] := by rw [Ny108.out, Ny105.out]; rfl
      clear Ny108 Ny105 LMc2 HR0 HC0
      have hq := fun (W : World) (n c : Nat) => Lib.run_eql_slice_nil (P := Try.prog) W 22 30 none n c 0 0 Try.underlying22
      go_enter Try.func80, Try.ntmps80
      go_wp2
      go_ret
      exact ⟨_, rfl, Kd.R_nil _ _ _ _ _, HB.out⟩
    | some a0 =>
    have hq := fun (W : World) (n c : Nat) => Lib.run_eql_slice_nil (P := Try.prog) W 22 30 (some a0) n c 0 0 Try.underlying22
    go_enter Try.func80, Try.ntmps80
    go_wp2_with (first | ((with_reducible refine gate_dst (N := 5) rfl ?_); refine Kd.R_lit (Kd.int .u64) _ 30 ?hg (N := 5) ?hd (xs := ([] : List Int)) (inner := []) (ok := fun _ => True) (okp := fun _ => True) ?hr ?hp (fun _ hk => hk) trivial (Below.refl _ _) (Nat.le_refl _) (by simp) ?_; (case hd => rfl); (case hg => rfl); (case hr => first | (go_simp; done) | (go_simp; rfl)); (case hp => exact (Reps.none _ _)); intro v106 w3 ho4 hb hg_ hnew_; clear hg_ hnew_; (first | rw [← Ny105.out] at ho4 | (simp only [Int.reduceToNat] at ho4; rw [← Ny105.out] at ho4)); have n0_ := Aside0.mk (Kd.R_lower ho4 (below_size (by repeat (first | (with_reducible first | exact HB.out | apply below_alloc | apply pw_below_drewN | apply below_drew1) | exact HB.out)))); have n1_ := Aside0.mk (below_step (by repeat (first | (with_reducible first | exact HB.out | apply below_alloc | apply pw_below_drewN | apply below_drew1) | exact HB.out)) hb); clear HB; have HO107 := n0_; have HB := n1_; clear n0_ n1_; clear hb ho4) | ((with_reducible refine gate_builtin (b := .append) (xs := #[.tmp 5, .tmp 6]) rfl ?_); at_builtin; refine Kd.R_append_rows (Kd.int .u64) (w0 := w) w.heap.size rfl (.tmp 5) (.tmp 6) 22 30 (.int .u64 0) 8 rfl Try.underlying22 info30 rfl (by decide) (by omega) v106 y105 l0 _ _ _ (fun _ => True) (fun _ => False) rfl rfl ?aO ?aR (fun _ _ h => h) (fun _ h => h.elim) ?aF ?aB ?aS ?aL ?_; (case aR => repeat (first | exact (Kd.C_below HR0.out HB.out) | (with_reducible refine Kd.C_alloc ?_ _) | (with_reducible refine Kd.C_drewN ?_ _) | (with_reducible refine Kd.C_drew ?_))); (case aB => exact (by repeat (first | (with_reducible first | exact HB.out | apply below_alloc | apply pw_below_drewN | apply below_drew1) | exact HB.out))); (case aF => exact (fun _ _ => trivial)); (case aO => exact (by (with_reducible repeat (first | apply Kd.R_alloc | apply Kd.R_drewN | apply Kd.R_drew)); exact HO107.out)); (case aS => exact (below_size (by repeat (first | (with_reducible first | exact HB.out | apply below_alloc | apply pw_below_drewN | apply below_drew1) | exact HB.out)))); (case aL => have := LMc2.out; omega); intro v109 w5 ho hb hg hat; rw [← Ny108.out] at ho; have n0_ := Aside0.mk (hb); have n1_ := Aside0.mk (ho); clear HB; clear HO107; have HB := n0_; have HO110 := n1_; clear n0_ n1_; clear ho hb hg hat))
    go_ret
    exact ⟨_, by first | rfl | (simp [errW_none, errW_some] <;> rfl) | (simp [*, errW_none, errW_some] <;> rfl), by (with_reducible repeat (first | apply Kd.R_alloc | apply Kd.R_drewN | apply Kd.R_drew)); exact HO110.out, by repeat (first | (with_reducible first | exact HB.out | apply below_alloc | apply pw_below_drewN | apply below_drew1) | exact HB.out)⟩
  · rw [if_neg c2] at H
    exact absurd H (by simp)

/-! ### zbits_above: function 81 -/
def zbits_above.f (a0 : Int) : Option (Int) := if a0 = 63 then (some 0) else (if 0 ≤ (wrap64 (a0 + 1)) then (some (shl .u64 18446744073709551615 (wrap64 (a0 + 1)))) else (none))
set_option maxHeartbeats 8000000 in
set_option maxRecDepth 100000 in
theorem zbits_above.calls (a0 : Int) (r : Int) (w : World) (h : zbits_above.f a0 = some r) :
    Calls Try.prog 81 #[.int .i64 a0] w fun e w' => e = .returned (.int .u64 r) ∧ Drawn0 w w' := by
  have H : (if a0 = 63 then (some 0) else (if 0 ≤ (wrap64 (a0 + 1)) then (some (shl .u64 18446744073709551615 (wrap64 (a0 + 1)))) else (none))) = some r := h
  clear h
  by_cases c2 : a0 = 63
  · rw [if_pos c2] at H
    have c2b0 : (a0 == 63) = true := beq_iff_eq.mpr c2
    have c2b1 : (a0 != 63) = false := bne_eq_false_iff_eq.mpr c2
    clear c2
    obtain rfl := Option.some.inj H
    go_enter Try.func81, Try.ntmps81
    go_wp2
    go_ret
    exact ⟨by first | rfl | (simp; done) | (simp [*]; done), by repeat (first | exact Drawn0.refl _ | apply Drawn0.step)⟩
  · rw [if_neg c2] at H
    have c2b0 : (a0 == 63) = false := beq_eq_false_iff_ne.mpr c2
    have c2b1 : (a0 != 63) = true := bne_iff_ne.mpr c2
    obtain ⟨ji3, hji3⟩ : ∃ j_ : Int, (wrap64 (a0 + 1)) = j_ := ⟨_, rfl⟩
    replace H : (if 0 ≤ (ji3) then (some (shl .u64 18446744073709551615 (ji3))) else (none)) = some r := by first | (rw [hji3] at H; exact H) | (simp only [hji3] at H ⊢; exact H)
    have hji3w : (IntKind.i64.wrap (a0 + 1)) = ji3 := (i64_w _).trans hji3
    by_cases c4 : 0 ≤ (ji3)
    · rw [if_pos c4] at H
      have c4b0 := eq_true c4
      have c4b1 : decide (0 ≤ (ji3)) = true := decide_eq_true c4
      clear c4
      obtain ⟨ji5, hji5⟩ : ∃ j_ : Int, (shl .u64 18446744073709551615 (ji3)) = j_ := ⟨_, rfl⟩
      replace H : (some ji5) = some r := by first | (rw [hji5] at H; exact H) | (simp only [hji5] at H ⊢; exact H)
      have hji5_ : (IntKind.u64.wrap (18446744073709551615 * 2 ^ min (ji3).toNat 64)) = ji5 := hji5
      have hji5z : (ji3) ≤ 64 → (IntKind.u64.wrap (18446744073709551615 * 2 ^ (ji3).toNat)) = ji5 := shl_small hji5
      obtain rfl := Option.some.inj H
      go_enter Try.func81, Try.ntmps81
      go_wp2
      go_ret
      exact ⟨by first | rfl | (simp; done) | (simp only [← hji3, ← hji5] <;> (first | rfl | simp)) | (simp [*]; done), by repeat (first | exact Drawn0.refl _ | apply Drawn0.step)⟩
    · rw [if_neg c4] at H
      exact absurd H (by simp)

/-! ### zbits_Cut: function 34 -/
mutual
def zbits_Cut.j0 : Nat → List Int → Int → Option (List Int × Int)
  | 0, _, _ => none
  | k + 1, x0, x1 => (slices_Clone_uint64_uint64.f x0).bind fun t113 => (zbits_Cut.l0 k x1 t113 (t113.length : Int) 0)
def zbits_Cut.l0 : Nat → Int → List Int → Int → Int → Option (List Int × Int)
  | 0, _, _, _, _ => none
  | k + 1, x1, x6, x23, x24 => if x24 < x23 then (if 0 ≤ x24 then (if x24 < (x6.length : Int) then ((zbits_above.f x1).bind fun t117 => (zbits_Cut.l0 k x1 (x6.set (x24 : Int).toNat (Go.bits .and .u64 (rd x6 x24) t117)) x23 (wrap64 (x24 + 1)))) else (none)) else (none)) else (some (x6, 0))
end
def zbits_Cut.f (k : Nat) (l0 : List Int) (a1 : Int) : Option (List Int × Int) := (zbits_Right.f l0).bind fun t111 => (if t111 = true then (if a1 = (-1) then (zbits_Cut.j0 k l0 a1) else ((zbits_level.f a1).bind fun t112 => (if t112 = true then (zbits_Cut.j0 k l0 a1) else (some (([] : List Int), 3))))) else (some (([] : List Int), 2)))
theorem zbits_Cut.mono_l : ∀ k, (∀ y0 y1, LeO (zbits_Cut.j0 k y0 y1) (zbits_Cut.j0 (k + 1) y0 y1)) ∧ (∀ y0 y1 y2 y3, LeO (zbits_Cut.l0 k y0 y1 y2 y3) (zbits_Cut.l0 (k + 1) y0 y1 y2 y3))
  | 0 => ⟨fun _ _ r h => by simp [zbits_Cut.j0] at h, fun _ _ _ _ r h => by simp [zbits_Cut.l0] at h⟩
  | k + 1 => by
    obtain ⟨ih0, ih1⟩ := zbits_Cut.mono_l k
    refine ⟨?_, ?_⟩
    · intro y0 y1
      unfold zbits_Cut.j0
      repeat' first
      | (with_reducible exact ih0 _ _)
      | (with_reducible exact ih1 _ _ _ _)
      | (with_reducible exact LeO.refl _)
      | (with_reducible exact LeO.none _)
      | (with_reducible refine LeO.ite ?_ ?_)
      | (with_reducible refine LeO.bind ?_ (fun _ => ?_))
      | exact ih0 _ _
      | exact ih1 _ _ _ _
      | exact LeO.none _
      | refine LeO.ite ?_ ?_
      | refine LeO.bind ?_ (fun _ => ?_)
    · intro y0 y1 y2 y3
      unfold zbits_Cut.l0
      repeat' first
      | (with_reducible exact ih0 _ _)
      | (with_reducible exact ih1 _ _ _ _)
      | (with_reducible exact LeO.refl _)
      | (with_reducible exact LeO.none _)
      | (with_reducible refine LeO.ite ?_ ?_)
      | (with_reducible refine LeO.bind ?_ (fun _ => ?_))
      | exact ih0 _ _
      | exact ih1 _ _ _ _
      | exact LeO.none _
      | refine LeO.ite ?_ ?_
      | refine LeO.bind ?_ (fun _ => ?_)
theorem zbits_Cut.mono : ∀ a0 a1 k, LeO (zbits_Cut.f k a0 a1) (zbits_Cut.f (k + 1) a0 a1) := by
  intro a0 a1 k
  obtain ⟨ih0, ih1⟩ := zbits_Cut.mono_l k
  unfold zbits_Cut.f
  repeat' first
      | (with_reducible exact ih0 _ _)
      | (with_reducible exact ih1 _ _ _ _)
      | (with_reducible exact LeO.refl _)
      | (with_reducible exact LeO.none _)
      | (with_reducible refine LeO.ite ?_ ?_)
      | (with_reducible refine LeO.bind ?_ (fun _ => ?_))
      | exact ih0 _ _
      | exact ih1 _ _ _ _
      | exact LeO.none _
      | refine LeO.ite ?_ ?_
      | refine LeO.bind ?_ (fun _ => ?_)
def zbits_Cut.T9 : Bool × List (List Nat × List Nat) := (true, [([], []), ([], []), ([0, 1], [0, 1]), ([2], [2]), ([], []), ([4], [4]), ([3, 5], [3, 5]), ([0, 1, 0, 1, 2, 3, 4, 5, 6], [0, 1]), ([7, 6, 5, 0, 1, 2, 3, 4, 5, 6], [6, 7])])
def zbits_Cut.B9 : List Nat := [0, 0, 3, 7, 0, 16, 63, 127, 255]
theorem zbits_Cut.tab9 : rtab .any (opsOf Try.f34 9) = zbits_Cut.T9 := by kernel_rfl
theorem zbits_Cut.bits9 : waitsOk zbits_Cut.T9.2 zbits_Cut.B9 = true := by kernel_rfl
set_option maxHeartbeats 8000000 in
set_option maxRecDepth 100000 in
theorem zbits_Cut.calls (k : Nat) (A0 : Option Addr) (c0 : Nat) (l0 : List Int) (a1 : Int) (r1 : List Int) (r2 : Int) (w : World) (hr0 : Kd.C (Kd.int .u64) w A0 l0.length l0) (hc0 : l0.length ≤ c0) (h : zbits_Cut.f k l0 a1 = some (r1, r2)) :
    Calls Try.prog 34 #[.slice A0 l0.length c0, .int .i64 a1] w fun e w' => ∃ v0_ : Value, e = .returned (.tuple #[v0_, .int .i64 r2]) ∧ Kd.R (Kd.int .u64) 30 w' w.heap.size (fun _ => True) v0_ r1 ∧ Below w.heap.size w w' := by
  have HR0 := Aside0.mk hr0
  have HC0 := Aside0.mk hc0
  clear hr0 hc0
  have HB := Aside0.mk (Below.refl w.heap.size w)
  have H : ((zbits_Right.f l0).bind fun t111 => (if t111 = true then (if a1 = (-1) then (zbits_Cut.j0 k l0 a1) else ((zbits_level.f a1).bind fun t112 => (if t112 = true then (zbits_Cut.j0 k l0 a1) else (some (([] : List Int), 3))))) else (some (([] : List Int), 2)))) = some (r1, r2) := h
  clear h
  have HC3 := Aside0.mk H
  clear H
  go_enter Try.func34, Try.ntmps34
  go_upto_block 0 with (fail)
  go_cut [] (fun wc => ∃ (kq : Nat), Aside0 (zbits_Cut.j0 kq l0 a1 = some (r1, r2)) ∧ Aside0 (kq ≤ k) ∧ Aside0 (Below w.heap.size w wc))
  case first =>
    have H := HC3.out
    clear HC3
    replace H := Option.bind_eq_some_iff.mp H
    obtain ⟨t111, A40, H⟩ := H
    replace H : (if t111 = true then (if a1 = (-1) then (zbits_Cut.j0 k l0 a1) else ((zbits_level.f a1).bind fun t112 => (if t112 = true then (zbits_Cut.j0 k l0 a1) else (some (([] : List Int), 3))))) else (some (([] : List Int), 2))) = some (r1, r2) := H
    have A4 := Aside0.mk A40
    clear A40
    by_cases c5 : t111 = true
    · subst c5
      have H1 : (if a1 = (-1) then (zbits_Cut.j0 k l0 a1) else ((zbits_level.f a1).bind fun t112 => (if t112 = true then (zbits_Cut.j0 k l0 a1) else (some (([] : List Int), 3))))) = some (r1, r2) := by rw [if_pos rfl] at H; exact H
      clear H
      have H := H1
      clear H1
      by_cases c6 : a1 = (-1)
      · rw [if_pos c6] at H
        have c6b0 : (a1 == (-1)) = true := beq_iff_eq.mpr c6
        have c6b1 : (a1 != (-1)) = false := bne_eq_false_iff_eq.mpr c6
        clear c6
        (first | rw [c6b0] | (simp only [i64_w, i32_w]; rw [c6b0]) | skip)
        have H' := Aside0.mk H
        clear H
        go_wp2_with (first | ((with_reducible refine gate_callee (f := 45) rfl ?_); refine goesL_ (some 10) rfl rfl Try.func45 (by kernel_rfl) rfl #[.slice A0 l0.length c0] rfl (by (try simp only [List.map_toArray, List.map_cons, List.map_nil]); first | done | rfl | (simp only [List.length_drop, List.length_take]; rfl)) ?_; (with_reducible refine (zbits_Right.calls _ _ l0 true _ ?side1 ?side2 A4.out).mono ?_); (case side1 => repeat (first | exact (Kd.C_below HR0.out HB.out) | (with_reducible refine Kd.C_alloc ?_ _) | (with_reducible refine Kd.C_drewN ?_ _) | (with_reducible refine Kd.C_drew ?_))); (case side2 => exact HC0.out); rintro e w' ⟨rfl, ⟨nd, rfl⟩⟩; refine ⟨_, rfl, ?_⟩))
        go_meet
        case rel => exact ⟨_, H', ⟨by first | omega | exact Nat.le_refl _⟩, ⟨by repeat (first | (with_reducible first | exact HB.out | apply below_alloc | apply pw_below_drewN | apply below_drew1) | exact HB.out)⟩⟩
      · rw [if_neg c6] at H
        have c6b0 : (a1 == (-1)) = false := beq_eq_false_iff_ne.mpr c6
        have c6b1 : (a1 != (-1)) = true := bne_iff_ne.mpr c6
        (first | rw [c6b0] | (simp only [i64_w, i32_w]; rw [c6b0]) | skip)
        replace H := Option.bind_eq_some_iff.mp H
        obtain ⟨t112, A70, H⟩ := H
        replace H : (if t112 = true then (zbits_Cut.j0 k l0 a1) else (some (([] : List Int), 3))) = some (r1, r2) := H
        have A7 := Aside0.mk A70
        clear A70
        by_cases c8 : t112 = true
        · subst c8
          have H1 : (zbits_Cut.j0 k l0 a1) = some (r1, r2) := by rw [if_pos rfl] at H; exact H
          clear H
          have H := H1
          clear H1
          have H' := Aside0.mk H
          clear H
          go_wp2_with (first | ((with_reducible refine gate_callee (f := 45) rfl ?_); refine goesL_ (some 10) rfl rfl Try.func45 (by kernel_rfl) rfl #[.slice A0 l0.length c0] rfl (by (try simp only [List.map_toArray, List.map_cons, List.map_nil]); first | done | rfl | (simp only [List.length_drop, List.length_take]; rfl)) ?_; (with_reducible refine (zbits_Right.calls _ _ l0 true _ ?side1 ?side2 A4.out).mono ?_); (case side1 => repeat (first | exact (Kd.C_below HR0.out HB.out) | (with_reducible refine Kd.C_alloc ?_ _) | (with_reducible refine Kd.C_drewN ?_ _) | (with_reducible refine Kd.C_drew ?_))); (case side2 => exact HC0.out); rintro e w' ⟨rfl, ⟨nd, rfl⟩⟩; refine ⟨_, rfl, ?_⟩) | (go_at_call 79; (with_reducible refine (zbits_level.calls a1 true _ A7.out).mono ?_); rintro e w' ⟨rfl, ⟨nd, rfl⟩⟩))
          go_meet
          case rel => exact ⟨_, H', ⟨by first | omega | exact Nat.le_refl _⟩, ⟨by repeat (first | (with_reducible first | exact HB.out | apply below_alloc | apply pw_below_drewN | apply below_drew1) | exact HB.out)⟩⟩
        · replace c8 := Bool.eq_false_iff.mpr c8
          subst c8
          have H1 : (some (([] : List Int), 3)) = some (r1, r2) := by rw [if_neg (show ¬ (false = true) by decide)] at H; exact H
          clear H
          have H := H1
          clear H1
          simp only [Option.some.injEq, Prod.mk.injEq] at H
          obtain ⟨rfl, rfl⟩ := H
          go_wp2_with (first | ((with_reducible refine gate_callee (f := 45) rfl ?_); refine goesL_ (some 10) rfl rfl Try.func45 (by kernel_rfl) rfl #[.slice A0 l0.length c0] rfl (by (try simp only [List.map_toArray, List.map_cons, List.map_nil]); first | done | rfl | (simp only [List.length_drop, List.length_take]; rfl)) ?_; (with_reducible refine (zbits_Right.calls _ _ l0 true _ ?side1 ?side2 A4.out).mono ?_); (case side1 => repeat (first | exact (Kd.C_below HR0.out HB.out) | (with_reducible refine Kd.C_alloc ?_ _) | (with_reducible refine Kd.C_drewN ?_ _) | (with_reducible refine Kd.C_drew ?_))); (case side2 => exact HC0.out); rintro e w' ⟨rfl, ⟨nd, rfl⟩⟩; refine ⟨_, rfl, ?_⟩) | (go_at_call 79; (with_reducible refine (zbits_level.calls a1 false _ A7.out).mono ?_); rintro e w' ⟨rfl, ⟨nd, rfl⟩⟩))
          go_ret2
          exact ⟨_, by first | rfl | (simp [errW_none, errW_some] <;> rfl) | (simp [*, errW_none, errW_some] <;> rfl), by first | exact Kd.R_nil _ _ _ _ _ | exact Kd.N_nil _ _ _ _ _ | exact Kd.V_nil _ _ _ _ _ | exact Kd.Q_nil _ _ _ _ _ | exact Kd.S_nil _ _ _ _ _, by repeat (first | (with_reducible first | exact HB.out | apply below_alloc | apply pw_below_drewN | apply below_drew1) | exact HB.out)⟩
    · replace c5 := Bool.eq_false_iff.mpr c5
      subst c5
      have H1 : (some (([] : List Int), 2)) = some (r1, r2) := by rw [if_neg (show ¬ (false = true) by decide)] at H; exact H
      clear H
      have H := H1
      clear H1
      simp only [Option.some.injEq, Prod.mk.injEq] at H
      obtain ⟨rfl, rfl⟩ := H
      go_wp2_with (first | ((with_reducible refine gate_callee (f := 45) rfl ?_); refine goesL_ (some 10) rfl rfl Try.func45 (by kernel_rfl) rfl #[.slice A0 l0.length c0] rfl (by (try simp only [List.map_toArray, List.map_cons, List.map_nil]); first | done | rfl | (simp only [List.length_drop, List.length_take]; rfl)) ?_; (with_reducible refine (zbits_Right.calls _ _ l0 false _ ?side1 ?side2 A4.out).mono ?_); (case side1 => repeat (first | exact (Kd.C_below HR0.out HB.out) | (with_reducible refine Kd.C_alloc ?_ _) | (with_reducible refine Kd.C_drewN ?_ _) | (with_reducible refine Kd.C_drew ?_))); (case side2 => exact HC0.out); rintro e w' ⟨rfl, ⟨nd, rfl⟩⟩; refine ⟨_, rfl, ?_⟩))
      go_ret2
      exact ⟨_, by first | rfl | (simp [errW_none, errW_some] <;> rfl) | (simp [*, errW_none, errW_some] <;> rfl), by first | exact Kd.R_nil _ _ _ _ _ | exact Kd.N_nil _ _ _ _ _ | exact Kd.V_nil _ _ _ _ _ | exact Kd.Q_nil _ _ _ _ _ | exact Kd.S_nil _ _ _ _ _, by repeat (first | (with_reducible first | exact HB.out | apply below_alloc | apply pw_below_drewN | apply below_drew1) | exact HB.out)⟩
  case rest =>
    clear HC3
    try clear p2
    try clear c3
    try clear c4
    try clear c5
    try clear c6
    try clear c6b0
    try clear c6b1
    try clear c8
    obtain ⟨kq, HA, HJ2, HB⟩ := hcut
    cases kq with
    | zero => exact absurd HA.out (by simp [zbits_Cut.j0])
    | succ kj2 =>
      have H := HA.out
      clear HA
      simp only [zbits_Cut.j0] at H
      replace H := Option.bind_eq_some_iff.mp H
      obtain ⟨t113, A90, H⟩ := H
      replace H : (zbits_Cut.l0 kj2 a1 t113 (t113.length : Int) 0) = some (r1, r2) := H
      have A9 := Aside0.mk A90
      clear A90
      have H' := Aside0.mk H
      clear H
      go_wp2_with (first | ((with_reducible refine gate_callee (f := 80) rfl ?_); refine goesL_ (some 21) rfl rfl Try.func80 (by kernel_rfl) rfl #[.slice A0 l0.length c0] rfl (by (try simp only [List.map_toArray, List.map_cons, List.map_nil]); first | done | rfl | (simp only [List.length_drop, List.length_take]; rfl)) ?_; (with_reducible refine (slices_Clone_uint64_uint64.calls _ _ l0 t113 _ ?side1 ?side2 A9.out).mono ?_); (case side1 => repeat (first | exact (Kd.C_below HR0.out HB.out) | (with_reducible refine Kd.C_alloc ?_ _) | (with_reducible refine Kd.C_drewN ?_ _) | (with_reducible refine Kd.C_drew ?_))); (case side2 => exact HC0.out); rintro e w10 ⟨v114, rfl, ho0, hb⟩; refine ⟨_, rfl, ?_⟩; have n0_ := Aside0.mk (Kd.R_lower ho0 (below_size (by repeat (first | (with_reducible first | exact HB.out | apply below_alloc | apply pw_below_drewN | apply below_drew1) | exact HB.out)))); have n1_ := Aside0.mk (below_step (by repeat (first | (with_reducible first | exact HB.out | apply below_alloc | apply pw_below_drewN | apply below_drew1) | exact HB.out)) hb); clear HB; have HO115 := n0_; have HB := n1_; clear n0_ n1_; (try clear hb); (try clear hb2); (try clear hk); (try clear hi); (try clear ho0); obtain ⟨Ao11, co11, eo11⟩ := Kd.R_slice HO115.out; subst eo11))
      go_loopg [24] kj2 (fun kq v24 w' => ∃ (x6_2 : List Int) (x24_2 : Int), v24 = .int .i64 x24_2 ∧ Aside0 (zbits_Cut.l0 kq a1 x6_2 (t113.length : Int) x24_2 = some (r1, r2)) ∧ Aside0 (kq ≤ kj2) ∧ Aside0 (Kd.R (Kd.int .u64) 30 w' w.heap.size (fun _ => True) (.slice Ao11 t113.length co11) x6_2) ∧ Aside0 (Below w.heap.size w w'))
      case atStart => exact ⟨(t113), (0), (by first | rfl | (simp; done) | (simp [*]; done)), H', ⟨Nat.le_refl _⟩, ⟨by (with_reducible repeat (first | apply Kd.R_alloc | apply Kd.R_drewN | apply Kd.R_drew)); exact HO115.out⟩, ⟨by repeat (first | (with_reducible first | exact HB.out | apply below_alloc | apply pw_below_drewN | apply below_drew1) | exact HB.out)⟩⟩
      case round =>
        clear H'
        try clear p2
        try clear c3
        try clear c4
        try clear c5
        try clear c6
        try clear c6b0
        try clear c6b1
        try clear c8
        try clear p2
        obtain ⟨x6_2, x24_2, rfl, HA, HK2, HO_6, HB⟩ := hrel
        have hl6_2 := (Kd.R_reads' HO_6.out).1
        rw [hl6_2] at HO_6
        (try simp only [hl6_2])
        cases gk with
        | zero => exact absurd HA.out (by simp [zbits_Cut.l0])
        | succ k2 =>
          have H := HA.out
          clear HA
          simp only [zbits_Cut.l0] at H
          by_cases c12 : x24_2 < (t113.length : Int)
          · rw [if_pos c12] at H
            have c12b0 : decide (x24_2 < (t113.length : Int)) = true := decide_eq_true c12
            clear c12
            by_cases c13 : 0 ≤ x24_2
            · rw [if_pos c13] at H
              have c13b0 : decide (0 ≤ x24_2) = true := decide_eq_true c13
              clear c13
              by_cases c14 : x24_2 < (x6_2.length : Int)
              · rw [if_pos c14] at H
                have c14b0 : decide (x24_2 < (x6_2.length : Int)) = true := decide_eq_true c14
                clear c14
                replace H := Option.bind_eq_some_iff.mp H
                obtain ⟨t117, A150, H⟩ := H
                replace H : (zbits_Cut.l0 k2 a1 (x6_2.set (x24_2 : Int).toNat (Go.bits .and .u64 (rd x6_2 x24_2) t117)) (t113.length : Int) (wrap64 (x24_2 + 1))) = some (r1, r2) := H
                have A15 := Aside0.mk A150
                clear A150
                obtain ⟨y118, hy118⟩ : ∃ y_ : List Int, y_ = (x6_2.set (x24_2 : Int).toNat (Go.bits .and .u64 (rd x6_2 x24_2) t117)) := ⟨_, rfl⟩
                replace H : (zbits_Cut.l0 k2 a1 y118 (t113.length : Int) (wrap64 (x24_2 + 1))) = some (r1, r2) := by first | (rw [hy118]; with_reducible exact H) | (have H2_ := (Option.bind_some _ _).symm.trans H; rw [hy118]; with_reducible exact H2_) | (have H2_ := (Option.bind_some _ _).symm.trans H; with_reducible exact H2_) | with_reducible exact H | (rw [hy118]; exact H) | exact H
                have Ny118 := Aside0.mk hy118
                clear hy118
                have H' := Aside0.mk H
                clear H
                try go_wp2
                have n0_ := Aside0.mk (Kd.R_drew HO_6.out)
                have n1_ := Aside0.mk (below_drew1 HB.out)
                clear HO_6
                clear HB
                have HO_6 := n0_
                have HB := n1_
                clear n0_ n1_
                have p116 : 0 ≤ (x24_2 : Int) := of_decide_eq_true (by first | (with_reducible assumption) | assumption)
                have q116 : x24_2 < (x6_2.length : Int) := of_decide_eq_true (by first | (with_reducible assumption) | assumption)
                obtain ⟨ad116, e116, hx116_0⟩ := Kd.at_int (Kd.R_reads' HO_6.out).2.2 x24_2 p116 q116
                cases e116
                replace p116 := eq_true p116
                replace q116 := eq_true q116
                refine start_ (n := 9) (S := fun w' => w'.cell? (ad116.add (x24_2).toNat) = some (.int .u64 (rd x6_2 x24_2))) (ds := [8]) #[false, false, false, false, false, false, false, false, false] (by kernel_rfl) rfl rfl (hx116_0) (fun hHeld => ?_); refine with_tabW zbits_Cut.tab9 zbits_Cut.bits9 (fun HT_ HW_ => ?_)
                generalize wr.drew = w17 at HO_6 HB hx116_0 hHeld ⊢
                refine pure_ (i := 0) (N := some 27) (v := ?_) (a' := ?_) #[true, false, false, false, false, false, false, false, false] rfl rfl (any_of HT_.out (by kernel_rfl)) (fun _ _ _ h => h) (Or.inl ⟨by rfl, ?_⟩) ?_ ?_
                rotate_left
                · intro w'
                  go_simp
                  with_reducible rfl
                rotate_left
                · simp only [Act.put, List.setIfInBounds_toArray, List.set_cons_zero, List.set_cons_succ, i64_w, i32_w]
                  rfl
                refine pure_ (i := 1) (N := some 28) (v := ?_) (a' := ?_) #[true, true, false, false, false, false, false, false, false] rfl rfl (any_of HT_.out (by kernel_rfl)) (fun _ _ _ h => h) (Or.inl ⟨by rfl, ?_⟩) ?_ ?_
                rotate_left
                · intro w'
                  go_simp
                  with_reducible rfl
                rotate_left
                · simp only [Act.put, List.setIfInBounds_toArray, List.set_cons_zero, List.set_cons_succ, i64_w, i32_w]
                  rfl
                refine pure_ (i := 2) (N := some 29) (v := ?_) (a' := ?_) #[true, true, true, false, false, false, false, false, false] rfl rfl (any_of HT_.out (by kernel_rfl)) (fun _ _ _ h => h) (Or.inl ⟨by rfl, ?_⟩) ?_ ?_
                rotate_left
                · intro w'
                  go_simp
                  with_reducible rfl
                rotate_left
                · simp only [Act.put, List.setIfInBounds_toArray, List.set_cons_zero, List.set_cons_succ, i64_w, i32_w]
                  rfl
                refine pure_ (i := 4) (N := some 31) (v := ?_) (a' := ?_) #[true, true, true, false, true, false, false, false, false] rfl rfl (any_of HT_.out (by kernel_rfl)) (fun _ _ _ h => h) (Or.inl ⟨by rfl, ?_⟩) ?_ ?_
                rotate_left
                · intro w'
                  go_simp
                  with_reducible rfl
                rotate_left
                · simp only [Act.put, List.setIfInBounds_toArray, List.set_cons_zero, List.set_cons_succ, i64_w, i32_w]
                  rfl
                refine take_ (i := 3) (N := some 30) (v := ?_) (a' := ?_) #[true, true, true, true, true, false, false, false, false] rfl rfl (take_ofW HT_.out HW_.out (by kernel_rfl)) (fun _ _ _ h => h) (Or.inl ⟨by rfl, ?_⟩) hHeld ?_ ?_
                rotate_left
                · intro w' s0
                  go_simp
                  with_reducible rfl
                rotate_left
                · simp only [Act.put, List.setIfInBounds_toArray, List.set_cons_zero, List.set_cons_succ, i64_w, i32_w]
                  rfl
                refine one_ (i := 5) (N := some 32) #[true, true, true, true, true, true, false, false, false] rfl rfl (one_of HT_.out (by kernel_rfl)) (by decide) (fun K hK => ?_)
                refine goes_ Try.func81 (by kernel_rfl) rfl #[.int .i64 a1] (by rfl) rfl rfl (by (try simp only [List.map_toArray, List.map_cons, List.map_nil]); first | done | rfl | (simp only [List.length_drop, List.length_take]; rfl)) ?_
                with_reducible refine (zbits_above.calls a1 t117 _ A15.out).mono ?_
                rintro e w' ⟨rfl, ⟨nd, rfl⟩⟩
                refine ⟨_, rfl, ?_⟩
                have p16 : 0 ≤ (x24_2 : Int) := of_decide_eq_true (by first | (with_reducible assumption) | assumption)
                have q16 : (x24_2 : Int) < ((x6_2.length : Int) : Int) := of_decide_eq_true (by first | (with_reducible assumption) | assumption)
                obtain ⟨go16, co16, eo16, gb16, gl16, cl16, HG16⟩ := Kd.R_form HO_6.out (by omega)
                (first | cases eo16 | (injection eo16 with ea_ en_ ec_; (first | subst ea_ | (injection ea_ with ea_; subst ea_)); subst ec_; clear en_))
                have GB16 := Aside0.mk gb16
                have GG16 := Aside0.mk HG16
                clear gb16 gl16 HG16
                (first | simp only [add_plain] at hx116_0 | skip)
                obtain ⟨hx16_0, hf16_0⟩ := Kd.R_celln 0 HO_6.out (x24_2 : Int) p16 q16
                replace p16 := eq_true p16
                replace q16 := eq_true q16
                have HP18 := Kd.R_putn HO_6.out (x24_2 : Int) (Go.bits .and .u64 (rd x6_2 x24_2) t117)
                rw [← Ny118.out] at HP18
                have HQ18 := Aside0.mk HP18
                clear HP18
                refine hK.out _ _ (hHeld) (fun hHeld => ?_)
                clear hK K
                refine norm_ (a' := ?_) ?_ ?_
                rotate_left
                · show Act.put _ (some 32) _ = _
                  simp only [Act.put, List.setIfInBounds_toArray, List.set_cons_zero, List.set_cons_succ, i64_w, i32_w]
                  rfl
                refine pure_ (i := 6) (N := some 33) (v := ?_) (a' := ?_) #[true, true, true, true, true, true, true, false, false] rfl rfl (any_of HT_.out (by kernel_rfl)) (fun _ _ _ h => h) (Or.inl ⟨by rfl, ?_⟩) ?_ ?_
                rotate_left
                · intro w'
                  go_simp
                  with_reducible rfl
                rotate_left
                · simp only [Act.put, List.setIfInBounds_toArray, List.set_cons_zero, List.set_cons_succ, i64_w, i32_w]
                  rfl
                refine pure_ (i := 7) (N := some 34) (v := ?_) (a' := ?_) #[true, true, true, true, true, true, true, true, false] rfl rfl (any_of HT_.out (by kernel_rfl)) (fun _ _ _ h => h) (Or.inl ⟨by rfl, ?_⟩) ?_ ?_
                rotate_left
                · intro w'
                  go_simp
                  with_reducible rfl
                rotate_left
                · simp only [Act.put, List.setIfInBounds_toArray, List.set_cons_zero, List.set_cons_succ, i64_w, i32_w]
                  rfl
                refine last_ (i := 8) (N := none) #[true, true, true, true, true, true, true, true, true] rfl rfl (one_of HT_.out (by kernel_rfl)) (by decide) (fun K hK => ?_)
                refine skip_ (w1 := ?_) (by rfl) rfl ?_ ?_
                rotate_left
                · go_simp
                  rfl
                refine hK.out _ _ ?_
                clear hK K
                refine done_ (done_of HT_.out (by kernel_rfl)) ?_
                try go_wp2
                (try simp only [← hl6_2])
                go_roundg k2
                case measure => have := HJ2.out; have := HK2.out; omega
                case rel => exact ⟨(y118), (wrap64 (x24_2 + 1)), (by first | rfl | (simp; done) | (simp [*]; done)), H', ⟨by have := HJ2.out; have := HK2.out; omega⟩, ⟨by (try simp only [hl6_2]); (with_reducible repeat (first | apply Kd.R_alloc | apply Kd.R_drewN | apply Kd.R_drew)); exact HQ18.out⟩, ⟨by repeat (first | (with_reducible first | exact HB.out | apply below_alloc | apply pw_below_drewN | apply below_drew1 | refine below_set ?_ GB16.out) | exact HB.out)⟩⟩
              · rw [if_neg c14] at H
                exact absurd H (by simp)
            · rw [if_neg c13] at H
              exact absurd H (by simp)
          · rw [if_neg c12] at H
            have c12b0 : decide (x24_2 < (t113.length : Int)) = false := decide_eq_false c12
            (try rw [hl6_2] at c12b0)
            clear c12
            simp only [Option.some.injEq, Prod.mk.injEq] at H
            obtain ⟨rfl, rfl⟩ := H
            go_wp2
            go_ret2
            exact ⟨_, by first | rfl | (simp [errW_none, errW_some] <;> rfl) | (simp [*, errW_none, errW_some] <;> rfl), by (with_reducible repeat (first | apply Kd.R_alloc | apply Kd.R_drewN | apply Kd.R_drew)); exact HO_6.out, by repeat (first | (with_reducible first | exact HB.out | apply below_alloc | apply pw_below_drewN | apply below_drew1) | exact HB.out)⟩

/-! ### box_Cell: function 26: by hand -/
def box_Cell.low (a1 : Int) : Int := IntKind.u64.wrap (shl .u64 1 (wrap64 (a1 + 1)) - 1)
def box_Cell.f (k : Nat) (l0 : List Int) (a1 : Int) : Option (List Int × List Int × Int) := (zbits_Cut.f k l0 a1).bind fun b => if b.2 = 0 then (if 0 ≤ wrap64 (a1 + 1) then (if l0.length ≤ b.1.length ∧ l0.length ≤ 1000000 then some (Go.Proofs.YthdphjbecibeaaaHe.mkI l0.length (fun i => rd b.1 i), Go.Proofs.YthdphjbecibeaaaHe.mkI l0.length (fun i => Go.bits .or .u64 (rd b.1 i) (box_Cell.low a1)), 0) else none) else none) else some ([], [], b.2)
theorem box_Cell.mono : ∀ a0 a1 k, LeO (box_Cell.f k a0 a1) (box_Cell.f (k + 1) a0 a1) := by
  intro a0 a1 k
  unfold box_Cell.f
  exact LeO.bind (zbits_Cut.mono _ _ _) (fun _ => LeO.refl _)
set_option maxHeartbeats 1600000 in
set_option maxRecDepth 100000 in
theorem box_Cell.calls (k : Nat) (A0 : Option Addr) (c0 : Nat) (l0 : List Int) (a1 : Int) (r1 : List Int) (r2 : List Int) (r3 : Int) (w : World) (hr0 : Kd.C (Kd.int .u64) w A0 l0.length l0) (hc0 : l0.length ≤ c0) (h : box_Cell.f k l0 a1 = some (r1, r2, r3)) :
    Calls Try.prog 26 #[.slice A0 l0.length c0, .int .i64 a1] w fun e w' => ∃ v0_ v1_ : Value, e = .returned (.tuple #[.agg #[v0_, v1_], .int .i64 r3]) ∧ Kd.R (Kd.int .u64) 30 w' w.heap.size (fun k_ => some k_ ≠ (v1_ : Value).ownBlock) v0_ r1 ∧ Kd.R (Kd.int .u64) 30 w' w.heap.size (fun k_ => some k_ ≠ (v0_ : Value).ownBlock) v1_ r2 ∧ Below w.heap.size w w' := by
  have hu32 := Try.underlying32
  obtain ⟨⟨c, ec⟩, ht, H⟩ := Option.bind_eq_some_iff.mp h
  have HT := Aside0.mk ht
  have HC0 := Aside0.mk hc0
  have HR0 := Aside0.mk hr0
  clear h ht hc0 hr0
  have hmf : ∀ (fn : Fn) (first cap : Array Value) (w : World), (Instr.makeFunc fn first cap).run Try.prog w = .ok (.func fn first cap) w := fun _ _ _ _ => rfl
  have hC1 : ∀ o0, Kd.C (Kd.int .u64) (w.alloc o0) A0 l0.length l0 := fun o0 => Kd.C_below HR0.out (below_alloc (Below.refl _ _) o0)
  have HB1 : ∀ o0, Below w.heap.size w (w.alloc o0) := fun o0 => below_alloc (Below.refl _ _) o0
  simp only at H
  by_cases he : ec = 0
  · subst he
    rw [if_pos rfl] at H
    by_cases hs : 0 ≤ wrap64 (a1 + 1)
    · rw [if_pos hs] at H
      by_cases hl : l0.length ≤ c.length ∧ l0.length ≤ 1000000
      · rw [if_pos hl] at H
        simp only [Option.some.injEq, Prod.mk.injEq] at H
        obtain ⟨rfl, rfl, rfl⟩ := H
        have HL := Aside0.mk hl
        clear hl
        have hsd : decide (0 ≤ wrap64 (a1 + 1)) = true := decide_eq_true hs
        go_enter Try.func26, Try.ntmps26
        go_wp2_with (go_at_call 34; refine (zbits_Cut.calls k A0 c0 l0 a1 c 0 _ (hC1 _) HC0.out HT.out).mono ?_; rintro e w' ⟨v0, rfl, hR, hB⟩; have HR := Aside0.mk hR; have HB := Aside0.mk hB; obtain ⟨Ao, co, eo⟩ := Kd.R_slice hR; subst eo; clear hR hB)
        have hlw : (IntKind.u64.wrap (IntKind.u64.wrap (2 ^ min (wrap64 (a1 + 1)).toNat 64) - 1)) = box_Cell.low a1 := by
          unfold box_Cell.low shl
          rw [Int.one_mul]
          rfl
        generalize (IntKind.u64.wrap (IntKind.u64.wrap (2 ^ min (wrap64 (a1 + 1)).toNat 64) - 1)) = lw at hlw ⊢
        have HLW := Aside0.mk hlw
        clear hlw
        have hbk0 : ∀ o0 o1, ((w'.alloc o0).alloc o1).heap[w'.heap.size]? = some o0 := fun o0 o1 => blk_alloc (blk_new w' o0) o1
        have hbk1 : ∀ o0 o1, ((w'.alloc o0).alloc o1).heap[w'.heap.size + 1]? = some o1 := fun o0 o1 => by
          have hh := blk_new (w'.alloc o0) o1
          have e : (w'.alloc o0).heap.size = w'.heap.size + 1 := by simp
          rwa [e] at hh
        have HB2 : ∀ o0 o1, Below w'.heap.size w' ((w'.alloc o0).alloc o1) := fun o0 o1 => below_alloc (below_alloc (Below.refl _ _) o0) o1
        have HF : ∀ (i : Nat) (W : World), i < l0.length → Below ((w'.alloc (.cells #[.slice Ao c.length co] 22)).alloc (.cells #[.int .u64 lw] 30)).heap.size ((w'.alloc (.cells #[.slice Ao c.length co] 22)).alloc (.cells #[.int .u64 lw] 30)) W →
            Calls Try.prog 76 #[.int .i64 i, .pointer (some ⟨w'.heap.size, 0, none⟩), .pointer (some ⟨w'.heap.size + 1, 0, none⟩)] W fun e W' => e = .returned (.tuple #[.int .u64 (rd c i), .int .u64 (Go.bits .or .u64 (rd c i) lw)]) ∧ ∃ m, W' = W.drewN m := by
          intro i W hi hb
          have hi2 : i < c.length := by have := HL.out.1; omega
          obtain ⟨ad, e, hx⟩ := Kd.at_int (Kd.R_reads' HR.out).2.2 (i : Int) (by omega) (by omega)
          subst e
          have k0 := blk_below (hbk0 (.cells #[.slice (some ad) c.length co] 22) (.cells #[.int .u64 lw] 30)) hb
          have k1 := blk_below (hbk1 (.cells #[.slice (some ad) c.length co] 22) (.cells #[.int .u64 lw] 30)) hb
          have hB := below_then (HB2 (.cells #[.slice (some ad) c.length co] 22) (.cells #[.int .u64 lw] 30)) (HB2 _ _).size hb
          exact Go.Proofs.YthdphjbecibeaaaHe.clo76 i _ _ co ad c lw W ((blk_cell k0 0).trans rfl) ((blk_cell k1 0).trans rfl) hi2 (by
            have := (hB.cell (World.block_lt_of_cell? w' _ hx)).trans hx
            simpa using this)
        refine (Go.Proofs.YthdphjbecibeaaaHe.eachCell l0.length HL.out.2 w'.heap.size (w'.heap.size + 1) _ _ _ HF).mono ?_
        rintro e w2 ⟨gl, gh, rfl, hne, hR0, hR1, hB⟩
        have hres0 : (w.alloc (.cells #[.slice none 0 0, .slice none 0 0] 32)).heap[w.heap.size]? = some (.cells #[.slice none 0 0, .slice none 0 0] 32) := blk_new _ _
        have hres1 := blk_below hres0 HB.out
        have hk := blk_below (blk_alloc (blk_alloc hres1 (.cells #[.slice Ao c.length co] 22)) (.cells #[.int .u64 lw] 30)) hB
        have hz0 : w2.cell? ⟨w.heap.size, 0, none⟩ = some (.slice none 0 0) := (blk_cell hk 0).trans rfl
        have hz1 : w2.cell? ⟨w.heap.size, 1, none⟩ = some (.slice none 0 0) := (blk_cell hk 1).trans rfl
        have hy0 := blk_frozen hk 0
        have hy1 := blk_frozen hk 1
        have HN := Aside0.mk hne
        have HK := Aside0.mk hk
        have HR0' := Aside0.mk hR0
        have HR1' := Aside0.mk hR1
        have HB' := Aside0.mk hB
        clear hne hk hR0 hR1 hB hres0 hres1
        go_wp2
        have hsz : ∀ (o0 o1 : Obj), ((w'.alloc o0).alloc o1).heap.size = w'.heap.size + 1 + 1 := fun o0 o1 => by simp
        have hs1 : (w.alloc (.cells #[.slice none 0 0, .slice none 0 0] 32)).heap.size = w.heap.size + 1 := by simp
        have hle := HB.out.size
        rw [hs1] at hle
        have hR0 := Kd.R_bound HR0'.out
        have hR1 := Kd.R_bound HR1'.out
        have hB := HB'.out
        rw [hsz] at hR0 hR1
        refine bodyPost_ret (results_ct rfl _ _ w.heap.size 32 #[.slice (some ⟨gl, 0, none⟩) l0.length l0.length, .slice (some ⟨gh, 0, none⟩) l0.length l0.length] (0, 0) _ rfl (blk_put (cs := #[.slice (some ⟨gl, 0, none⟩) l0.length l0.length, .slice none 0 0]) (blk_put (cs := #[.slice none 0 0, .slice none 0 0]) HK.out 0 _ rfl) 1 _ rfl) Try.underlying32 rfl (by kernel_rfl)) rfl ?_
        refine ⟨_, _, rfl, ?_, ?_, ?_⟩
        · exact Kd.R_mono (Kd.R_lower (Kd.R_far (Kd.R_far hR0 (fun k hk => show k ≠ w.heap.size by have := hk.2.1; omega) _) (fun k hk => show k ≠ w.heap.size by have := hk.2.1; omega) _) (by omega)) (fun k hk => by have := hk.1; simpa [Value.ownBlock] using this)
        · rw [← HLW.out]
          exact Kd.R_mono (Kd.R_lower (Kd.R_far (Kd.R_far hR1 (fun k hk => show k ≠ w.heap.size by have := hk.2.1; omega) _) (fun k hk => show k ≠ w.heap.size by have := hk.2.1; omega) _) (by omega)) (fun k hk => by have := hk.1; simpa [Value.ownBlock] using this)
        · have h1 := below_then (HB1 (.cells #[.slice none 0 0, .slice none 0 0] 32)) (HB1 _).size HB.out
          have h2 := below_then h1 h1.size (HB2 (.cells #[.slice Ao c.length co] 22) (.cells #[.int .u64 lw] 30))
          exact ((below_then h2 h2.size hB).setCell (Nat.le_refl _) _).setCell (Nat.le_refl _) _
      · rw [if_neg hl] at H
        exact absurd H (by simp)
    · rw [if_neg hs] at H
      exact absurd H (by simp)
  · rw [if_neg he] at H
    simp only [Option.some.injEq, Prod.mk.injEq] at H
    obtain ⟨rfl, rfl, rfl⟩ := H
    have hd0 : (ec == 0) = false := beq_eq_false_iff_ne.mpr he
    have hd1 : (ec != 0) = true := bne_iff_ne.mpr he
    have hd2 : decide (ec = 0) = false := decide_eq_false he
    clear he
    go_enter Try.func26, Try.ntmps26
    go_wp2_with (go_at_call 34; refine (zbits_Cut.calls k A0 c0 l0 a1 c ec _ (hC1 _) HC0.out HT.out).mono ?_; rintro e w' ⟨v0, rfl, hR, hB⟩; have hres1 := blk_below (blk_new _ _) hB; have hz0 : ∀ o, (w'.alloc o).cell? ⟨w.heap.size, 0, none⟩ = some (.slice none 0 0) := fun o => (blk_cell (blk_alloc hres1 o) 0).trans rfl; have hz1 : ∀ o, (w'.alloc o).cell? ⟨w.heap.size, 1, none⟩ = some (.slice none 0 0) := fun o => (blk_cell (blk_alloc hres1 o) 1).trans rfl; have hy0 := fun o => blk_frozen (blk_alloc hres1 o) 0; have hy1 := fun o => blk_frozen (blk_alloc hres1 o) 1; have HK := Aside0.mk hres1; have HR := Aside0.mk hR; have HB := Aside0.mk hB; obtain ⟨Ao, co, eo⟩ := Kd.R_slice hR; subst eo; clear hR hB hres1)
    refine bodyPost_ret (results_ct rfl _ _ w.heap.size 32 #[.slice none 0 0, .slice none 0 0] (0, 0) _ rfl (blk_put (cs := #[.slice none 0 0, .slice none 0 0]) (blk_put (cs := #[.slice none 0 0, .slice none 0 0]) (blk_alloc HK.out _) 0 _ rfl) 1 _ rfl) Try.underlying32 rfl (by kernel_rfl)) rfl ?_
    exact ⟨_, _, rfl, Kd.R_nil _ _ _ _ _, Kd.R_nil _ _ _ _ _, ((below_alloc (below_then (HB1 (.cells #[.slice none 0 0, .slice none 0 0] 32)) (HB1 _).size HB.out) _).setCell (Nat.le_refl _) _).setCell (Nat.le_refl _) _⟩

end Go.Proofs.Ythdphjbecibeaaa.PBoxAround
