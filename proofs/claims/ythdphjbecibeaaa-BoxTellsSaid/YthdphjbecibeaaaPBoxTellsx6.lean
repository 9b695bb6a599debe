-- Written by wip/tools/print2.py, a program of this session, over the kit's print of the program. Lean checks it.
import Derived.Test.YthdphjbecibeaaaPBoxTellsx0
import Derived.Test.YthdphjbecibeaaaPBoxTellsx2
import Derived.Test.YthdphjbecibeaaaPBoxTellsx3
import Derived.Test.YthdphjbecibeaaaPBoxTellsx4
import Derived.Test.YthdphjbecibeaaaPBoxTellsx5
namespace Go.Proofs.Ythdphjbecibeaaa.PBoxTells
open Go.RowKit Go.Proofs.YthdphjbecibeaaaW.PrintWords Go.Proofs.YthdphjbecibeaaaW.PrintLast Go.Proofs.YthdphjbecibeaaaW.PrintMore
attribute [local go_sem] max2_int min2_int max_two min_two max_three min_three max_four min_four   -- for this text's walks alone
set_option linter.unusedVariables false
set_option linter.unusedSimpArgs false

/-! ### pantilelaw03_BoxTells: function 13 -/
mutual
def pantilelaw03_BoxTells.j0 : Nat → List Int → Bool → Bool → Int → Int → Int → Int → Bool → List Int → List Int → List Int → List Int → List Int → List Int → Option (Bool)
  | 0, _, _, _, _, _, _, _, _, _, _, _, _, _, _ => none
  | k + 1, x2, x7, x11, x12, x14, x15, x16, x117, x233000, x233001, x234000, x234001, x250000, x250001 => if x117 = true then (some false) else ((pantileref03_Right.f x234000 x234001).bind fun t256 => (if t256 = true then (pantilelaw03_BoxTells.j1 k x2 x7 x11 x12 x14 x15 x16 ((x234000.length : Int) != (x233000.length : Int)) x233000 x233001 x250000 x250001) else (pantilelaw03_BoxTells.j1 k x2 x7 x11 x12 x14 x15 x16 true x233000 x233001 x250000 x250001)))
def pantilelaw03_BoxTells.j1 : Nat → List Int → Bool → Bool → Int → Int → Int → Int → Bool → List Int → List Int → List Int → List Int → Option (Bool)
  | 0, _, _, _, _, _, _, _, _, _, _, _, _ => none
  | k + 1, x2, x7, x11, x12, x14, x15, x16, x129, x233000, x233001, x250000, x250001 => if x129 = true then (if x14 = 2 then (if (x250000.length : Int) = 0 then (if (x250001.length : Int) = 0 then (pantilelaw03_BoxTells.j2 k x2 x7 x11 x12 x15 x16 x233000 x233001) else (some false)) else (some false)) else (some false)) else (if x14 = 0 then (if (x250000.length : Int) = (x233000.length : Int) then (if (x250001.length : Int) = (x233000.length : Int) then (pantilelaw03_BoxTells.j2 k x2 x7 x11 x12 x15 x16 x233000 x233001) else (some false)) else (some false)) else (some false))
def pantilelaw03_BoxTells.j2 : Nat → List Int → Bool → Bool → Int → Int → Int → List Int → List Int → Option (Bool)
  | 0, _, _, _, _, _, _, _, _ => none
  | k + 1, x2, x7, x11, x12, x15, x16, x233000, x233001 => if (x2.length : Int) = (x233000.length : Int) then (if x12 = 0 then ((pantileref03_In.f k x233000 x233001 x2).bind fun t257 => (pantilelaw03_BoxTells.j3 k x2 x7 x15 x16 (x11 != t257) x233000 x233001)) else (pantilelaw03_BoxTells.j3 k x2 x7 x15 x16 true x233000 x233001)) else (if x11 = true then (some false) else (if x12 = 2 then (if x15 = 0 then (some (x16 == 2)) else (some false)) else (some false)))
def pantilelaw03_BoxTells.j3 : Nat → List Int → Bool → Int → Int → Bool → List Int → List Int → Option (Bool)
  | 0, _, _, _, _, _, _, _ => none
  | k + 1, x2, x7, x15, x16, x192, x233000, x233001 => if x192 = true then (some false) else (if x7 = true then (if x15 = 0 then (some (x16 == 3)) else (some false)) else (if x16 = 0 then ((pantileref03_Nearest.f k x233000 x233001 x2).bind fun t258 => ((pantileref03_Far.f k x2 t258).bind fun t261 => (some (x15 == t261)))) else (some false)))
end
def pantilelaw03_BoxTells.f (k : Nat) (l0_0 : List Int) (l0_1 : List Int) (l1_0 : List Int) (l1_1 : List Int) (l2 : List Int) : Option (Bool) := (pantilelaw03_awake.f k).bind fun t234 => (if t234 = true then ((pantilelaw03_big.f l0_0 l0_1 l1_0 l1_1 l2).bind fun t235 => (if t235 = true then (some true) else ((box_Empty.f k l0_0 l0_1).bind fun bt236 => ((box_Volume.f k l0_0 l0_1).bind fun bt238 => ((box_In.f k l0_0 l0_1 l2).bind fun bt240 => ((box_Meet.f l0_0 l0_1 l1_0 l1_1).bind fun bt242 => ((box_FarBox.f k l0_0 l0_1 l2).bind fun bt250 => ((pantileref03_Right.f l0_0 l0_1).bind fun t252 => ((box_Right.f l0_0 l0_1).bind fun t253 => (if (t253 != t252) = true then (some false) else (if t252 = true then (if bt236.2 = 0 then ((pantileref03_Empty.f k l0_0 l0_1).bind fun t254 => (if (bt236.1 != t254) = true then (pantilelaw03_BoxTells.j0 k l2 bt236.1 bt240.1 bt240.2 bt242.2.2 bt250.1 bt250.2 true l0_0 l0_1 l1_0 l1_1 bt242.1 bt242.2.1) else (if bt238.2 = 0 then ((pantileref03_Volume.f k l0_0 l0_1).bind fun t255 => (pantilelaw03_BoxTells.j0 k l2 bt236.1 bt240.1 bt240.2 bt242.2.2 bt250.1 bt250.2 (bt238.1 != t255) l0_0 l0_1 l1_0 l1_1 bt242.1 bt242.2.1)) else (pantilelaw03_BoxTells.j0 k l2 bt236.1 bt240.1 bt240.2 bt242.2.2 bt250.1 bt250.2 true l0_0 l0_1 l1_0 l1_1 bt242.1 bt242.2.1)))) else (pantilelaw03_BoxTells.j0 k l2 bt236.1 bt240.1 bt240.2 bt242.2.2 bt250.1 bt250.2 true l0_0 l0_1 l1_0 l1_1 bt242.1 bt242.2.1)) else (if bt236.1 = true then (some false) else (if bt236.2 = 2 then (if bt238.1 = 0 then (if bt238.2 = 2 then (if bt240.1 = true then (some false) else (if bt240.2 = 2 then (if (bt242.1.length : Int) = 0 then (if bt242.2.2 = 2 then (if bt250.1 = 0 then (some (bt250.2 == 2)) else (some false)) else (some false)) else (some false)) else (some false))) else (some false)) else (some false)) else (some false)))))))))))))) else (some false))
theorem pantilelaw03_BoxTells.mono_l : ∀ k, (∀ y0 y1 y2 y3 y4 y5 y6 y7 y8 y9 y10 y11 y12 y13, LeO (pantilelaw03_BoxTells.j0 k y0 y1 y2 y3 y4 y5 y6 y7 y8 y9 y10 y11 y12 y13) (pantilelaw03_BoxTells.j0 (k + 1) y0 y1 y2 y3 y4 y5 y6 y7 y8 y9 y10 y11 y12 y13)) ∧ (∀ y0 y1 y2 y3 y4 y5 y6 y7 y8 y9 y10 y11, LeO (pantilelaw03_BoxTells.j1 k y0 y1 y2 y3 y4 y5 y6 y7 y8 y9 y10 y11) (pantilelaw03_BoxTells.j1 (k + 1) y0 y1 y2 y3 y4 y5 y6 y7 y8 y9 y10 y11)) ∧ (∀ y0 y1 y2 y3 y4 y5 y6 y7, LeO (pantilelaw03_BoxTells.j2 k y0 y1 y2 y3 y4 y5 y6 y7) (pantilelaw03_BoxTells.j2 (k + 1) y0 y1 y2 y3 y4 y5 y6 y7)) ∧ (∀ y0 y1 y2 y3 y4 y5 y6, LeO (pantilelaw03_BoxTells.j3 k y0 y1 y2 y3 y4 y5 y6) (pantilelaw03_BoxTells.j3 (k + 1) y0 y1 y2 y3 y4 y5 y6))
  | 0 => ⟨fun _ _ _ _ _ _ _ _ _ _ _ _ _ _ r h => by simp [pantilelaw03_BoxTells.j0] at h, fun _ _ _ _ _ _ _ _ _ _ _ _ r h => by simp [pantilelaw03_BoxTells.j1] at h, fun _ _ _ _ _ _ _ _ r h => by simp [pantilelaw03_BoxTells.j2] at h, fun _ _ _ _ _ _ _ r h => by simp [pantilelaw03_BoxTells.j3] at h⟩
  | k + 1 => by
    obtain ⟨ih0, ih1, ih2, ih3⟩ := pantilelaw03_BoxTells.mono_l k
    refine ⟨?_, ?_, ?_, ?_⟩
    · intro y0 y1 y2 y3 y4 y5 y6 y7 y8 y9 y10 y11 y12 y13
      unfold pantilelaw03_BoxTells.j0
      repeat' first
      | (with_reducible exact ih0 _ _ _ _ _ _ _ _ _ _ _ _ _ _)
      | (with_reducible exact ih1 _ _ _ _ _ _ _ _ _ _ _ _)
      | (with_reducible exact ih2 _ _ _ _ _ _ _ _)
      | (with_reducible exact ih3 _ _ _ _ _ _ _)
      | (with_reducible exact box_Empty.mono _ _ _)
      | (with_reducible exact box_FarBox.mono _ _ _ _)
      | (with_reducible exact box_In.mono _ _ _ _)
      | (with_reducible exact box_Volume.mono _ _ _)
      | (with_reducible exact pantilelaw03_awake.mono _)
      | (with_reducible exact pantileref03_Empty.mono _ _ _)
      | (with_reducible exact pantileref03_Far.mono _ _ _)
      | (with_reducible exact pantileref03_In.mono _ _ _ _)
      | (with_reducible exact pantileref03_Nearest.mono _ _ _ _)
      | (with_reducible exact pantileref03_Volume.mono _ _ _)
      | (with_reducible exact LeO.refl _)
      | (with_reducible exact LeO.none _)
      | (with_reducible refine LeO.ite ?_ ?_)
      | (with_reducible refine LeO.bind ?_ (fun _ => ?_))
      | exact ih0 _ _ _ _ _ _ _ _ _ _ _ _ _ _
      | exact ih1 _ _ _ _ _ _ _ _ _ _ _ _
      | exact ih2 _ _ _ _ _ _ _ _
      | exact ih3 _ _ _ _ _ _ _
      | exact box_Empty.mono _ _ _
      | exact box_FarBox.mono _ _ _ _
      | exact box_In.mono _ _ _ _
      | exact box_Volume.mono _ _ _
      | exact pantilelaw03_awake.mono _
      | exact pantileref03_Empty.mono _ _ _
      | exact pantileref03_Far.mono _ _ _
      | exact pantileref03_In.mono _ _ _ _
      | exact pantileref03_Nearest.mono _ _ _ _
      | exact pantileref03_Volume.mono _ _ _
      | exact LeO.none _
      | refine LeO.ite ?_ ?_
      | refine LeO.bind ?_ (fun _ => ?_)
    · intro y0 y1 y2 y3 y4 y5 y6 y7 y8 y9 y10 y11
      unfold pantilelaw03_BoxTells.j1
      repeat' first
      | (with_reducible exact ih0 _ _ _ _ _ _ _ _ _ _ _ _ _ _)
      | (with_reducible exact ih1 _ _ _ _ _ _ _ _ _ _ _ _)
      | (with_reducible exact ih2 _ _ _ _ _ _ _ _)
      | (with_reducible exact ih3 _ _ _ _ _ _ _)
      | (with_reducible exact box_Empty.mono _ _ _)
      | (with_reducible exact box_FarBox.mono _ _ _ _)
      | (with_reducible exact box_In.mono _ _ _ _)
      | (with_reducible exact box_Volume.mono _ _ _)
      | (with_reducible exact pantilelaw03_awake.mono _)
      | (with_reducible exact pantileref03_Empty.mono _ _ _)
      | (with_reducible exact pantileref03_Far.mono _ _ _)
      | (with_reducible exact pantileref03_In.mono _ _ _ _)
      | (with_reducible exact pantileref03_Nearest.mono _ _ _ _)
      | (with_reducible exact pantileref03_Volume.mono _ _ _)
      | (with_reducible exact LeO.refl _)
      | (with_reducible exact LeO.none _)
      | (with_reducible refine LeO.ite ?_ ?_)
      | (with_reducible refine LeO.bind ?_ (fun _ => ?_))
      | exact ih0 _ _ _ _ _ _ _ _ _ _ _ _ _ _
      | exact ih1 _ _ _ _ _ _ _ _ _ _ _ _
      | exact ih2 _ _ _ _ _ _ _ _
      | exact ih3 _ _ _ _ _ _ _
      | exact box_Empty.mono _ _ _
      | exact box_FarBox.mono _ _ _ _
      | exact box_In.mono _ _ _ _
      | exact box_Volume.mono _ _ _
      | exact pantilelaw03_awake.mono _
      | exact pantileref03_Empty.mono _ _ _
      | exact pantileref03_Far.mono _ _ _
      | exact pantileref03_In.mono _ _ _ _
      | exact pantileref03_Nearest.mono _ _ _ _
      | exact pantileref03_Volume.mono _ _ _
      | exact LeO.none _
      | refine LeO.ite ?_ ?_
      | refine LeO.bind ?_ (fun _ => ?_)
    · intro y0 y1 y2 y3 y4 y5 y6 y7
      unfold pantilelaw03_BoxTells.j2
      repeat' first
      | (with_reducible exact ih0 _ _ _ _ _ _ _ _ _ _ _ _ _ _)
      | (with_reducible exact ih1 _ _ _ _ _ _ _ _ _ _ _ _)
      | (with_reducible exact ih2 _ _ _ _ _ _ _ _)
      | (with_reducible exact ih3 _ _ _ _ _ _ _)
      | (with_reducible exact box_Empty.mono _ _ _)
      | (with_reducible exact box_FarBox.mono _ _ _ _)
      | (with_reducible exact box_In.mono _ _ _ _)
      | (with_reducible exact box_Volume.mono _ _ _)
      | (with_reducible exact pantilelaw03_awake.mono _)
      | (with_reducible exact pantileref03_Empty.mono _ _ _)
      | (with_reducible exact pantileref03_Far.mono _ _ _)
      | (with_reducible exact pantileref03_In.mono _ _ _ _)
      | (with_reducible exact pantileref03_Nearest.mono _ _ _ _)
      | (with_reducible exact pantileref03_Volume.mono _ _ _)
      | (with_reducible exact LeO.refl _)
      | (with_reducible exact LeO.none _)
      | (with_reducible refine LeO.ite ?_ ?_)
      | (with_reducible refine LeO.bind ?_ (fun _ => ?_))
      | exact ih0 _ _ _ _ _ _ _ _ _ _ _ _ _ _
      | exact ih1 _ _ _ _ _ _ _ _ _ _ _ _
      | exact ih2 _ _ _ _ _ _ _ _
      | exact ih3 _ _ _ _ _ _ _
      | exact box_Empty.mono _ _ _
      | exact box_FarBox.mono _ _ _ _
      | exact box_In.mono _ _ _ _
      | exact box_Volume.mono _ _ _
      | exact pantilelaw03_awake.mono _
      | exact pantileref03_Empty.mono _ _ _
      | exact pantileref03_Far.mono _ _ _
      | exact pantileref03_In.mono _ _ _ _
      | exact pantileref03_Nearest.mono _ _ _ _
      | exact pantileref03_Volume.mono _ _ _
      | exact LeO.none _
      | refine LeO.ite ?_ ?_
      | refine LeO.bind ?_ (fun _ => ?_)
    · intro y0 y1 y2 y3 y4 y5 y6
      unfold pantilelaw03_BoxTells.j3
      repeat' first
      | (with_reducible exact ih0 _ _ _ _ _ _ _ _ _ _ _ _ _ _)
      | (with_reducible exact ih1 _ _ _ _ _ _ _ _ _ _ _ _)
      | (with_reducible exact ih2 _ _ _ _ _ _ _ _)
      | (with_reducible exact ih3 _ _ _ _ _ _ _)
      | (with_reducible exact box_Empty.mono _ _ _)
      | (with_reducible exact box_FarBox.mono _ _ _ _)
      | (with_reducible exact box_In.mono _ _ _ _)
      | (with_reducible exact box_Volume.mono _ _ _)
      | (with_reducible exact pantilelaw03_awake.mono _)
      | (with_reducible exact pantileref03_Empty.mono _ _ _)
      | (with_reducible exact pantileref03_Far.mono _ _ _)
      | (with_reducible exact pantileref03_In.mono _ _ _ _)
      | (with_reducible exact pantileref03_Nearest.mono _ _ _ _)
      | (with_reducible exact pantileref03_Volume.mono _ _ _)
      | (with_reducible exact LeO.refl _)
      | (with_reducible exact LeO.none _)
      | (with_reducible refine LeO.ite ?_ ?_)
      | (with_reducible refine LeO.bind ?_ (fun _ => ?_))
      | exact ih0 _ _ _ _ _ _ _ _ _ _ _ _ _ _
      | exact ih1 _ _ _ _ _ _ _ _ _ _ _ _
      | exact ih2 _ _ _ _ _ _ _ _
      | exact ih3 _ _ _ _ _ _ _
      | exact box_Empty.mono _ _ _
      | exact box_FarBox.mono _ _ _ _
      | exact box_In.mono _ _ _ _
      | exact box_Volume.mono _ _ _
      | exact pantilelaw03_awake.mono _
      | exact pantileref03_Empty.mono _ _ _
      | exact pantileref03_Far.mono _ _ _
      | exact pantileref03_In.mono _ _ _ _
      | exact pantileref03_Nearest.mono _ _ _ _
      | exact pantileref03_Volume.mono _ _ _
      | exact LeO.none _
      | refine LeO.ite ?_ ?_
      | refine LeO.bind ?_ (fun _ => ?_)
theorem pantilelaw03_BoxTells.mono : ∀ a0 a1 a2 a3 a4 k, LeO (pantilelaw03_BoxTells.f k a0 a1 a2 a3 a4) (pantilelaw03_BoxTells.f (k + 1) a0 a1 a2 a3 a4) := by
  intro a0 a1 a2 a3 a4 k
  obtain ⟨ih0, ih1, ih2, ih3⟩ := pantilelaw03_BoxTells.mono_l k
  unfold pantilelaw03_BoxTells.f
  repeat' first
      | (with_reducible exact ih0 _ _ _ _ _ _ _ _ _ _ _ _ _ _)
      | (with_reducible exact ih1 _ _ _ _ _ _ _ _ _ _ _ _)
      | (with_reducible exact ih2 _ _ _ _ _ _ _ _)
      | (with_reducible exact ih3 _ _ _ _ _ _ _)
      | (with_reducible exact box_Empty.mono _ _ _)
      | (with_reducible exact box_FarBox.mono _ _ _ _)
      | (with_reducible exact box_In.mono _ _ _ _)
      | (with_reducible exact box_Volume.mono _ _ _)
      | (with_reducible exact pantilelaw03_awake.mono _)
      | (with_reducible exact pantileref03_Empty.mono _ _ _)
      | (with_reducible exact pantileref03_Far.mono _ _ _)
      | (with_reducible exact pantileref03_In.mono _ _ _ _)
      | (with_reducible exact pantileref03_Nearest.mono _ _ _ _)
      | (with_reducible exact pantileref03_Volume.mono _ _ _)
      | (with_reducible exact LeO.refl _)
      | (with_reducible exact LeO.none _)
      | (with_reducible refine LeO.ite ?_ ?_)
      | (with_reducible refine LeO.bind ?_ (fun _ => ?_))
      | exact ih0 _ _ _ _ _ _ _ _ _ _ _ _ _ _
      | exact ih1 _ _ _ _ _ _ _ _ _ _ _ _
      | exact ih2 _ _ _ _ _ _ _ _
      | exact ih3 _ _ _ _ _ _ _
      | exact box_Empty.mono _ _ _
      | exact box_FarBox.mono _ _ _ _
      | exact box_In.mono _ _ _ _
      | exact box_Volume.mono _ _ _
      | exact pantilelaw03_awake.mono _
      | exact pantileref03_Empty.mono _ _ _
      | exact pantileref03_Far.mono _ _ _
      | exact pantileref03_In.mono _ _ _ _
      | exact pantileref03_Nearest.mono _ _ _ _
      | exact pantileref03_Volume.mono _ _ _
      | exact LeO.none _
      | refine LeO.ite ?_ ?_
      | refine LeO.bind ?_ (fun _ => ?_)
set_option maxHeartbeats 8000000 in
set_option maxRecDepth 100000 in
theorem pantilelaw03_BoxTells.calls (k : Nat) (A0_0 : Option Addr) (c0_0 : Nat) (l0_0 : List Int) (A0_1 : Option Addr) (c0_1 : Nat) (l0_1 : List Int) (A1_0 : Option Addr) (c1_0 : Nat) (l1_0 : List Int) (A1_1 : Option Addr) (c1_1 : Nat) (l1_1 : List Int) (A2 : Option Addr) (c2 : Nat) (l2 : List Int) (r : Bool) (w : World) (hr0_0 : Kd.C (Kd.int .u64) w A0_0 l0_0.length l0_0) (hc0_0 : l0_0.length ≤ c0_0) (hr0_1 : Kd.C (Kd.int .u64) w A0_1 l0_1.length l0_1) (hc0_1 : l0_1.length ≤ c0_1) (hr1_0 : Kd.C (Kd.int .u64) w A1_0 l1_0.length l1_0) (hc1_0 : l1_0.length ≤ c1_0) (hr1_1 : Kd.C (Kd.int .u64) w A1_1 l1_1.length l1_1) (hc1_1 : l1_1.length ≤ c1_1) (hr2 : Kd.C (Kd.int .u64) w A2 l2.length l2) (hc2 : l2.length ≤ c2) (hrt : r = true) (h : pantilelaw03_BoxTells.f k l0_0 l0_1 l1_0 l1_1 l2 = some r) :
    Calls Try.prog 13 #[.agg #[.slice A0_0 l0_0.length c0_0, .slice A0_1 l0_1.length c0_1], .agg #[.slice A1_0 l1_0.length c1_0, .slice A1_1 l1_1.length c1_1], .slice A2 l2.length c2] w fun e w' => e = .returned (.bool r) ∧ Below w.heap.size w w' := by
  have hu32 := Try.underlying32
  have HRT := Aside0.mk hrt
  clear hrt
  have HR0_0 := Aside0.mk hr0_0
  have HC0_0 := Aside0.mk hc0_0
  clear hr0_0 hc0_0
  have HR0_1 := Aside0.mk hr0_1
  have HC0_1 := Aside0.mk hc0_1
  clear hr0_1 hc0_1
  have HR1_0 := Aside0.mk hr1_0
  have HC1_0 := Aside0.mk hc1_0
  clear hr1_0 hc1_0
  have HR1_1 := Aside0.mk hr1_1
  have HC1_1 := Aside0.mk hc1_1
  clear hr1_1 hc1_1
  have HR2 := Aside0.mk hr2
  have HC2 := Aside0.mk hc2
  clear hr2 hc2
  have HB := Aside0.mk (Below.refl w.heap.size w)
  have H : ((pantilelaw03_awake.f k).bind fun t234 => (if t234 = true then ((pantilelaw03_big.f l0_0 l0_1 l1_0 l1_1 l2).bind fun t235 => (if t235 = true then (some true) else ((box_Empty.f k l0_0 l0_1).bind fun bt236 => ((box_Volume.f k l0_0 l0_1).bind fun bt238 => ((box_In.f k l0_0 l0_1 l2).bind fun bt240 => ((box_Meet.f l0_0 l0_1 l1_0 l1_1).bind fun bt242 => ((box_FarBox.f k l0_0 l0_1 l2).bind fun bt250 => ((pantileref03_Right.f l0_0 l0_1).bind fun t252 => ((box_Right.f l0_0 l0_1).bind fun t253 => (if (t253 != t252) = true then (some false) else (if t252 = true then (if bt236.2 = 0 then ((pantileref03_Empty.f k l0_0 l0_1).bind fun t254 => (if (bt236.1 != t254) = true then (pantilelaw03_BoxTells.j0 k l2 bt236.1 bt240.1 bt240.2 bt242.2.2 bt250.1 bt250.2 true l0_0 l0_1 l1_0 l1_1 bt242.1 bt242.2.1) else (if bt238.2 = 0 then ((pantileref03_Volume.f k l0_0 l0_1).bind fun t255 => (pantilelaw03_BoxTells.j0 k l2 bt236.1 bt240.1 bt240.2 bt242.2.2 bt250.1 bt250.2 (bt238.1 != t255) l0_0 l0_1 l1_0 l1_1 bt242.1 bt242.2.1)) else (pantilelaw03_BoxTells.j0 k l2 bt236.1 bt240.1 bt240.2 bt242.2.2 bt250.1 bt250.2 true l0_0 l0_1 l1_0 l1_1 bt242.1 bt242.2.1)))) else (pantilelaw03_BoxTells.j0 k l2 bt236.1 bt240.1 bt240.2 bt242.2.2 bt250.1 bt250.2 true l0_0 l0_1 l1_0 l1_1 bt242.1 bt242.2.1)) else (if bt236.1 = true then (some false) else (if bt236.2 = 2 then (if bt238.1 = 0 then (if bt238.2 = 2 then (if bt240.1 = true then (some false) else (if bt240.2 = 2 then (if (bt242.1.length : Int) = 0 then (if bt242.2.2 = 2 then (if bt250.1 = 0 then (some (bt250.2 == 2)) else (some false)) else (some false)) else (some false)) else (some false))) else (some false)) else (some false)) else (some false)))))))))))))) else (some false))) = some r := h
  clear h
  replace H := Option.bind_eq_some_iff.mp H
  obtain ⟨t234, A40, H⟩ := H
  replace H : (if t234 = true then ((pantilelaw03_big.f l0_0 l0_1 l1_0 l1_1 l2).bind fun t235 => (if t235 = true then (some true) else ((box_Empty.f k l0_0 l0_1).bind fun bt236 => ((box_Volume.f k l0_0 l0_1).bind fun bt238 => ((box_In.f k l0_0 l0_1 l2).bind fun bt240 => ((box_Meet.f l0_0 l0_1 l1_0 l1_1).bind fun bt242 => ((box_FarBox.f k l0_0 l0_1 l2).bind fun bt250 => ((pantileref03_Right.f l0_0 l0_1).bind fun t252 => ((box_Right.f l0_0 l0_1).bind fun t253 => (if (t253 != t252) = true then (some false) else (if t252 = true then (if bt236.2 = 0 then ((pantileref03_Empty.f k l0_0 l0_1).bind fun t254 => (if (bt236.1 != t254) = true then (pantilelaw03_BoxTells.j0 k l2 bt236.1 bt240.1 bt240.2 bt242.2.2 bt250.1 bt250.2 true l0_0 l0_1 l1_0 l1_1 bt242.1 bt242.2.1) else (if bt238.2 = 0 then ((pantileref03_Volume.f k l0_0 l0_1).bind fun t255 => (pantilelaw03_BoxTells.j0 k l2 bt236.1 bt240.1 bt240.2 bt242.2.2 bt250.1 bt250.2 (bt238.1 != t255) l0_0 l0_1 l1_0 l1_1 bt242.1 bt242.2.1)) else (pantilelaw03_BoxTells.j0 k l2 bt236.1 bt240.1 bt240.2 bt242.2.2 bt250.1 bt250.2 true l0_0 l0_1 l1_0 l1_1 bt242.1 bt242.2.1)))) else (pantilelaw03_BoxTells.j0 k l2 bt236.1 bt240.1 bt240.2 bt242.2.2 bt250.1 bt250.2 true l0_0 l0_1 l1_0 l1_1 bt242.1 bt242.2.1)) else (if bt236.1 = true then (some false) else (if bt236.2 = 2 then (if bt238.1 = 0 then (if bt238.2 = 2 then (if bt240.1 = true then (some false) else (if bt240.2 = 2 then (if (bt242.1.length : Int) = 0 then (if bt242.2.2 = 2 then (if bt250.1 = 0 then (some (bt250.2 == 2)) else (some false)) else (some false)) else (some false)) else (some false))) else (some false)) else (some false)) else (some false)))))))))))))) else (some false)) = some r := H
  have A4 := Aside0.mk A40
  clear A40
  by_cases c5 : t234 = true
  · subst c5
    have H1 : ((pantilelaw03_big.f l0_0 l0_1 l1_0 l1_1 l2).bind fun t235 => (if t235 = true then (some true) else ((box_Empty.f k l0_0 l0_1).bind fun bt236 => ((box_Volume.f k l0_0 l0_1).bind fun bt238 => ((box_In.f k l0_0 l0_1 l2).bind fun bt240 => ((box_Meet.f l0_0 l0_1 l1_0 l1_1).bind fun bt242 => ((box_FarBox.f k l0_0 l0_1 l2).bind fun bt250 => ((pantileref03_Right.f l0_0 l0_1).bind fun t252 => ((box_Right.f l0_0 l0_1).bind fun t253 => (if (t253 != t252) = true then (some false) else (if t252 = true then (if bt236.2 = 0 then ((pantileref03_Empty.f k l0_0 l0_1).bind fun t254 => (if (bt236.1 != t254) = true then (pantilelaw03_BoxTells.j0 k l2 bt236.1 bt240.1 bt240.2 bt242.2.2 bt250.1 bt250.2 true l0_0 l0_1 l1_0 l1_1 bt242.1 bt242.2.1) else (if bt238.2 = 0 then ((pantileref03_Volume.f k l0_0 l0_1).bind fun t255 => (pantilelaw03_BoxTells.j0 k l2 bt236.1 bt240.1 bt240.2 bt242.2.2 bt250.1 bt250.2 (bt238.1 != t255) l0_0 l0_1 l1_0 l1_1 bt242.1 bt242.2.1)) else (pantilelaw03_BoxTells.j0 k l2 bt236.1 bt240.1 bt240.2 bt242.2.2 bt250.1 bt250.2 true l0_0 l0_1 l1_0 l1_1 bt242.1 bt242.2.1)))) else (pantilelaw03_BoxTells.j0 k l2 bt236.1 bt240.1 bt240.2 bt242.2.2 bt250.1 bt250.2 true l0_0 l0_1 l1_0 l1_1 bt242.1 bt242.2.1)) else (if bt236.1 = true then (some false) else (if bt236.2 = 2 then (if bt238.1 = 0 then (if bt238.2 = 2 then (if bt240.1 = true then (some false) else (if bt240.2 = 2 then (if (bt242.1.length : Int) = 0 then (if bt242.2.2 = 2 then (if bt250.1 = 0 then (some (bt250.2 == 2)) else (some false)) else (some false)) else (some false)) else (some false))) else (some false)) else (some false)) else (some false)))))))))))))) = some r := by rw [if_pos rfl] at H; exact H
    clear H
    have H := H1
    clear H1
    replace H := Option.bind_eq_some_iff.mp H
    obtain ⟨t235, A60, H⟩ := H
    replace H : (if t235 = true then (some true) else ((box_Empty.f k l0_0 l0_1).bind fun bt236 => ((box_Volume.f k l0_0 l0_1).bind fun bt238 => ((box_In.f k l0_0 l0_1 l2).bind fun bt240 => ((box_Meet.f l0_0 l0_1 l1_0 l1_1).bind fun bt242 => ((box_FarBox.f k l0_0 l0_1 l2).bind fun bt250 => ((pantileref03_Right.f l0_0 l0_1).bind fun t252 => ((box_Right.f l0_0 l0_1).bind fun t253 => (if (t253 != t252) = true then (some false) else (if t252 = true then (if bt236.2 = 0 then ((pantileref03_Empty.f k l0_0 l0_1).bind fun t254 => (if (bt236.1 != t254) = true then (pantilelaw03_BoxTells.j0 k l2 bt236.1 bt240.1 bt240.2 bt242.2.2 bt250.1 bt250.2 true l0_0 l0_1 l1_0 l1_1 bt242.1 bt242.2.1) else (if bt238.2 = 0 then ((pantileref03_Volume.f k l0_0 l0_1).bind fun t255 => (pantilelaw03_BoxTells.j0 k l2 bt236.1 bt240.1 bt240.2 bt242.2.2 bt250.1 bt250.2 (bt238.1 != t255) l0_0 l0_1 l1_0 l1_1 bt242.1 bt242.2.1)) else (pantilelaw03_BoxTells.j0 k l2 bt236.1 bt240.1 bt240.2 bt242.2.2 bt250.1 bt250.2 true l0_0 l0_1 l1_0 l1_1 bt242.1 bt242.2.1)))) else (pantilelaw03_BoxTells.j0 k l2 bt236.1 bt240.1 bt240.2 bt242.2.2 bt250.1 bt250.2 true l0_0 l0_1 l1_0 l1_1 bt242.1 bt242.2.1)) else (if bt236.1 = true then (some false) else (if bt236.2 = 2 then (if bt238.1 = 0 then (if bt238.2 = 2 then (if bt240.1 = true then (some false) else (if bt240.2 = 2 then (if (bt242.1.length : Int) = 0 then (if bt242.2.2 = 2 then (if bt250.1 = 0 then (some (bt250.2 == 2)) else (some false)) else (some false)) else (some false)) else (some false))) else (some false)) else (some false)) else (some false))))))))))))) = some r := H
    have A6 := Aside0.mk A60
    clear A60
    by_cases c7 : t235 = true
    · subst c7
      have H1 : (some true) = some r := by rw [if_pos rfl] at H; exact H
      clear H
      have H := H1
      clear H1
      obtain rfl := Option.some.inj H
      go_enter Try.func13, Try.ntmps13
      go_wp2_with (first | ((with_reducible refine gate_dst (N := 3) rfl ?_); (try (refine gate_guard (by rfl) ?_; dsimp only)); refine box_event ?hg (N := 3) ?hd (cs := #[.slice A0_0 l0_0.length c0_0, .slice A0_1 l0_1.length c0_1]) (t := 32) ?hr ?_; (case hd => rfl); (case hg => rfl); (case hr => first | (go_simp; done) | (go_simp; rfl)); intro gb232 hg w8 hbox hb; have n0_ := Aside0.mk (below_step (by repeat (first | (with_reducible first | exact HB.out | apply below_alloc | apply pw_below_drewN | apply below_drew1) | exact HB.out)) hb); have n1_ := Aside0.mk (hbox); have n2_ := Aside0.mk ((by rw [hg]; exact (below_size (by repeat (first | (with_reducible first | exact HB.out | apply below_alloc | apply pw_below_drewN | apply below_drew1) | exact HB.out))) : w.heap.size ≤ gb232)); have n3_ := Aside0.mk ((by rw [hg]; exact (below_size (by repeat (first | (with_reducible first | exact HB.out | apply below_alloc | apply pw_below_drewN | apply below_drew1) | exact HB.out))) : w.heap.size ≤ gb232)); clear HB; have HB := n0_; have BK232 := n1_; have GW232 := n2_; have GE232 := n3_; clear n0_ n1_ n2_ n3_; clear hb hbox hg) | ((with_reducible refine gate_dst (N := 4) rfl ?_); (try (refine gate_guard (by rfl) ?_; dsimp only)); refine box_event ?hg (N := 4) ?hd (cs := #[.slice A1_0 l1_0.length c1_0, .slice A1_1 l1_1.length c1_1]) (t := 32) ?hr ?_; (case hd => rfl); (case hg => rfl); (case hr => first | (go_simp; done) | (go_simp; rfl)); intro gb233 hg w9 hbox hb; have n0_ := Aside0.mk (blk_below (g := gb232) (o := .cells #[.slice A0_0 l0_0.length c0_0, .slice A0_1 l0_1.length c0_1] 32 (0, 0)) (by (with_reducible repeat (first | refine blk_drewN ?_ _ | refine blk_drew ?_ | refine blk_alloc ?_ _)); exact BK232.out) hb); have n1_ := Aside0.mk (below_step (by repeat (first | (with_reducible first | exact HB.out | apply below_alloc | apply pw_below_drewN | apply below_drew1 | refine below_set ?_ GE232.out) | exact HB.out)) hb); have n2_ := Aside0.mk (hbox); have n3_ := Aside0.mk ((by rw [hg]; exact (below_size (by repeat (first | (with_reducible first | exact HB.out | apply below_alloc | apply pw_below_drewN | apply below_drew1 | refine below_set ?_ GE232.out) | exact HB.out))) : w.heap.size ≤ gb233)); have n4_ := Aside0.mk ((by rw [hg]; exact (below_size (by repeat (first | (with_reducible first | exact HB.out | apply below_alloc | apply pw_below_drewN | apply below_drew1 | refine below_set ?_ GE232.out) | exact HB.out))) : w.heap.size ≤ gb233)); have n5_ := Aside0.mk ((by rw [hg]; exact Nat.ne_of_lt (blk_lt (g := gb232) (o := .cells #[.slice A0_0 l0_0.length c0_0, .slice A0_1 l0_1.length c0_1] 32 (0, 0)) (by (with_reducible repeat (first | refine blk_drewN ?_ _ | refine blk_drew ?_ | refine blk_alloc ?_ _)); exact BK232.out)) : gb232 ≠ gb233)); have n6_ := Aside0.mk ((by rw [hg]; exact Nat.ne_of_gt (blk_lt (g := gb232) (o := .cells #[.slice A0_0 l0_0.length c0_0, .slice A0_1 l0_1.length c0_1] 32 (0, 0)) (by (with_reducible repeat (first | refine blk_drewN ?_ _ | refine blk_drew ?_ | refine blk_alloc ?_ _)); exact BK232.out)) : gb233 ≠ gb232)); clear BK232; clear HB; have BK232 := n0_; have HB := n1_; have BK233 := n2_; have GW233 := n3_; have GE233 := n4_; have NB232_233 := n5_; have NB233_232 := n6_; clear n0_ n1_ n2_ n3_ n4_ n5_ n6_; clear hb hbox hg) | ((with_reducible refine gate_callee (f := 24) rfl ?_); refine goesL_ (some 18) rfl rfl Try.func24 (by kernel_rfl) rfl #[] rfl (by (try simp only [List.map_toArray, List.map_cons, List.map_nil]); first | done | rfl | (simp only [List.length_drop, List.length_take]; rfl)) ?_; (with_reducible refine (pantilelaw03_awake.calls k  true _ A4.out).mono ?_); rintro e w10 ⟨rfl, hb⟩; refine ⟨_, rfl, ?_⟩; have n0_ := Aside0.mk (blk_below (g := gb232) (o := .cells #[.slice A0_0 l0_0.length c0_0, .slice A0_1 l0_1.length c0_1] 32 (0, 0)) (by (with_reducible repeat (first | refine blk_drewN ?_ _ | refine blk_drew ?_ | refine blk_alloc ?_ _)); exact BK232.out) hb); have n1_ := Aside0.mk (blk_below (g := gb233) (o := .cells #[.slice A1_0 l1_0.length c1_0, .slice A1_1 l1_1.length c1_1] 32 (0, 0)) (by (with_reducible repeat (first | refine blk_drewN ?_ _ | refine blk_drew ?_ | refine blk_alloc ?_ _)); exact BK233.out) hb); have n2_ := Aside0.mk (below_step (by repeat (first | (with_reducible first | exact HB.out | apply below_alloc | apply pw_below_drewN | apply below_drew1 | refine below_set ?_ GE232.out | refine below_set ?_ GE233.out) | exact HB.out)) hb); clear BK232; clear BK233; clear HB; have BK232 := n0_; have BK233 := n1_; have HB := n2_; clear n0_ n1_ n2_; (try clear hb); (try clear hb2); (try clear hk); (try clear hi); have hnb11 := NB232_233.out; have hnc11 := NB233_232.out; have hcz12_0 : w10.cell? ⟨gb232, 0, none⟩ = some (.slice A0_0 l0_0.length c0_0) := (blk_cell BK232.out 0).trans rfl; have hcz12_1 : w10.cell? ⟨gb232, 1, none⟩ = some (.slice A0_1 l0_1.length c0_1) := (blk_cell BK232.out 1).trans rfl; have hfz12_0 := blk_frozen BK232.out 0; have hfz12_1 := blk_frozen BK232.out 1; have hcz13_0 : w10.cell? ⟨gb233, 0, none⟩ = some (.slice A1_0 l1_0.length c1_0) := (blk_cell BK233.out 0).trans rfl; have hcz13_1 : w10.cell? ⟨gb233, 1, none⟩ = some (.slice A1_1 l1_1.length c1_1) := (blk_cell BK233.out 1).trans rfl; have hfz13_0 := blk_frozen BK233.out 0; have hfz13_1 := blk_frozen BK233.out 1) | ((with_reducible refine gate_callee (f := 53) rfl ?_); refine goesL_ (some 23) rfl rfl Try.func53 (by kernel_rfl) rfl #[.agg #[.slice A0_0 l0_0.length c0_0, .slice A0_1 l0_1.length c0_1], .agg #[.slice A1_0 l1_0.length c1_0, .slice A1_1 l1_1.length c1_1], .slice A2 l2.length c2] rfl (by (try simp only [List.map_toArray, List.map_cons, List.map_nil]); first | done | rfl | (simp only [List.length_drop, List.length_take]; rfl)) ?_; (with_reducible refine (pantilelaw03_big.calls _ _ l0_0 _ _ l0_1 _ _ l1_0 _ _ l1_1 _ _ l2 true _ ?side1 ?side2 ?side3 ?side4 ?side5 ?side6 ?side7 ?side8 ?side9 ?side10 A6.out).mono ?_); (case side1 => repeat (first | exact (Kd.C_below HR0_0.out HB.out) | (with_reducible refine Kd.C_alloc ?_ _) | (with_reducible refine Kd.C_drewN ?_ _) | (with_reducible refine Kd.C_drew ?_))); (case side2 => exact HC0_0.out); (case side3 => repeat (first | exact (Kd.C_below HR0_1.out HB.out) | (with_reducible refine Kd.C_alloc ?_ _) | (with_reducible refine Kd.C_drewN ?_ _) | (with_reducible refine Kd.C_drew ?_))); (case side4 => exact HC0_1.out); (case side5 => repeat (first | exact (Kd.C_below HR1_0.out HB.out) | (with_reducible refine Kd.C_alloc ?_ _) | (with_reducible refine Kd.C_drewN ?_ _) | (with_reducible refine Kd.C_drew ?_))); (case side6 => exact HC1_0.out); (case side7 => repeat (first | exact (Kd.C_below HR1_1.out HB.out) | (with_reducible refine Kd.C_alloc ?_ _) | (with_reducible refine Kd.C_drewN ?_ _) | (with_reducible refine Kd.C_drew ?_))); (case side8 => exact HC1_1.out); (case side9 => repeat (first | exact (Kd.C_below HR2.out HB.out) | (with_reducible refine Kd.C_alloc ?_ _) | (with_reducible refine Kd.C_drewN ?_ _) | (with_reducible refine Kd.C_drew ?_))); (case side10 => exact HC2.out); rintro e w14 ⟨rfl, hb⟩; refine ⟨_, rfl, ?_⟩; have n0_ := Aside0.mk (blk_below (g := gb232) (o := .cells #[.slice A0_0 l0_0.length c0_0, .slice A0_1 l0_1.length c0_1] 32 (0, 0)) (by (with_reducible repeat (first | refine blk_drewN ?_ _ | refine blk_drew ?_ | refine blk_alloc ?_ _)); exact BK232.out) hb); have n1_ := Aside0.mk (blk_below (g := gb233) (o := .cells #[.slice A1_0 l1_0.length c1_0, .slice A1_1 l1_1.length c1_1] 32 (0, 0)) (by (with_reducible repeat (first | refine blk_drewN ?_ _ | refine blk_drew ?_ | refine blk_alloc ?_ _)); exact BK233.out) hb); have n2_ := Aside0.mk (below_step (by repeat (first | (with_reducible first | exact HB.out | apply below_alloc | apply pw_below_drewN | apply below_drew1 | refine below_set ?_ GE232.out | refine below_set ?_ GE233.out) | exact HB.out)) hb); clear BK232; clear BK233; clear HB; have BK232 := n0_; have BK233 := n1_; have HB := n2_; clear n0_ n1_ n2_; (try clear hb); (try clear hb2); (try clear hk); (try clear hi)))
      go_ret
      exact ⟨by first | rfl | (simp [errW_none, errW_some] <;> rfl) | (simp [*, errW_none, errW_some] <;> rfl), by repeat (first | (with_reducible first | exact HB.out | apply below_alloc | apply pw_below_drewN | apply below_drew1 | refine below_set ?_ GE232.out | refine below_set ?_ GE233.out) | exact HB.out)⟩
    · replace c7 := Bool.eq_false_iff.mpr c7
      subst c7
      have H1 : ((box_Empty.f k l0_0 l0_1).bind fun bt236 => ((box_Volume.f k l0_0 l0_1).bind fun bt238 => ((box_In.f k l0_0 l0_1 l2).bind fun bt240 => ((box_Meet.f l0_0 l0_1 l1_0 l1_1).bind fun bt242 => ((box_FarBox.f k l0_0 l0_1 l2).bind fun bt250 => ((pantileref03_Right.f l0_0 l0_1).bind fun t252 => ((box_Right.f l0_0 l0_1).bind fun t253 => (if (t253 != t252) = true then (some false) else (if t252 = true then (if bt236.2 = 0 then ((pantileref03_Empty.f k l0_0 l0_1).bind fun t254 => (if (bt236.1 != t254) = true then (pantilelaw03_BoxTells.j0 k l2 bt236.1 bt240.1 bt240.2 bt242.2.2 bt250.1 bt250.2 true l0_0 l0_1 l1_0 l1_1 bt242.1 bt242.2.1) else (if bt238.2 = 0 then ((pantileref03_Volume.f k l0_0 l0_1).bind fun t255 => (pantilelaw03_BoxTells.j0 k l2 bt236.1 bt240.1 bt240.2 bt242.2.2 bt250.1 bt250.2 (bt238.1 != t255) l0_0 l0_1 l1_0 l1_1 bt242.1 bt242.2.1)) else (pantilelaw03_BoxTells.j0 k l2 bt236.1 bt240.1 bt240.2 bt242.2.2 bt250.1 bt250.2 true l0_0 l0_1 l1_0 l1_1 bt242.1 bt242.2.1)))) else (pantilelaw03_BoxTells.j0 k l2 bt236.1 bt240.1 bt240.2 bt242.2.2 bt250.1 bt250.2 true l0_0 l0_1 l1_0 l1_1 bt242.1 bt242.2.1)) else (if bt236.1 = true then (some false) else (if bt236.2 = 2 then (if bt238.1 = 0 then (if bt238.2 = 2 then (if bt240.1 = true then (some false) else (if bt240.2 = 2 then (if (bt242.1.length : Int) = 0 then (if bt242.2.2 = 2 then (if bt250.1 = 0 then (some (bt250.2 == 2)) else (some false)) else (some false)) else (some false)) else (some false))) else (some false)) else (some false)) else (some false)))))))))))) = some r := by rw [if_neg (show ¬ (false = true) by decide)] at H; exact H
      clear H
      have H := H1
      clear H1
      replace H := Option.bind_eq_some_iff.mp H
      obtain ⟨⟨t236, t237⟩, A150, H⟩ := H
      replace H : ((box_Volume.f k l0_0 l0_1).bind fun bt238 => ((box_In.f k l0_0 l0_1 l2).bind fun bt240 => ((box_Meet.f l0_0 l0_1 l1_0 l1_1).bind fun bt242 => ((box_FarBox.f k l0_0 l0_1 l2).bind fun bt250 => ((pantileref03_Right.f l0_0 l0_1).bind fun t252 => ((box_Right.f l0_0 l0_1).bind fun t253 => (if (t253 != t252) = true then (some false) else (if t252 = true then (if t237 = 0 then ((pantileref03_Empty.f k l0_0 l0_1).bind fun t254 => (if (t236 != t254) = true then (pantilelaw03_BoxTells.j0 k l2 t236 bt240.1 bt240.2 bt242.2.2 bt250.1 bt250.2 true l0_0 l0_1 l1_0 l1_1 bt242.1 bt242.2.1) else (if bt238.2 = 0 then ((pantileref03_Volume.f k l0_0 l0_1).bind fun t255 => (pantilelaw03_BoxTells.j0 k l2 t236 bt240.1 bt240.2 bt242.2.2 bt250.1 bt250.2 (bt238.1 != t255) l0_0 l0_1 l1_0 l1_1 bt242.1 bt242.2.1)) else (pantilelaw03_BoxTells.j0 k l2 t236 bt240.1 bt240.2 bt242.2.2 bt250.1 bt250.2 true l0_0 l0_1 l1_0 l1_1 bt242.1 bt242.2.1)))) else (pantilelaw03_BoxTells.j0 k l2 t236 bt240.1 bt240.2 bt242.2.2 bt250.1 bt250.2 true l0_0 l0_1 l1_0 l1_1 bt242.1 bt242.2.1)) else (if t236 = true then (some false) else (if t237 = 2 then (if bt238.1 = 0 then (if bt238.2 = 2 then (if bt240.1 = true then (some false) else (if bt240.2 = 2 then (if (bt242.1.length : Int) = 0 then (if bt242.2.2 = 2 then (if bt250.1 = 0 then (some (bt250.2 == 2)) else (some false)) else (some false)) else (some false)) else (some false))) else (some false)) else (some false)) else (some false))))))))))) = some r := H
      have A15 := Aside0.mk A150
      clear A150
      replace H := Option.bind_eq_some_iff.mp H
      obtain ⟨⟨t238, t239⟩, A160, H⟩ := H
      replace H : ((box_In.f k l0_0 l0_1 l2).bind fun bt240 => ((box_Meet.f l0_0 l0_1 l1_0 l1_1).bind fun bt242 => ((box_FarBox.f k l0_0 l0_1 l2).bind fun bt250 => ((pantileref03_Right.f l0_0 l0_1).bind fun t252 => ((box_Right.f l0_0 l0_1).bind fun t253 => (if (t253 != t252) = true then (some false) else (if t252 = true then (if t237 = 0 then ((pantileref03_Empty.f k l0_0 l0_1).bind fun t254 => (if (t236 != t254) = true then (pantilelaw03_BoxTells.j0 k l2 t236 bt240.1 bt240.2 bt242.2.2 bt250.1 bt250.2 true l0_0 l0_1 l1_0 l1_1 bt242.1 bt242.2.1) else (if t239 = 0 then ((pantileref03_Volume.f k l0_0 l0_1).bind fun t255 => (pantilelaw03_BoxTells.j0 k l2 t236 bt240.1 bt240.2 bt242.2.2 bt250.1 bt250.2 (t238 != t255) l0_0 l0_1 l1_0 l1_1 bt242.1 bt242.2.1)) else (pantilelaw03_BoxTells.j0 k l2 t236 bt240.1 bt240.2 bt242.2.2 bt250.1 bt250.2 true l0_0 l0_1 l1_0 l1_1 bt242.1 bt242.2.1)))) else (pantilelaw03_BoxTells.j0 k l2 t236 bt240.1 bt240.2 bt242.2.2 bt250.1 bt250.2 true l0_0 l0_1 l1_0 l1_1 bt242.1 bt242.2.1)) else (if t236 = true then (some false) else (if t237 = 2 then (if t238 = 0 then (if t239 = 2 then (if bt240.1 = true then (some false) else (if bt240.2 = 2 then (if (bt242.1.length : Int) = 0 then (if bt242.2.2 = 2 then (if bt250.1 = 0 then (some (bt250.2 == 2)) else (some false)) else (some false)) else (some false)) else (some false))) else (some false)) else (some false)) else (some false)))))))))) = some r := H
      have A16 := Aside0.mk A160
      clear A160
      replace H := Option.bind_eq_some_iff.mp H
      obtain ⟨⟨t240, t241⟩, A170, H⟩ := H
      replace H : ((box_Meet.f l0_0 l0_1 l1_0 l1_1).bind fun bt242 => ((box_FarBox.f k l0_0 l0_1 l2).bind fun bt250 => ((pantileref03_Right.f l0_0 l0_1).bind fun t252 => ((box_Right.f l0_0 l0_1).bind fun t253 => (if (t253 != t252) = true then (some false) else (if t252 = true then (if t237 = 0 then ((pantileref03_Empty.f k l0_0 l0_1).bind fun t254 => (if (t236 != t254) = true then (pantilelaw03_BoxTells.j0 k l2 t236 t240 t241 bt242.2.2 bt250.1 bt250.2 true l0_0 l0_1 l1_0 l1_1 bt242.1 bt242.2.1) else (if t239 = 0 then ((pantileref03_Volume.f k l0_0 l0_1).bind fun t255 => (pantilelaw03_BoxTells.j0 k l2 t236 t240 t241 bt242.2.2 bt250.1 bt250.2 (t238 != t255) l0_0 l0_1 l1_0 l1_1 bt242.1 bt242.2.1)) else (pantilelaw03_BoxTells.j0 k l2 t236 t240 t241 bt242.2.2 bt250.1 bt250.2 true l0_0 l0_1 l1_0 l1_1 bt242.1 bt242.2.1)))) else (pantilelaw03_BoxTells.j0 k l2 t236 t240 t241 bt242.2.2 bt250.1 bt250.2 true l0_0 l0_1 l1_0 l1_1 bt242.1 bt242.2.1)) else (if t236 = true then (some false) else (if t237 = 2 then (if t238 = 0 then (if t239 = 2 then (if t240 = true then (some false) else (if t241 = 2 then (if (bt242.1.length : Int) = 0 then (if bt242.2.2 = 2 then (if bt250.1 = 0 then (some (bt250.2 == 2)) else (some false)) else (some false)) else (some false)) else (some false))) else (some false)) else (some false)) else (some false))))))))) = some r := H
      have A17 := Aside0.mk A170
      clear A170
      replace H := Option.bind_eq_some_iff.mp H
      obtain ⟨⟨t242, t245, t248⟩, A180, H⟩ := H
      replace H : ((box_FarBox.f k l0_0 l0_1 l2).bind fun bt250 => ((pantileref03_Right.f l0_0 l0_1).bind fun t252 => ((box_Right.f l0_0 l0_1).bind fun t253 => (if (t253 != t252) = true then (some false) else (if t252 = true then (if t237 = 0 then ((pantileref03_Empty.f k l0_0 l0_1).bind fun t254 => (if (t236 != t254) = true then (pantilelaw03_BoxTells.j0 k l2 t236 t240 t241 t248 bt250.1 bt250.2 true l0_0 l0_1 l1_0 l1_1 t242 t245) else (if t239 = 0 then ((pantileref03_Volume.f k l0_0 l0_1).bind fun t255 => (pantilelaw03_BoxTells.j0 k l2 t236 t240 t241 t248 bt250.1 bt250.2 (t238 != t255) l0_0 l0_1 l1_0 l1_1 t242 t245)) else (pantilelaw03_BoxTells.j0 k l2 t236 t240 t241 t248 bt250.1 bt250.2 true l0_0 l0_1 l1_0 l1_1 t242 t245)))) else (pantilelaw03_BoxTells.j0 k l2 t236 t240 t241 t248 bt250.1 bt250.2 true l0_0 l0_1 l1_0 l1_1 t242 t245)) else (if t236 = true then (some false) else (if t237 = 2 then (if t238 = 0 then (if t239 = 2 then (if t240 = true then (some false) else (if t241 = 2 then (if (t242.length : Int) = 0 then (if t248 = 2 then (if bt250.1 = 0 then (some (bt250.2 == 2)) else (some false)) else (some false)) else (some false)) else (some false))) else (some false)) else (some false)) else (some false)))))))) = some r := H
      have A18 := Aside0.mk A180
      clear A180
      replace H := Option.bind_eq_some_iff.mp H
      obtain ⟨⟨t250, t251⟩, A190, H⟩ := H
      replace H : ((pantileref03_Right.f l0_0 l0_1).bind fun t252 => ((box_Right.f l0_0 l0_1).bind fun t253 => (if (t253 != t252) = true then (some false) else (if t252 = true then (if t237 = 0 then ((pantileref03_Empty.f k l0_0 l0_1).bind fun t254 => (if (t236 != t254) = true then (pantilelaw03_BoxTells.j0 k l2 t236 t240 t241 t248 t250 t251 true l0_0 l0_1 l1_0 l1_1 t242 t245) else (if t239 = 0 then ((pantileref03_Volume.f k l0_0 l0_1).bind fun t255 => (pantilelaw03_BoxTells.j0 k l2 t236 t240 t241 t248 t250 t251 (t238 != t255) l0_0 l0_1 l1_0 l1_1 t242 t245)) else (pantilelaw03_BoxTells.j0 k l2 t236 t240 t241 t248 t250 t251 true l0_0 l0_1 l1_0 l1_1 t242 t245)))) else (pantilelaw03_BoxTells.j0 k l2 t236 t240 t241 t248 t250 t251 true l0_0 l0_1 l1_0 l1_1 t242 t245)) else (if t236 = true then (some false) else (if t237 = 2 then (if t238 = 0 then (if t239 = 2 then (if t240 = true then (some false) else (if t241 = 2 then (if (t242.length : Int) = 0 then (if t248 = 2 then (if t250 = 0 then (some (t251 == 2)) else (some false)) else (some false)) else (some false)) else (some false))) else (some false)) else (some false)) else (some false))))))) = some r := H
      have A19 := Aside0.mk A190
      clear A190
      replace H := Option.bind_eq_some_iff.mp H
      obtain ⟨t252, A200, H⟩ := H
      replace H : ((box_Right.f l0_0 l0_1).bind fun t253 => (if (t253 != t252) = true then (some false) else (if t252 = true then (if t237 = 0 then ((pantileref03_Empty.f k l0_0 l0_1).bind fun t254 => (if (t236 != t254) = true then (pantilelaw03_BoxTells.j0 k l2 t236 t240 t241 t248 t250 t251 true l0_0 l0_1 l1_0 l1_1 t242 t245) else (if t239 = 0 then ((pantileref03_Volume.f k l0_0 l0_1).bind fun t255 => (pantilelaw03_BoxTells.j0 k l2 t236 t240 t241 t248 t250 t251 (t238 != t255) l0_0 l0_1 l1_0 l1_1 t242 t245)) else (pantilelaw03_BoxTells.j0 k l2 t236 t240 t241 t248 t250 t251 true l0_0 l0_1 l1_0 l1_1 t242 t245)))) else (pantilelaw03_BoxTells.j0 k l2 t236 t240 t241 t248 t250 t251 true l0_0 l0_1 l1_0 l1_1 t242 t245)) else (if t236 = true then (some false) else (if t237 = 2 then (if t238 = 0 then (if t239 = 2 then (if t240 = true then (some false) else (if t241 = 2 then (if (t242.length : Int) = 0 then (if t248 = 2 then (if t250 = 0 then (some (t251 == 2)) else (some false)) else (some false)) else (some false)) else (some false))) else (some false)) else (some false)) else (some false)))))) = some r := H
      have A20 := Aside0.mk A200
      clear A200
      replace H := Option.bind_eq_some_iff.mp H
      obtain ⟨t253, A210, H⟩ := H
      replace H : (if (t253 != t252) = true then (some false) else (if t252 = true then (if t237 = 0 then ((pantileref03_Empty.f k l0_0 l0_1).bind fun t254 => (if (t236 != t254) = true then (pantilelaw03_BoxTells.j0 k l2 t236 t240 t241 t248 t250 t251 true l0_0 l0_1 l1_0 l1_1 t242 t245) else (if t239 = 0 then ((pantileref03_Volume.f k l0_0 l0_1).bind fun t255 => (pantilelaw03_BoxTells.j0 k l2 t236 t240 t241 t248 t250 t251 (t238 != t255) l0_0 l0_1 l1_0 l1_1 t242 t245)) else (pantilelaw03_BoxTells.j0 k l2 t236 t240 t241 t248 t250 t251 true l0_0 l0_1 l1_0 l1_1 t242 t245)))) else (pantilelaw03_BoxTells.j0 k l2 t236 t240 t241 t248 t250 t251 true l0_0 l0_1 l1_0 l1_1 t242 t245)) else (if t236 = true then (some false) else (if t237 = 2 then (if t238 = 0 then (if t239 = 2 then (if t240 = true then (some false) else (if t241 = 2 then (if (t242.length : Int) = 0 then (if t248 = 2 then (if t250 = 0 then (some (t251 == 2)) else (some false)) else (some false)) else (some false)) else (some false))) else (some false)) else (some false)) else (some false))))) = some r := H
      have A21 := Aside0.mk A210
      clear A210
      by_cases c22 : (t253 != t252) = true
      · rw [if_pos c22] at H
        have c22b0 : (t253 != t252) = true := c22
        (try (have c22b1 : decide (t253 = t252) = false := by simpa using c22))
        (try (have c22b2 : (t253 == t252) = false := by simpa using c22))
        (try (have c22b3 : ¬ (t253 = t252) := by simpa using c22))
        clear c22
        exact Bool.noConfusion ((Option.some.inj H).trans HRT.out)
      · rw [if_neg c22] at H
        have c22b0 : (t253 != t252) = false := by simpa using c22
        (try (have c22b1 : decide (t253 = t252) = true := by simpa using c22))
        (try (have c22b2 : (t253 == t252) = true := by simpa using c22))
        clear c22
        by_cases c23 : t252 = true
        · subst c23
          have H1 : (if t237 = 0 then ((pantileref03_Empty.f k l0_0 l0_1).bind fun t254 => (if (t236 != t254) = true then (pantilelaw03_BoxTells.j0 k l2 t236 t240 t241 t248 t250 t251 true l0_0 l0_1 l1_0 l1_1 t242 t245) else (if t239 = 0 then ((pantileref03_Volume.f k l0_0 l0_1).bind fun t255 => (pantilelaw03_BoxTells.j0 k l2 t236 t240 t241 t248 t250 t251 (t238 != t255) l0_0 l0_1 l1_0 l1_1 t242 t245)) else (pantilelaw03_BoxTells.j0 k l2 t236 t240 t241 t248 t250 t251 true l0_0 l0_1 l1_0 l1_1 t242 t245)))) else (pantilelaw03_BoxTells.j0 k l2 t236 t240 t241 t248 t250 t251 true l0_0 l0_1 l1_0 l1_1 t242 t245)) = some r := by rw [if_pos rfl] at H; exact H
          clear H
          have H := H1
          clear H1
          have HC24 := Aside0.mk H
          clear H
          go_enter Try.func13, Try.ntmps13
          go_upto_region 15 with (first | ((with_reducible refine gate_dst (N := 3) rfl ?_); (try (refine gate_guard (by rfl) ?_; dsimp only)); refine box_event ?hg (N := 3) ?hd (cs := #[.slice A0_0 l0_0.length c0_0, .slice A0_1 l0_1.length c0_1]) (t := 32) ?hr ?_; (case hd => rfl); (case hg => rfl); (case hr => first | (go_simp; done) | (go_simp; rfl)); intro gb232 hg w25 hbox hb; have n0_ := Aside0.mk (below_step (by repeat (first | (with_reducible first | exact HB.out | apply below_alloc | apply pw_below_drewN | apply below_drew1) | exact HB.out)) hb); have n1_ := Aside0.mk (hbox); have n2_ := Aside0.mk ((by rw [hg]; exact (below_size (by repeat (first | (with_reducible first | exact HB.out | apply below_alloc | apply pw_below_drewN | apply below_drew1) | exact HB.out))) : w.heap.size ≤ gb232)); have n3_ := Aside0.mk ((by rw [hg]; exact (below_size (by repeat (first | (with_reducible first | exact HB.out | apply below_alloc | apply pw_below_drewN | apply below_drew1) | exact HB.out))) : w.heap.size ≤ gb232)); clear HB; have HB := n0_; have BK232 := n1_; have GW232 := n2_; have GE232 := n3_; clear n0_ n1_ n2_ n3_; clear hb hbox hg) | ((with_reducible refine gate_dst (N := 4) rfl ?_); (try (refine gate_guard (by rfl) ?_; dsimp only)); refine box_event ?hg (N := 4) ?hd (cs := #[.slice A1_0 l1_0.length c1_0, .slice A1_1 l1_1.length c1_1]) (t := 32) ?hr ?_; (case hd => rfl); (case hg => rfl); (case hr => first | (go_simp; done) | (go_simp; rfl)); intro gb233 hg w26 hbox hb; have n0_ := Aside0.mk (blk_below (g := gb232) (o := .cells #[.slice A0_0 l0_0.length c0_0, .slice A0_1 l0_1.length c0_1] 32 (0, 0)) (by (with_reducible repeat (first | refine blk_drewN ?_ _ | refine blk_drew ?_ | refine blk_alloc ?_ _)); exact BK232.out) hb); have n1_ := Aside0.mk (below_step (by repeat (first | (with_reducible first | exact HB.out | apply below_alloc | apply pw_below_drewN | apply below_drew1 | refine below_set ?_ GE232.out) | exact HB.out)) hb); have n2_ := Aside0.mk (hbox); have n3_ := Aside0.mk ((by rw [hg]; exact (below_size (by repeat (first | (with_reducible first | exact HB.out | apply below_alloc | apply pw_below_drewN | apply below_drew1 | refine below_set ?_ GE232.out) | exact HB.out))) : w.heap.size ≤ gb233)); have n4_ := Aside0.mk ((by rw [hg]; exact (below_size (by repeat (first | (with_reducible first | exact HB.out | apply below_alloc | apply pw_below_drewN | apply below_drew1 | refine below_set ?_ GE232.out) | exact HB.out))) : w.heap.size ≤ gb233)); have n5_ := Aside0.mk ((by rw [hg]; exact Nat.ne_of_lt (blk_lt (g := gb232) (o := .cells #[.slice A0_0 l0_0.length c0_0, .slice A0_1 l0_1.length c0_1] 32 (0, 0)) (by (with_reducible repeat (first | refine blk_drewN ?_ _ | refine blk_drew ?_ | refine blk_alloc ?_ _)); exact BK232.out)) : gb232 ≠ gb233)); have n6_ := Aside0.mk ((by rw [hg]; exact Nat.ne_of_gt (blk_lt (g := gb232) (o := .cells #[.slice A0_0 l0_0.length c0_0, .slice A0_1 l0_1.length c0_1] 32 (0, 0)) (by (with_reducible repeat (first | refine blk_drewN ?_ _ | refine blk_drew ?_ | refine blk_alloc ?_ _)); exact BK232.out)) : gb233 ≠ gb232)); clear BK232; clear HB; have BK232 := n0_; have HB := n1_; have BK233 := n2_; have GW233 := n3_; have GE233 := n4_; have NB232_233 := n5_; have NB233_232 := n6_; clear n0_ n1_ n2_ n3_ n4_ n5_ n6_; clear hb hbox hg) | ((with_reducible refine gate_callee (f := 24) rfl ?_); refine goesL_ (some 18) rfl rfl Try.func24 (by kernel_rfl) rfl #[] rfl (by (try simp only [List.map_toArray, List.map_cons, List.map_nil]); first | done | rfl | (simp only [List.length_drop, List.length_take]; rfl)) ?_; (with_reducible refine (pantilelaw03_awake.calls k  true _ A4.out).mono ?_); rintro e w27 ⟨rfl, hb⟩; refine ⟨_, rfl, ?_⟩; have n0_ := Aside0.mk (blk_below (g := gb232) (o := .cells #[.slice A0_0 l0_0.length c0_0, .slice A0_1 l0_1.length c0_1] 32 (0, 0)) (by (with_reducible repeat (first | refine blk_drewN ?_ _ | refine blk_drew ?_ | refine blk_alloc ?_ _)); exact BK232.out) hb); have n1_ := Aside0.mk (blk_below (g := gb233) (o := .cells #[.slice A1_0 l1_0.length c1_0, .slice A1_1 l1_1.length c1_1] 32 (0, 0)) (by (with_reducible repeat (first | refine blk_drewN ?_ _ | refine blk_drew ?_ | refine blk_alloc ?_ _)); exact BK233.out) hb); have n2_ := Aside0.mk (below_step (by repeat (first | (with_reducible first | exact HB.out | apply below_alloc | apply pw_below_drewN | apply below_drew1 | refine below_set ?_ GE232.out | refine below_set ?_ GE233.out) | exact HB.out)) hb); clear BK232; clear BK233; clear HB; have BK232 := n0_; have BK233 := n1_; have HB := n2_; clear n0_ n1_ n2_; (try clear hb); (try clear hb2); (try clear hk); (try clear hi); have hnb28 := NB232_233.out; have hnc28 := NB233_232.out; have hcz29_0 : w27.cell? ⟨gb232, 0, none⟩ = some (.slice A0_0 l0_0.length c0_0) := (blk_cell BK232.out 0).trans rfl; have hcz29_1 : w27.cell? ⟨gb232, 1, none⟩ = some (.slice A0_1 l0_1.length c0_1) := (blk_cell BK232.out 1).trans rfl; have hfz29_0 := blk_frozen BK232.out 0; have hfz29_1 := blk_frozen BK232.out 1; have hcz30_0 : w27.cell? ⟨gb233, 0, none⟩ = some (.slice A1_0 l1_0.length c1_0) := (blk_cell BK233.out 0).trans rfl; have hcz30_1 : w27.cell? ⟨gb233, 1, none⟩ = some (.slice A1_1 l1_1.length c1_1) := (blk_cell BK233.out 1).trans rfl; have hfz30_0 := blk_frozen BK233.out 0; have hfz30_1 := blk_frozen BK233.out 1) | ((with_reducible refine gate_callee (f := 53) rfl ?_); refine goesL_ (some 23) rfl rfl Try.func53 (by kernel_rfl) rfl #[.agg #[.slice A0_0 l0_0.length c0_0, .slice A0_1 l0_1.length c0_1], .agg #[.slice A1_0 l1_0.length c1_0, .slice A1_1 l1_1.length c1_1], .slice A2 l2.length c2] rfl (by (try simp only [List.map_toArray, List.map_cons, List.map_nil]); first | done | rfl | (simp only [List.length_drop, List.length_take]; rfl)) ?_; (with_reducible refine (pantilelaw03_big.calls _ _ l0_0 _ _ l0_1 _ _ l1_0 _ _ l1_1 _ _ l2 false _ ?side1 ?side2 ?side3 ?side4 ?side5 ?side6 ?side7 ?side8 ?side9 ?side10 A6.out).mono ?_); (case side1 => repeat (first | exact (Kd.C_below HR0_0.out HB.out) | (with_reducible refine Kd.C_alloc ?_ _) | (with_reducible refine Kd.C_drewN ?_ _) | (with_reducible refine Kd.C_drew ?_))); (case side2 => exact HC0_0.out); (case side3 => repeat (first | exact (Kd.C_below HR0_1.out HB.out) | (with_reducible refine Kd.C_alloc ?_ _) | (with_reducible refine Kd.C_drewN ?_ _) | (with_reducible refine Kd.C_drew ?_))); (case side4 => exact HC0_1.out); (case side5 => repeat (first | exact (Kd.C_below HR1_0.out HB.out) | (with_reducible refine Kd.C_alloc ?_ _) | (with_reducible refine Kd.C_drewN ?_ _) | (with_reducible refine Kd.C_drew ?_))); (case side6 => exact HC1_0.out); (case side7 => repeat (first | exact (Kd.C_below HR1_1.out HB.out) | (with_reducible refine Kd.C_alloc ?_ _) | (with_reducible refine Kd.C_drewN ?_ _) | (with_reducible refine Kd.C_drew ?_))); (case side8 => exact HC1_1.out); (case side9 => repeat (first | exact (Kd.C_below HR2.out HB.out) | (with_reducible refine Kd.C_alloc ?_ _) | (with_reducible refine Kd.C_drewN ?_ _) | (with_reducible refine Kd.C_drew ?_))); (case side10 => exact HC2.out); rintro e w31 ⟨rfl, hb⟩; refine ⟨_, rfl, ?_⟩; have n0_ := Aside0.mk (blk_below (g := gb232) (o := .cells #[.slice A0_0 l0_0.length c0_0, .slice A0_1 l0_1.length c0_1] 32 (0, 0)) (by (with_reducible repeat (first | refine blk_drewN ?_ _ | refine blk_drew ?_ | refine blk_alloc ?_ _)); exact BK232.out) hb); have n1_ := Aside0.mk (blk_below (g := gb233) (o := .cells #[.slice A1_0 l1_0.length c1_0, .slice A1_1 l1_1.length c1_1] 32 (0, 0)) (by (with_reducible repeat (first | refine blk_drewN ?_ _ | refine blk_drew ?_ | refine blk_alloc ?_ _)); exact BK233.out) hb); have n2_ := Aside0.mk (below_step (by repeat (first | (with_reducible first | exact HB.out | apply below_alloc | apply pw_below_drewN | apply below_drew1 | refine below_set ?_ GE232.out | refine below_set ?_ GE233.out) | exact HB.out)) hb); clear BK232; clear BK233; clear HB; have BK232 := n0_; have BK233 := n1_; have HB := n2_; clear n0_ n1_ n2_; (try clear hb); (try clear hb2); (try clear hk); (try clear hi); have hcz32_0 : w31.cell? ⟨gb232, 0, none⟩ = some (.slice A0_0 l0_0.length c0_0) := (blk_cell BK232.out 0).trans rfl; have hcz32_1 : w31.cell? ⟨gb232, 1, none⟩ = some (.slice A0_1 l0_1.length c0_1) := (blk_cell BK232.out 1).trans rfl; have hfz32_0 := blk_frozen BK232.out 0; have hfz32_1 := blk_frozen BK232.out 1) | ((with_reducible refine gate_callee (f := 62) rfl ?_); refine goesL_ (some 26) rfl rfl Try.func62 (by kernel_rfl) rfl #[.agg #[.slice A0_0 l0_0.length c0_0, .slice A0_1 l0_1.length c0_1]] rfl (by (try simp only [List.map_toArray, List.map_cons, List.map_nil]); first | done | rfl | (simp only [List.length_drop, List.length_take]; rfl)) ?_; (with_reducible refine (box_Empty.calls k _ _ l0_0 _ _ l0_1 t236 t237 _ ?side1 ?side2 ?side3 ?side4 A15.out).mono ?_); (case side1 => repeat (first | exact (Kd.C_below HR0_0.out HB.out) | (with_reducible refine Kd.C_alloc ?_ _) | (with_reducible refine Kd.C_drewN ?_ _) | (with_reducible refine Kd.C_drew ?_))); (case side2 => exact HC0_0.out); (case side3 => repeat (first | exact (Kd.C_below HR0_1.out HB.out) | (with_reducible refine Kd.C_alloc ?_ _) | (with_reducible refine Kd.C_drewN ?_ _) | (with_reducible refine Kd.C_drew ?_))); (case side4 => exact HC0_1.out); rintro e w33 ⟨rfl, hb⟩; refine ⟨_, rfl, ?_⟩; have n0_ := Aside0.mk (blk_below (g := gb232) (o := .cells #[.slice A0_0 l0_0.length c0_0, .slice A0_1 l0_1.length c0_1] 32 (0, 0)) (by (with_reducible repeat (first | refine blk_drewN ?_ _ | refine blk_drew ?_ | refine blk_alloc ?_ _)); exact BK232.out) hb); have n1_ := Aside0.mk (blk_below (g := gb233) (o := .cells #[.slice A1_0 l1_0.length c1_0, .slice A1_1 l1_1.length c1_1] 32 (0, 0)) (by (with_reducible repeat (first | refine blk_drewN ?_ _ | refine blk_drew ?_ | refine blk_alloc ?_ _)); exact BK233.out) hb); have n2_ := Aside0.mk (below_step (by repeat (first | (with_reducible first | exact HB.out | apply below_alloc | apply pw_below_drewN | apply below_drew1 | refine below_set ?_ GE232.out | refine below_set ?_ GE233.out) | exact HB.out)) hb); clear BK232; clear BK233; clear HB; have BK232 := n0_; have BK233 := n1_; have HB := n2_; clear n0_ n1_ n2_; (try clear hb); (try clear hb2); (try clear hk); (try clear hi); have hcz34_0 : w33.cell? ⟨gb232, 0, none⟩ = some (.slice A0_0 l0_0.length c0_0) := (blk_cell BK232.out 0).trans rfl; have hcz34_1 : w33.cell? ⟨gb232, 1, none⟩ = some (.slice A0_1 l0_1.length c0_1) := (blk_cell BK232.out 1).trans rfl; have hfz34_0 := blk_frozen BK232.out 0; have hfz34_1 := blk_frozen BK232.out 1) | ((with_reducible refine gate_callee (f := 52) rfl ?_); refine goesL_ (some 31) rfl rfl Try.func52 (by kernel_rfl) rfl #[.agg #[.slice A0_0 l0_0.length c0_0, .slice A0_1 l0_1.length c0_1]] rfl (by (try simp only [List.map_toArray, List.map_cons, List.map_nil]); first | done | rfl | (simp only [List.length_drop, List.length_take]; rfl)) ?_; (with_reducible refine (box_Volume.calls k _ _ l0_0 _ _ l0_1 t238 t239 _ ?side1 ?side2 ?side3 ?side4 A16.out).mono ?_); (case side1 => repeat (first | exact (Kd.C_below HR0_0.out HB.out) | (with_reducible refine Kd.C_alloc ?_ _) | (with_reducible refine Kd.C_drewN ?_ _) | (with_reducible refine Kd.C_drew ?_))); (case side2 => exact HC0_0.out); (case side3 => repeat (first | exact (Kd.C_below HR0_1.out HB.out) | (with_reducible refine Kd.C_alloc ?_ _) | (with_reducible refine Kd.C_drewN ?_ _) | (with_reducible refine Kd.C_drew ?_))); (case side4 => exact HC0_1.out); rintro e w35 ⟨rfl, hb⟩; refine ⟨_, rfl, ?_⟩; have n0_ := Aside0.mk (blk_below (g := gb232) (o := .cells #[.slice A0_0 l0_0.length c0_0, .slice A0_1 l0_1.length c0_1] 32 (0, 0)) (by (with_reducible repeat (first | refine blk_drewN ?_ _ | refine blk_drew ?_ | refine blk_alloc ?_ _)); exact BK232.out) hb); have n1_ := Aside0.mk (blk_below (g := gb233) (o := .cells #[.slice A1_0 l1_0.length c1_0, .slice A1_1 l1_1.length c1_1] 32 (0, 0)) (by (with_reducible repeat (first | refine blk_drewN ?_ _ | refine blk_drew ?_ | refine blk_alloc ?_ _)); exact BK233.out) hb); have n2_ := Aside0.mk (below_step (by repeat (first | (with_reducible first | exact HB.out | apply below_alloc | apply pw_below_drewN | apply below_drew1 | refine below_set ?_ GE232.out | refine below_set ?_ GE233.out) | exact HB.out)) hb); clear BK232; clear BK233; clear HB; have BK232 := n0_; have BK233 := n1_; have HB := n2_; clear n0_ n1_ n2_; (try clear hb); (try clear hb2); (try clear hk); (try clear hi); have hcz36_0 : w35.cell? ⟨gb232, 0, none⟩ = some (.slice A0_0 l0_0.length c0_0) := (blk_cell BK232.out 0).trans rfl; have hcz36_1 : w35.cell? ⟨gb232, 1, none⟩ = some (.slice A0_1 l0_1.length c0_1) := (blk_cell BK232.out 1).trans rfl; have hfz36_0 := blk_frozen BK232.out 0; have hfz36_1 := blk_frozen BK232.out 1) | ((with_reducible refine gate_callee (f := 32) rfl ?_); refine goesL_ (some 37) rfl rfl Try.func32 (by kernel_rfl) rfl #[.agg #[.slice A0_0 l0_0.length c0_0, .slice A0_1 l0_1.length c0_1], .slice A2 l2.length c2] rfl (by (try simp only [List.map_toArray, List.map_cons, List.map_nil]); first | done | rfl | (simp only [List.length_drop, List.length_take]; rfl)) ?_; (with_reducible refine (box_In.calls k _ _ l0_0 _ _ l0_1 _ _ l2 t240 t241 _ ?side1 ?side2 ?side3 ?side4 ?side5 ?side6 A17.out).mono ?_); (case side1 => repeat (first | exact (Kd.C_below HR0_0.out HB.out) | (with_reducible refine Kd.C_alloc ?_ _) | (with_reducible refine Kd.C_drewN ?_ _) | (with_reducible refine Kd.C_drew ?_))); (case side2 => exact HC0_0.out); (case side3 => repeat (first | exact (Kd.C_below HR0_1.out HB.out) | (with_reducible refine Kd.C_alloc ?_ _) | (with_reducible refine Kd.C_drewN ?_ _) | (with_reducible refine Kd.C_drew ?_))); (case side4 => exact HC0_1.out); (case side5 => repeat (first | exact (Kd.C_below HR2.out HB.out) | (with_reducible refine Kd.C_alloc ?_ _) | (with_reducible refine Kd.C_drewN ?_ _) | (with_reducible refine Kd.C_drew ?_))); (case side6 => exact HC2.out); rintro e w37 ⟨rfl, hb⟩; refine ⟨_, rfl, ?_⟩; have n0_ := Aside0.mk (blk_below (g := gb232) (o := .cells #[.slice A0_0 l0_0.length c0_0, .slice A0_1 l0_1.length c0_1] 32 (0, 0)) (by (with_reducible repeat (first | refine blk_drewN ?_ _ | refine blk_drew ?_ | refine blk_alloc ?_ _)); exact BK232.out) hb); have n1_ := Aside0.mk (blk_below (g := gb233) (o := .cells #[.slice A1_0 l1_0.length c1_0, .slice A1_1 l1_1.length c1_1] 32 (0, 0)) (by (with_reducible repeat (first | refine blk_drewN ?_ _ | refine blk_drew ?_ | refine blk_alloc ?_ _)); exact BK233.out) hb); have n2_ := Aside0.mk (below_step (by repeat (first | (with_reducible first | exact HB.out | apply below_alloc | apply pw_below_drewN | apply below_drew1 | refine below_set ?_ GE232.out | refine below_set ?_ GE233.out) | exact HB.out)) hb); clear BK232; clear BK233; clear HB; have BK232 := n0_; have BK233 := n1_; have HB := n2_; clear n0_ n1_ n2_; (try clear hb); (try clear hb2); (try clear hk); (try clear hi); have hcz38_0 : w37.cell? ⟨gb232, 0, none⟩ = some (.slice A0_0 l0_0.length c0_0) := (blk_cell BK232.out 0).trans rfl; have hcz38_1 : w37.cell? ⟨gb232, 1, none⟩ = some (.slice A0_1 l0_1.length c0_1) := (blk_cell BK232.out 1).trans rfl; have hfz38_0 := blk_frozen BK232.out 0; have hfz38_1 := blk_frozen BK232.out 1; have hcz39_0 : w37.cell? ⟨gb233, 0, none⟩ = some (.slice A1_0 l1_0.length c1_0) := (blk_cell BK233.out 0).trans rfl; have hcz39_1 : w37.cell? ⟨gb233, 1, none⟩ = some (.slice A1_1 l1_1.length c1_1) := (blk_cell BK233.out 1).trans rfl; have hfz39_0 := blk_frozen BK233.out 0; have hfz39_1 := blk_frozen BK233.out 1) | ((with_reducible refine gate_callee (f := 51) rfl ?_); refine goesL_ (some 43) rfl rfl Try.func51 (by kernel_rfl) rfl #[.agg #[.slice A0_0 l0_0.length c0_0, .slice A0_1 l0_1.length c0_1], .agg #[.slice A1_0 l1_0.length c1_0, .slice A1_1 l1_1.length c1_1]] rfl (by (try simp only [List.map_toArray, List.map_cons, List.map_nil]); first | done | rfl | (simp only [List.length_drop, List.length_take]; rfl)) ?_; (with_reducible refine (box_Meet.calls _ _ l0_0 _ _ l0_1 _ _ l1_0 _ _ l1_1 t242 t245 t248 _ ?side1 ?side2 ?side3 ?side4 ?side5 ?side6 ?side7 ?side8 A18.out).mono ?_); (case side1 => repeat (first | exact (Kd.C_below HR0_0.out HB.out) | (with_reducible refine Kd.C_alloc ?_ _) | (with_reducible refine Kd.C_drewN ?_ _) | (with_reducible refine Kd.C_drew ?_))); (case side2 => exact HC0_0.out); (case side3 => repeat (first | exact (Kd.C_below HR0_1.out HB.out) | (with_reducible refine Kd.C_alloc ?_ _) | (with_reducible refine Kd.C_drewN ?_ _) | (with_reducible refine Kd.C_drew ?_))); (case side4 => exact HC0_1.out); (case side5 => repeat (first | exact (Kd.C_below HR1_0.out HB.out) | (with_reducible refine Kd.C_alloc ?_ _) | (with_reducible refine Kd.C_drewN ?_ _) | (with_reducible refine Kd.C_drew ?_))); (case side6 => exact HC1_0.out); (case side7 => repeat (first | exact (Kd.C_below HR1_1.out HB.out) | (with_reducible refine Kd.C_alloc ?_ _) | (with_reducible refine Kd.C_drewN ?_ _) | (with_reducible refine Kd.C_drew ?_))); (case side8 => exact HC1_1.out); rintro e w40 ⟨v243, v246, rfl, ho0, ho1, hb⟩; refine ⟨_, rfl, ?_⟩; have n0_ := Aside0.mk (Kd.R_lower ho0 (below_size (by repeat (first | (with_reducible first | exact HB.out | apply below_alloc | apply pw_below_drewN | apply below_drew1 | refine below_set ?_ GE232.out | refine below_set ?_ GE233.out) | exact HB.out)))); have n1_ := Aside0.mk (Kd.R_lower ho1 (below_size (by repeat (first | (with_reducible first | exact HB.out | apply below_alloc | apply pw_below_drewN | apply below_drew1 | refine below_set ?_ GE232.out | refine below_set ?_ GE233.out) | exact HB.out)))); have n2_ := Aside0.mk (blk_below (g := gb232) (o := .cells #[.slice A0_0 l0_0.length c0_0, .slice A0_1 l0_1.length c0_1] 32 (0, 0)) (by (with_reducible repeat (first | refine blk_drewN ?_ _ | refine blk_drew ?_ | refine blk_alloc ?_ _)); exact BK232.out) hb); have n3_ := Aside0.mk (blk_below (g := gb233) (o := .cells #[.slice A1_0 l1_0.length c1_0, .slice A1_1 l1_1.length c1_1] 32 (0, 0)) (by (with_reducible repeat (first | refine blk_drewN ?_ _ | refine blk_drew ?_ | refine blk_alloc ?_ _)); exact BK233.out) hb); have n4_ := Aside0.mk (below_step (by repeat (first | (with_reducible first | exact HB.out | apply below_alloc | apply pw_below_drewN | apply below_drew1 | refine below_set ?_ GE232.out | refine below_set ?_ GE233.out) | exact HB.out)) hb); clear BK232; clear BK233; clear HB; have HO244 := n0_; have HO247 := n1_; have BK232 := n2_; have BK233 := n3_; have HB := n4_; clear n0_ n1_ n2_ n3_ n4_; (try clear hb); (try clear hb2); (try clear hk); (try clear hi); (try clear ho0); (try clear ho1)) | ((with_reducible refine gate_dst (N := 13) rfl ?_); (try (refine gate_guard (by rfl) ?_; dsimp only)); refine box_event ?hg (N := 13) ?hd (cs := #[.slice none 0 0, .slice none 0 0]) (t := 32) ?hr ?_; (case hd => rfl); (case hg => rfl); (case hr => first | (go_simp; done) | (go_simp; rfl)); intro gb249 hg w41 hbox hb; have n0_ := Aside0.mk (Kd.R_below (by (with_reducible repeat (first | apply Kd.R_alloc | apply Kd.R_drewN | apply Kd.R_drew)); exact HO244.out) hb); have n1_ := Aside0.mk (Kd.R_below (by (with_reducible repeat (first | apply Kd.R_alloc | apply Kd.R_drewN | apply Kd.R_drew)); exact HO247.out) hb); have n2_ := Aside0.mk (blk_below (g := gb232) (o := .cells #[.slice A0_0 l0_0.length c0_0, .slice A0_1 l0_1.length c0_1] 32 (0, 0)) (by (with_reducible repeat (first | refine blk_drewN ?_ _ | refine blk_drew ?_ | refine blk_alloc ?_ _)); exact BK232.out) hb); have n3_ := Aside0.mk (blk_below (g := gb233) (o := .cells #[.slice A1_0 l1_0.length c1_0, .slice A1_1 l1_1.length c1_1] 32 (0, 0)) (by (with_reducible repeat (first | refine blk_drewN ?_ _ | refine blk_drew ?_ | refine blk_alloc ?_ _)); exact BK233.out) hb); have n4_ := Aside0.mk (below_step (by repeat (first | (with_reducible first | exact HB.out | apply below_alloc | apply pw_below_drewN | apply below_drew1 | refine below_set ?_ GE232.out | refine below_set ?_ GE233.out) | exact HB.out)) hb); have n5_ := Aside0.mk (hbox); have n6_ := Aside0.mk ((by rw [hg]; exact (below_size (by repeat (first | (with_reducible first | exact HB.out | apply below_alloc | apply pw_below_drewN | apply below_drew1 | refine below_set ?_ GE232.out | refine below_set ?_ GE233.out) | exact HB.out))) : w.heap.size ≤ gb249)); have n7_ := Aside0.mk ((by rw [hg]; exact (below_size (by repeat (first | (with_reducible first | exact HB.out | apply below_alloc | apply pw_below_drewN | apply below_drew1 | refine below_set ?_ GE232.out | refine below_set ?_ GE233.out) | exact HB.out))) : w.heap.size ≤ gb249)); have n8_ := Aside0.mk ((by rw [hg]; exact Nat.ne_of_lt (blk_lt (g := gb232) (o := .cells #[.slice A0_0 l0_0.length c0_0, .slice A0_1 l0_1.length c0_1] 32 (0, 0)) (by (with_reducible repeat (first | refine blk_drewN ?_ _ | refine blk_drew ?_ | refine blk_alloc ?_ _)); exact BK232.out)) : gb232 ≠ gb249)); have n9_ := Aside0.mk ((by rw [hg]; exact Nat.ne_of_gt (blk_lt (g := gb232) (o := .cells #[.slice A0_0 l0_0.length c0_0, .slice A0_1 l0_1.length c0_1] 32 (0, 0)) (by (with_reducible repeat (first | refine blk_drewN ?_ _ | refine blk_drew ?_ | refine blk_alloc ?_ _)); exact BK232.out)) : gb249 ≠ gb232)); have n10_ := Aside0.mk ((by rw [hg]; exact Nat.ne_of_lt (blk_lt (g := gb233) (o := .cells #[.slice A1_0 l1_0.length c1_0, .slice A1_1 l1_1.length c1_1] 32 (0, 0)) (by (with_reducible repeat (first | refine blk_drewN ?_ _ | refine blk_drew ?_ | refine blk_alloc ?_ _)); exact BK233.out)) : gb233 ≠ gb249)); have n11_ := Aside0.mk ((by rw [hg]; exact Nat.ne_of_gt (blk_lt (g := gb233) (o := .cells #[.slice A1_0 l1_0.length c1_0, .slice A1_1 l1_1.length c1_1] 32 (0, 0)) (by (with_reducible repeat (first | refine blk_drewN ?_ _ | refine blk_drew ?_ | refine blk_alloc ?_ _)); exact BK233.out)) : gb249 ≠ gb233)); clear HO244; clear HO247; clear BK232; clear BK233; clear HB; have HO244 := n0_; have HO247 := n1_; have BK232 := n2_; have BK233 := n3_; have HB := n4_; have BK249 := n5_; have GW249 := n6_; have GE249 := n7_; have NB232_249 := n8_; have NB249_232 := n9_; have NB233_249 := n10_; have NB249_233 := n11_; clear n0_ n1_ n2_ n3_ n4_ n5_ n6_ n7_ n8_ n9_ n10_ n11_; clear hb hbox hg; obtain ⟨Ao42, co42, eo42⟩ := Kd.R_slice HO244.out; subst eo42; have hnb43 := NB249_232.out; have hnc43 := NB232_249.out; have hnb44 := NB249_233.out; have hnc44 := NB233_249.out; have hcz45_0 : w41.cell? ⟨gb249, 0, none⟩ = some (.slice none 0 0) := (blk_cell BK249.out 0).trans rfl; have hcz45_1 : w41.cell? ⟨gb249, 1, none⟩ = some (.slice none 0 0) := (blk_cell BK249.out 1).trans rfl; have hfz45_0 := blk_frozen BK249.out 0; have hfz45_1 := blk_frozen BK249.out 1; obtain ⟨Ao46, co46, eo46⟩ := Kd.R_slice HO247.out; subst eo46; have hcz47_0 : w41.cell? ⟨gb232, 0, none⟩ = some (.slice A0_0 l0_0.length c0_0) := (blk_cell BK232.out 0).trans rfl; have hcz47_1 : w41.cell? ⟨gb232, 1, none⟩ = some (.slice A0_1 l0_1.length c0_1) := (blk_cell BK232.out 1).trans rfl; have hfz47_0 := blk_frozen BK232.out 0; have hfz47_1 := blk_frozen BK232.out 1) | ((with_reducible refine gate_callee (f := 63) rfl ?_); refine goesL_ (some 49) rfl rfl Try.func63 (by kernel_rfl) rfl #[.agg #[.slice A0_0 l0_0.length c0_0, .slice A0_1 l0_1.length c0_1], .slice A2 l2.length c2] rfl (by (try simp only [List.map_toArray, List.map_cons, List.map_nil]); first | done | rfl | (simp only [List.length_drop, List.length_take]; rfl)) ?_; (with_reducible refine (box_FarBox.calls k _ _ l0_0 _ _ l0_1 _ _ l2 t250 t251 _ ?side1 ?side2 ?side3 ?side4 ?side5 ?side6 A19.out).mono ?_); (case side1 => exact Kd.C_below HR0_0.out (by repeat (first | (with_reducible first | exact HB.out | apply below_alloc | apply pw_below_drewN | apply below_drew1 | refine below_set ?_ GE232.out | refine below_set ?_ GE233.out | refine below_set ?_ GE249.out) | exact HB.out))); (case side2 => exact HC0_0.out); (case side3 => exact Kd.C_below HR0_1.out (by repeat (first | (with_reducible first | exact HB.out | apply below_alloc | apply pw_below_drewN | apply below_drew1 | refine below_set ?_ GE232.out | refine below_set ?_ GE233.out | refine below_set ?_ GE249.out) | exact HB.out))); (case side4 => exact HC0_1.out); (case side5 => exact Kd.C_below HR2.out (by repeat (first | (with_reducible first | exact HB.out | apply below_alloc | apply pw_below_drewN | apply below_drew1 | refine below_set ?_ GE232.out | refine below_set ?_ GE233.out | refine below_set ?_ GE249.out) | exact HB.out))); (case side6 => exact HC2.out); rintro e w48 ⟨rfl, hb⟩; refine ⟨_, rfl, ?_⟩; have n0_ := Aside0.mk (Kd.R_below (by (with_reducible repeat (first | apply Kd.R_alloc | apply Kd.R_drewN | apply Kd.R_drew)); exact (Kd.R_mono (Kd.R_far (p := ⟨gb249, 1, none⟩) (Kd.R_far (p := ⟨gb249, 0, none⟩) (Kd.R_types HO244.out BK249.out (by decide)) (fun _ hk => hk.2) (.slice Ao42 t242.length co42)) (fun _ hk => hk.2) (.slice Ao46 t245.length co46)) (fun _ h_ => h_.1))) hb); have n1_ := Aside0.mk (Kd.R_below (by (with_reducible repeat (first | apply Kd.R_alloc | apply Kd.R_drewN | apply Kd.R_drew)); exact (Kd.R_mono (Kd.R_far (p := ⟨gb249, 1, none⟩) (Kd.R_far (p := ⟨gb249, 0, none⟩) (Kd.R_types HO247.out BK249.out (by decide)) (fun _ hk => hk.2) (.slice Ao42 t242.length co42)) (fun _ hk => hk.2) (.slice Ao46 t245.length co46)) (fun _ h_ => h_.1))) hb); have n2_ := Aside0.mk (blk_below (g := gb232) (o := .cells #[.slice A0_0 l0_0.length c0_0, .slice A0_1 l0_1.length c0_1] 32 (0, 0)) (by (with_reducible repeat (first | refine blk_drewN ?_ _ | refine blk_drew ?_ | refine blk_alloc ?_ _)); refine blk_far ?_ NB232_249.out _; (with_reducible repeat (first | refine blk_drewN ?_ _ | refine blk_drew ?_ | refine blk_alloc ?_ _)); refine blk_far ?_ NB232_249.out _; (with_reducible repeat (first | refine blk_drewN ?_ _ | refine blk_drew ?_ | refine blk_alloc ?_ _)); exact BK232.out) hb); have n3_ := Aside0.mk (blk_below (g := gb233) (o := .cells #[.slice A1_0 l1_0.length c1_0, .slice A1_1 l1_1.length c1_1] 32 (0, 0)) (by (with_reducible repeat (first | refine blk_drewN ?_ _ | refine blk_drew ?_ | refine blk_alloc ?_ _)); refine blk_far ?_ NB233_249.out _; (with_reducible repeat (first | refine blk_drewN ?_ _ | refine blk_drew ?_ | refine blk_alloc ?_ _)); refine blk_far ?_ NB233_249.out _; (with_reducible repeat (first | refine blk_drewN ?_ _ | refine blk_drew ?_ | refine blk_alloc ?_ _)); exact BK233.out) hb); have n4_ := Aside0.mk (blk_below (g := gb249) (o := .cells #[.slice Ao42 t242.length co42, .slice Ao46 t245.length co46] 32 (0, 0)) (by (with_reducible repeat (first | refine blk_drewN ?_ _ | refine blk_drew ?_ | refine blk_alloc ?_ _)); refine blk_put (cs := #[.slice Ao42 t242.length co42, .slice none 0 0]) ?_ 1 _ rfl; (with_reducible repeat (first | refine blk_drewN ?_ _ | refine blk_drew ?_ | refine blk_alloc ?_ _)); refine blk_put (cs := #[.slice none 0 0, .slice none 0 0]) ?_ 0 _ rfl; (with_reducible repeat (first | refine blk_drewN ?_ _ | refine blk_drew ?_ | refine blk_alloc ?_ _)); exact BK249.out) hb); have n5_ := Aside0.mk (below_step (by repeat (first | (with_reducible first | exact HB.out | apply below_alloc | apply pw_below_drewN | apply below_drew1 | refine below_set ?_ GE232.out | refine below_set ?_ GE233.out | refine below_set ?_ GE249.out) | exact HB.out)) hb); clear HO244; clear HO247; clear BK232; clear BK233; clear BK249; clear HB; have HO244 := n0_; have HO247 := n1_; have BK232 := n2_; have BK233 := n3_; have BK249 := n4_; have HB := n5_; clear n0_ n1_ n2_ n3_ n4_ n5_; (try clear hb); (try clear hb2); (try clear hk); (try clear hi); have hcz49_0 : w48.cell? ⟨gb232, 0, none⟩ = some (.slice A0_0 l0_0.length c0_0) := (blk_cell BK232.out 0).trans rfl; have hcz49_1 : w48.cell? ⟨gb232, 1, none⟩ = some (.slice A0_1 l0_1.length c0_1) := (blk_cell BK232.out 1).trans rfl; have hfz49_0 := blk_frozen BK232.out 0; have hfz49_1 := blk_frozen BK232.out 1) | ((with_reducible refine gate_callee (f := 36) rfl ?_); refine goesL_ (some 53) rfl rfl Try.func36 (by kernel_rfl) rfl #[.agg #[.slice A0_0 l0_0.length c0_0, .slice A0_1 l0_1.length c0_1]] rfl (by (try simp only [List.map_toArray, List.map_cons, List.map_nil]); first | done | rfl | (simp only [List.length_drop, List.length_take]; rfl)) ?_; (with_reducible refine (pantileref03_Right.calls _ _ l0_0 _ _ l0_1 true _ ?side1 ?side2 ?side3 ?side4 A20.out).mono ?_); (case side1 => repeat (first | exact (Kd.C_below HR0_0.out HB.out) | (with_reducible refine Kd.C_alloc ?_ _) | (with_reducible refine Kd.C_drewN ?_ _) | (with_reducible refine Kd.C_drew ?_))); (case side2 => exact HC0_0.out); (case side3 => repeat (first | exact (Kd.C_below HR0_1.out HB.out) | (with_reducible refine Kd.C_alloc ?_ _) | (with_reducible refine Kd.C_drewN ?_ _) | (with_reducible refine Kd.C_drew ?_))); (case side4 => exact HC0_1.out); rintro e w50 ⟨rfl, hb⟩; refine ⟨_, rfl, ?_⟩; have n0_ := Aside0.mk (Kd.R_below (by (with_reducible repeat (first | apply Kd.R_alloc | apply Kd.R_drewN | apply Kd.R_drew)); exact HO244.out) hb); have n1_ := Aside0.mk (Kd.R_below (by (with_reducible repeat (first | apply Kd.R_alloc | apply Kd.R_drewN | apply Kd.R_drew)); exact HO247.out) hb); have n2_ := Aside0.mk (blk_below (g := gb232) (o := .cells #[.slice A0_0 l0_0.length c0_0, .slice A0_1 l0_1.length c0_1] 32 (0, 0)) (by (with_reducible repeat (first | refine blk_drewN ?_ _ | refine blk_drew ?_ | refine blk_alloc ?_ _)); exact BK232.out) hb); have n3_ := Aside0.mk (blk_below (g := gb233) (o := .cells #[.slice A1_0 l1_0.length c1_0, .slice A1_1 l1_1.length c1_1] 32 (0, 0)) (by (with_reducible repeat (first | refine blk_drewN ?_ _ | refine blk_drew ?_ | refine blk_alloc ?_ _)); exact BK233.out) hb); have n4_ := Aside0.mk (blk_below (g := gb249) (o := .cells #[.slice Ao42 t242.length co42, .slice Ao46 t245.length co46] 32 (0, 0)) (by (with_reducible repeat (first | refine blk_drewN ?_ _ | refine blk_drew ?_ | refine blk_alloc ?_ _)); exact BK249.out) hb); have n5_ := Aside0.mk (below_step (by repeat (first | (with_reducible first | exact HB.out | apply below_alloc | apply pw_below_drewN | apply below_drew1 | refine below_set ?_ GE232.out | refine below_set ?_ GE233.out | refine below_set ?_ GE249.out) | exact HB.out)) hb); clear HO244; clear HO247; clear BK232; clear BK233; clear BK249; clear HB; have HO244 := n0_; have HO247 := n1_; have BK232 := n2_; have BK233 := n3_; have BK249 := n4_; have HB := n5_; clear n0_ n1_ n2_ n3_ n4_ n5_; (try clear hb); (try clear hb2); (try clear hk); (try clear hi); have hcz51_0 : w50.cell? ⟨gb232, 0, none⟩ = some (.slice A0_0 l0_0.length c0_0) := (blk_cell BK232.out 0).trans rfl; have hcz51_1 : w50.cell? ⟨gb232, 1, none⟩ = some (.slice A0_1 l0_1.length c0_1) := (blk_cell BK232.out 1).trans rfl; have hfz51_0 := blk_frozen BK232.out 0; have hfz51_1 := blk_frozen BK232.out 1) | ((with_reducible refine gate_callee (f := 64) rfl ?_); refine goesL_ (some 55) rfl rfl Try.func64 (by kernel_rfl) rfl #[.agg #[.slice A0_0 l0_0.length c0_0, .slice A0_1 l0_1.length c0_1]] rfl (by (try simp only [List.map_toArray, List.map_cons, List.map_nil]); first | done | rfl | (simp only [List.length_drop, List.length_take]; rfl)) ?_; (with_reducible refine (box_Right.calls _ _ l0_0 _ _ l0_1 t253 _ ?side1 ?side2 ?side3 ?side4 A21.out).mono ?_); (case side1 => repeat (first | exact (Kd.C_below HR0_0.out HB.out) | (with_reducible refine Kd.C_alloc ?_ _) | (with_reducible refine Kd.C_drewN ?_ _) | (with_reducible refine Kd.C_drew ?_))); (case side2 => exact HC0_0.out); (case side3 => repeat (first | exact (Kd.C_below HR0_1.out HB.out) | (with_reducible refine Kd.C_alloc ?_ _) | (with_reducible refine Kd.C_drewN ?_ _) | (with_reducible refine Kd.C_drew ?_))); (case side4 => exact HC0_1.out); rintro e w52 ⟨rfl, hb⟩; refine ⟨_, rfl, ?_⟩; have n0_ := Aside0.mk (Kd.R_below (by (with_reducible repeat (first | apply Kd.R_alloc | apply Kd.R_drewN | apply Kd.R_drew)); exact HO244.out) hb); have n1_ := Aside0.mk (Kd.R_below (by (with_reducible repeat (first | apply Kd.R_alloc | apply Kd.R_drewN | apply Kd.R_drew)); exact HO247.out) hb); have n2_ := Aside0.mk (blk_below (g := gb232) (o := .cells #[.slice A0_0 l0_0.length c0_0, .slice A0_1 l0_1.length c0_1] 32 (0, 0)) (by (with_reducible repeat (first | refine blk_drewN ?_ _ | refine blk_drew ?_ | refine blk_alloc ?_ _)); exact BK232.out) hb); have n3_ := Aside0.mk (blk_below (g := gb233) (o := .cells #[.slice A1_0 l1_0.length c1_0, .slice A1_1 l1_1.length c1_1] 32 (0, 0)) (by (with_reducible repeat (first | refine blk_drewN ?_ _ | refine blk_drew ?_ | refine blk_alloc ?_ _)); exact BK233.out) hb); have n4_ := Aside0.mk (blk_below (g := gb249) (o := .cells #[.slice Ao42 t242.length co42, .slice Ao46 t245.length co46] 32 (0, 0)) (by (with_reducible repeat (first | refine blk_drewN ?_ _ | refine blk_drew ?_ | refine blk_alloc ?_ _)); exact BK249.out) hb); have n5_ := Aside0.mk (below_step (by repeat (first | (with_reducible first | exact HB.out | apply below_alloc | apply pw_below_drewN | apply below_drew1 | refine below_set ?_ GE232.out | refine below_set ?_ GE233.out | refine below_set ?_ GE249.out) | exact HB.out)) hb); clear HO244; clear HO247; clear BK232; clear BK233; clear BK249; clear HB; have HO244 := n0_; have HO247 := n1_; have BK232 := n2_; have BK233 := n3_; have BK249 := n4_; have HB := n5_; clear n0_ n1_ n2_ n3_ n4_ n5_; (try clear hb); (try clear hb2); (try clear hk); (try clear hi)))
          (try simp only [Act.put, List.setIfInBounds_toArray, List.set_cons_zero, List.set_cons_succ])
          go_cut [117] (fun v117 wc => ∃ (kq : Nat) (x117_23 : Bool), v117 = .bool x117_23 ∧ Aside0 (pantilelaw03_BoxTells.j0 kq l2 t236 t240 t241 t248 t250 t251 x117_23 l0_0 l0_1 l1_0 l1_1 t242 t245 = some r) ∧ Aside0 (kq ≤ k) ∧ Aside0 (Kd.R (Kd.int .u64) 30 wc w.heap.size (fun k_ => some k_ ≠ ((.slice Ao46 t245.length co46) : Value).ownBlock) (.slice Ao42 t242.length co42) t242) ∧ Aside0 (Kd.R (Kd.int .u64) 30 wc w.heap.size (fun k_ => some k_ ≠ ((.slice Ao42 t242.length co42) : Value).ownBlock) (.slice Ao46 t245.length co46) t245) ∧ Aside0 (wc.heap[gb232]? = some (.cells #[(.slice A0_0 l0_0.length c0_0), (.slice A0_1 l0_1.length c0_1)] 32 (0, 0))) ∧ Aside0 (wc.heap[gb233]? = some (.cells #[(.slice A1_0 l1_0.length c1_0), (.slice A1_1 l1_1.length c1_1)] 32 (0, 0))) ∧ Aside0 (wc.heap[gb249]? = some (.cells #[(.slice Ao42 t242.length co42), (.slice Ao46 t245.length co46)] 32 (0, 0))) ∧ Aside0 (Below w.heap.size w wc))
          case first =>
            have H := HC24.out
            clear HC24
            by_cases c53 : t237 = 0
            · rw [if_pos c53] at H
              have c53b0 : (t237 == 0) = true := beq_iff_eq.mpr c53
              have c53b1 : (t237 != 0) = false := bne_eq_false_iff_eq.mpr c53
              clear c53
              (first | rw [c53b0] | (simp only [i64_w, i32_w]; rw [c53b0]) | skip)
              replace H := Option.bind_eq_some_iff.mp H
              obtain ⟨t254, A540, H⟩ := H
              replace H : (if (t236 != t254) = true then (pantilelaw03_BoxTells.j0 k l2 t236 t240 t241 t248 t250 t251 true l0_0 l0_1 l1_0 l1_1 t242 t245) else (if t239 = 0 then ((pantileref03_Volume.f k l0_0 l0_1).bind fun t255 => (pantilelaw03_BoxTells.j0 k l2 t236 t240 t241 t248 t250 t251 (t238 != t255) l0_0 l0_1 l1_0 l1_1 t242 t245)) else (pantilelaw03_BoxTells.j0 k l2 t236 t240 t241 t248 t250 t251 true l0_0 l0_1 l1_0 l1_1 t242 t245))) = some r := H
              have A54 := Aside0.mk A540
              clear A540
              by_cases c55 : (t236 != t254) = true
              · rw [if_pos c55] at H
                have c55b0 : (t236 != t254) = true := c55
                (try (have c55b1 : decide (t236 = t254) = false := by simpa using c55))
                (try (have c55b2 : (t236 == t254) = false := by simpa using c55))
                (try (have c55b3 : ¬ (t236 = t254) := by simpa using c55))
                clear c55
                have H' := Aside0.mk H
                clear H
                have hnb56 := NB232_233.out
                have hnc56 := NB233_232.out
                have hnb57 := NB232_249.out
                have hnc57 := NB249_232.out
                have hcz58_0 : w52.cell? ⟨gb232, 0, none⟩ = some (.slice A0_0 l0_0.length c0_0) := (blk_cell BK232.out 0).trans rfl
                have hcz58_1 : w52.cell? ⟨gb232, 1, none⟩ = some (.slice A0_1 l0_1.length c0_1) := (blk_cell BK232.out 1).trans rfl
                have hfz58_0 := blk_frozen BK232.out 0
                have hfz58_1 := blk_frozen BK232.out 1
                go_wp2_with (first | (go_at_call 40; (with_reducible refine (pantileref03_Empty.calls k _ _ l0_0 _ _ l0_1 t254 _ ?side1 ?side2 ?side3 ?side4 A54.out).mono ?_); (case side1 => repeat (first | exact (Kd.C_below HR0_0.out HB.out) | (with_reducible refine Kd.C_alloc ?_ _) | (with_reducible refine Kd.C_drewN ?_ _) | (with_reducible refine Kd.C_drew ?_))); (case side2 => exact HC0_0.out); (case side3 => repeat (first | exact (Kd.C_below HR0_1.out HB.out) | (with_reducible refine Kd.C_alloc ?_ _) | (with_reducible refine Kd.C_drewN ?_ _) | (with_reducible refine Kd.C_drew ?_))); (case side4 => exact HC0_1.out); rintro e w59 ⟨rfl, hb⟩; have n0_ := Aside0.mk (Kd.R_below (by (with_reducible repeat (first | apply Kd.R_alloc | apply Kd.R_drewN | apply Kd.R_drew)); exact HO244.out) hb); have n1_ := Aside0.mk (Kd.R_below (by (with_reducible repeat (first | apply Kd.R_alloc | apply Kd.R_drewN | apply Kd.R_drew)); exact HO247.out) hb); have n2_ := Aside0.mk (blk_below (g := gb232) (o := .cells #[.slice A0_0 l0_0.length c0_0, .slice A0_1 l0_1.length c0_1] 32 (0, 0)) (by (with_reducible repeat (first | refine blk_drewN ?_ _ | refine blk_drew ?_ | refine blk_alloc ?_ _)); exact BK232.out) hb); have n3_ := Aside0.mk (blk_below (g := gb233) (o := .cells #[.slice A1_0 l1_0.length c1_0, .slice A1_1 l1_1.length c1_1] 32 (0, 0)) (by (with_reducible repeat (first | refine blk_drewN ?_ _ | refine blk_drew ?_ | refine blk_alloc ?_ _)); exact BK233.out) hb); have n4_ := Aside0.mk (blk_below (g := gb249) (o := .cells #[.slice Ao42 t242.length co42, .slice Ao46 t245.length co46] 32 (0, 0)) (by (with_reducible repeat (first | refine blk_drewN ?_ _ | refine blk_drew ?_ | refine blk_alloc ?_ _)); exact BK249.out) hb); have n5_ := Aside0.mk (below_step (by repeat (first | (with_reducible first | exact HB.out | apply below_alloc | apply pw_below_drewN | apply below_drew1 | refine below_set ?_ GE232.out | refine below_set ?_ GE233.out | refine below_set ?_ GE249.out) | exact HB.out)) hb); clear HO244; clear HO247; clear BK232; clear BK233; clear BK249; clear HB; have HO244 := n0_; have HO247 := n1_; have BK232 := n2_; have BK233 := n3_; have BK249 := n4_; have HB := n5_; clear n0_ n1_ n2_ n3_ n4_ n5_; (try clear hb); (try clear hb2); (try clear hk); (try clear hi)))
                go_meet
                case rel => exact ⟨_, (true), (by first | rfl | (simp; done) | (simp [*]; done)), H', ⟨by first | omega | exact Nat.le_refl _⟩, ⟨by (with_reducible repeat (first | apply Kd.R_alloc | apply Kd.R_drewN | apply Kd.R_drew)); exact HO244.out⟩, ⟨by (with_reducible repeat (first | apply Kd.R_alloc | apply Kd.R_drewN | apply Kd.R_drew)); exact HO247.out⟩, ⟨by (with_reducible repeat (first | refine blk_drewN ?_ _ | refine blk_drew ?_ | refine blk_alloc ?_ _)); exact BK232.out⟩, ⟨by (with_reducible repeat (first | refine blk_drewN ?_ _ | refine blk_drew ?_ | refine blk_alloc ?_ _)); exact BK233.out⟩, ⟨by (with_reducible repeat (first | refine blk_drewN ?_ _ | refine blk_drew ?_ | refine blk_alloc ?_ _)); exact BK249.out⟩, ⟨by repeat (first | (with_reducible first | exact HB.out | apply below_alloc | apply pw_below_drewN | apply below_drew1 | refine below_set ?_ GE232.out | refine below_set ?_ GE233.out | refine below_set ?_ GE249.out) | exact HB.out)⟩⟩
              · rw [if_neg c55] at H
                have c55b0 : (t236 != t254) = false := by simpa using c55
                (try (have c55b1 : decide (t236 = t254) = true := by simpa using c55))
                (try (have c55b2 : (t236 == t254) = true := by simpa using c55))
                clear c55
                by_cases c60 : t239 = 0
                · rw [if_pos c60] at H
                  have c60b0 : (t239 == 0) = true := beq_iff_eq.mpr c60
                  have c60b1 : (t239 != 0) = false := bne_eq_false_iff_eq.mpr c60
                  clear c60
                  replace H := Option.bind_eq_some_iff.mp H
                  obtain ⟨t255, A610, H⟩ := H
                  replace H : (pantilelaw03_BoxTells.j0 k l2 t236 t240 t241 t248 t250 t251 (t238 != t255) l0_0 l0_1 l1_0 l1_1 t242 t245) = some r := H
                  have A61 := Aside0.mk A610
                  clear A610
                  have H' := Aside0.mk H
                  clear H
                  have hnb62 := NB232_233.out
                  have hnc62 := NB233_232.out
                  have hnb63 := NB232_249.out
                  have hnc63 := NB249_232.out
                  have hcz64_0 : w52.cell? ⟨gb232, 0, none⟩ = some (.slice A0_0 l0_0.length c0_0) := (blk_cell BK232.out 0).trans rfl
                  have hcz64_1 : w52.cell? ⟨gb232, 1, none⟩ = some (.slice A0_1 l0_1.length c0_1) := (blk_cell BK232.out 1).trans rfl
                  have hfz64_0 := blk_frozen BK232.out 0
                  have hfz64_1 := blk_frozen BK232.out 1
                  go_wp2_with (first | (go_at_call 40; (with_reducible refine (pantileref03_Empty.calls k _ _ l0_0 _ _ l0_1 t254 _ ?side1 ?side2 ?side3 ?side4 A54.out).mono ?_); (case side1 => repeat (first | exact (Kd.C_below HR0_0.out HB.out) | (with_reducible refine Kd.C_alloc ?_ _) | (with_reducible refine Kd.C_drewN ?_ _) | (with_reducible refine Kd.C_drew ?_))); (case side2 => exact HC0_0.out); (case side3 => repeat (first | exact (Kd.C_below HR0_1.out HB.out) | (with_reducible refine Kd.C_alloc ?_ _) | (with_reducible refine Kd.C_drewN ?_ _) | (with_reducible refine Kd.C_drew ?_))); (case side4 => exact HC0_1.out); rintro e w65 ⟨rfl, hb⟩; have n0_ := Aside0.mk (Kd.R_below (by (with_reducible repeat (first | apply Kd.R_alloc | apply Kd.R_drewN | apply Kd.R_drew)); exact HO244.out) hb); have n1_ := Aside0.mk (Kd.R_below (by (with_reducible repeat (first | apply Kd.R_alloc | apply Kd.R_drewN | apply Kd.R_drew)); exact HO247.out) hb); have n2_ := Aside0.mk (blk_below (g := gb232) (o := .cells #[.slice A0_0 l0_0.length c0_0, .slice A0_1 l0_1.length c0_1] 32 (0, 0)) (by (with_reducible repeat (first | refine blk_drewN ?_ _ | refine blk_drew ?_ | refine blk_alloc ?_ _)); exact BK232.out) hb); have n3_ := Aside0.mk (blk_below (g := gb233) (o := .cells #[.slice A1_0 l1_0.length c1_0, .slice A1_1 l1_1.length c1_1] 32 (0, 0)) (by (with_reducible repeat (first | refine blk_drewN ?_ _ | refine blk_drew ?_ | refine blk_alloc ?_ _)); exact BK233.out) hb); have n4_ := Aside0.mk (blk_below (g := gb249) (o := .cells #[.slice Ao42 t242.length co42, .slice Ao46 t245.length co46] 32 (0, 0)) (by (with_reducible repeat (first | refine blk_drewN ?_ _ | refine blk_drew ?_ | refine blk_alloc ?_ _)); exact BK249.out) hb); have n5_ := Aside0.mk (below_step (by repeat (first | (with_reducible first | exact HB.out | apply below_alloc | apply pw_below_drewN | apply below_drew1 | refine below_set ?_ GE232.out | refine below_set ?_ GE233.out | refine below_set ?_ GE249.out) | exact HB.out)) hb); clear HO244; clear HO247; clear BK232; clear BK233; clear BK249; clear HB; have HO244 := n0_; have HO247 := n1_; have BK232 := n2_; have BK233 := n3_; have BK249 := n4_; have HB := n5_; clear n0_ n1_ n2_ n3_ n4_ n5_; (try clear hb); (try clear hb2); (try clear hk); (try clear hi); have hcz66_0 : w65.cell? ⟨gb232, 0, none⟩ = some (.slice A0_0 l0_0.length c0_0) := (blk_cell BK232.out 0).trans rfl; have hcz66_1 : w65.cell? ⟨gb232, 1, none⟩ = some (.slice A0_1 l0_1.length c0_1) := (blk_cell BK232.out 1).trans rfl; have hfz66_0 := blk_frozen BK232.out 0; have hfz66_1 := blk_frozen BK232.out 1) | (go_at_call 55; (with_reducible refine (pantileref03_Volume.calls k _ _ l0_0 _ _ l0_1 t255 _ ?side1 ?side2 ?side3 ?side4 A61.out).mono ?_); (case side1 => repeat (first | exact (Kd.C_below HR0_0.out HB.out) | (with_reducible refine Kd.C_alloc ?_ _) | (with_reducible refine Kd.C_drewN ?_ _) | (with_reducible refine Kd.C_drew ?_))); (case side2 => exact HC0_0.out); (case side3 => repeat (first | exact (Kd.C_below HR0_1.out HB.out) | (with_reducible refine Kd.C_alloc ?_ _) | (with_reducible refine Kd.C_drewN ?_ _) | (with_reducible refine Kd.C_drew ?_))); (case side4 => exact HC0_1.out); rintro e w67 ⟨rfl, hb⟩; have n0_ := Aside0.mk (Kd.R_below (by (with_reducible repeat (first | apply Kd.R_alloc | apply Kd.R_drewN | apply Kd.R_drew)); exact HO244.out) hb); have n1_ := Aside0.mk (Kd.R_below (by (with_reducible repeat (first | apply Kd.R_alloc | apply Kd.R_drewN | apply Kd.R_drew)); exact HO247.out) hb); have n2_ := Aside0.mk (blk_below (g := gb232) (o := .cells #[.slice A0_0 l0_0.length c0_0, .slice A0_1 l0_1.length c0_1] 32 (0, 0)) (by (with_reducible repeat (first | refine blk_drewN ?_ _ | refine blk_drew ?_ | refine blk_alloc ?_ _)); exact BK232.out) hb); have n3_ := Aside0.mk (blk_below (g := gb233) (o := .cells #[.slice A1_0 l1_0.length c1_0, .slice A1_1 l1_1.length c1_1] 32 (0, 0)) (by (with_reducible repeat (first | refine blk_drewN ?_ _ | refine blk_drew ?_ | refine blk_alloc ?_ _)); exact BK233.out) hb); have n4_ := Aside0.mk (blk_below (g := gb249) (o := .cells #[.slice Ao42 t242.length co42, .slice Ao46 t245.length co46] 32 (0, 0)) (by (with_reducible repeat (first | refine blk_drewN ?_ _ | refine blk_drew ?_ | refine blk_alloc ?_ _)); exact BK249.out) hb); have n5_ := Aside0.mk (below_step (by repeat (first | (with_reducible first | exact HB.out | apply below_alloc | apply pw_below_drewN | apply below_drew1 | refine below_set ?_ GE232.out | refine below_set ?_ GE233.out | refine below_set ?_ GE249.out) | exact HB.out)) hb); clear HO244; clear HO247; clear BK232; clear BK233; clear BK249; clear HB; have HO244 := n0_; have HO247 := n1_; have BK232 := n2_; have BK233 := n3_; have BK249 := n4_; have HB := n5_; clear n0_ n1_ n2_ n3_ n4_ n5_; (try clear hb); (try clear hb2); (try clear hk); (try clear hi)))
                  go_meet
                  case rel => exact ⟨_, ((t238 != t255)), (by first | rfl | (simp; done) | (simp [*]; done)), H', ⟨by first | omega | exact Nat.le_refl _⟩, ⟨by (with_reducible repeat (first | apply Kd.R_alloc | apply Kd.R_drewN | apply Kd.R_drew)); exact HO244.out⟩, ⟨by (with_reducible repeat (first | apply Kd.R_alloc | apply Kd.R_drewN | apply Kd.R_drew)); exact HO247.out⟩, ⟨by (with_reducible repeat (first | refine blk_drewN ?_ _ | refine blk_drew ?_ | refine blk_alloc ?_ _)); exact BK232.out⟩, ⟨by (with_reducible repeat (first | refine blk_drewN ?_ _ | refine blk_drew ?_ | refine blk_alloc ?_ _)); exact BK233.out⟩, ⟨by (with_reducible repeat (first | refine blk_drewN ?_ _ | refine blk_drew ?_ | refine blk_alloc ?_ _)); exact BK249.out⟩, ⟨by repeat (first | (with_reducible first | exact HB.out | apply below_alloc | apply pw_below_drewN | apply below_drew1 | refine below_set ?_ GE232.out | refine below_set ?_ GE233.out | refine below_set ?_ GE249.out) | exact HB.out)⟩⟩
                · rw [if_neg c60] at H
                  have c60b0 : (t239 == 0) = false := beq_eq_false_iff_ne.mpr c60
                  have c60b1 : (t239 != 0) = true := bne_iff_ne.mpr c60
                  have H' := Aside0.mk H
                  clear H
                  have hnb68 := NB232_233.out
                  have hnc68 := NB233_232.out
                  have hnb69 := NB232_249.out
                  have hnc69 := NB249_232.out
                  have hcz70_0 : w52.cell? ⟨gb232, 0, none⟩ = some (.slice A0_0 l0_0.length c0_0) := (blk_cell BK232.out 0).trans rfl
                  have hcz70_1 : w52.cell? ⟨gb232, 1, none⟩ = some (.slice A0_1 l0_1.length c0_1) := (blk_cell BK232.out 1).trans rfl
                  have hfz70_0 := blk_frozen BK232.out 0
                  have hfz70_1 := blk_frozen BK232.out 1
                  go_wp2_with (first | (go_at_call 40; (with_reducible refine (pantileref03_Empty.calls k _ _ l0_0 _ _ l0_1 t254 _ ?side1 ?side2 ?side3 ?side4 A54.out).mono ?_); (case side1 => repeat (first | exact (Kd.C_below HR0_0.out HB.out) | (with_reducible refine Kd.C_alloc ?_ _) | (with_reducible refine Kd.C_drewN ?_ _) | (with_reducible refine Kd.C_drew ?_))); (case side2 => exact HC0_0.out); (case side3 => repeat (first | exact (Kd.C_below HR0_1.out HB.out) | (with_reducible refine Kd.C_alloc ?_ _) | (with_reducible refine Kd.C_drewN ?_ _) | (with_reducible refine Kd.C_drew ?_))); (case side4 => exact HC0_1.out); rintro e w71 ⟨rfl, hb⟩; have n0_ := Aside0.mk (Kd.R_below (by (with_reducible repeat (first | apply Kd.R_alloc | apply Kd.R_drewN | apply Kd.R_drew)); exact HO244.out) hb); have n1_ := Aside0.mk (Kd.R_below (by (with_reducible repeat (first | apply Kd.R_alloc | apply Kd.R_drewN | apply Kd.R_drew)); exact HO247.out) hb); have n2_ := Aside0.mk (blk_below (g := gb232) (o := .cells #[.slice A0_0 l0_0.length c0_0, .slice A0_1 l0_1.length c0_1] 32 (0, 0)) (by (with_reducible repeat (first | refine blk_drewN ?_ _ | refine blk_drew ?_ | refine blk_alloc ?_ _)); exact BK232.out) hb); have n3_ := Aside0.mk (blk_below (g := gb233) (o := .cells #[.slice A1_0 l1_0.length c1_0, .slice A1_1 l1_1.length c1_1] 32 (0, 0)) (by (with_reducible repeat (first | refine blk_drewN ?_ _ | refine blk_drew ?_ | refine blk_alloc ?_ _)); exact BK233.out) hb); have n4_ := Aside0.mk (blk_below (g := gb249) (o := .cells #[.slice Ao42 t242.length co42, .slice Ao46 t245.length co46] 32 (0, 0)) (by (with_reducible repeat (first | refine blk_drewN ?_ _ | refine blk_drew ?_ | refine blk_alloc ?_ _)); exact BK249.out) hb); have n5_ := Aside0.mk (below_step (by repeat (first | (with_reducible first | exact HB.out | apply below_alloc | apply pw_below_drewN | apply below_drew1 | refine below_set ?_ GE232.out | refine below_set ?_ GE233.out | refine below_set ?_ GE249.out) | exact HB.out)) hb); clear HO244; clear HO247; clear BK232; clear BK233; clear BK249; clear HB; have HO244 := n0_; have HO247 := n1_; have BK232 := n2_; have BK233 := n3_; have BK249 := n4_; have HB := n5_; clear n0_ n1_ n2_ n3_ n4_ n5_; (try clear hb); (try clear hb2); (try clear hk); (try clear hi)))
                  go_meet
                  case rel => exact ⟨_, (true), (by first | rfl | (simp; done) | (simp [*]; done)), H', ⟨by first | omega | exact Nat.le_refl _⟩, ⟨by (with_reducible repeat (first | apply Kd.R_alloc | apply Kd.R_drewN | apply Kd.R_drew)); exact HO244.out⟩, ⟨by (with_reducible repeat (first | apply Kd.R_alloc | apply Kd.R_drewN | apply Kd.R_drew)); exact HO247.out⟩, ⟨by (with_reducible repeat (first | refine blk_drewN ?_ _ | refine blk_drew ?_ | refine blk_alloc ?_ _)); exact BK232.out⟩, ⟨by (with_reducible repeat (first | refine blk_drewN ?_ _ | refine blk_drew ?_ | refine blk_alloc ?_ _)); exact BK233.out⟩, ⟨by (with_reducible repeat (first | refine blk_drewN ?_ _ | refine blk_drew ?_ | refine blk_alloc ?_ _)); exact BK249.out⟩, ⟨by repeat (first | (with_reducible first | exact HB.out | apply below_alloc | apply pw_below_drewN | apply below_drew1 | refine below_set ?_ GE232.out | refine below_set ?_ GE233.out | refine below_set ?_ GE249.out) | exact HB.out)⟩⟩
            · rw [if_neg c53] at H
              have c53b0 : (t237 == 0) = false := beq_eq_false_iff_ne.mpr c53
              have c53b1 : (t237 != 0) = true := bne_iff_ne.mpr c53
              (first | rw [c53b0] | (simp only [i64_w, i32_w]; rw [c53b0]) | skip)
              have H' := Aside0.mk H
              clear H
              go_wp2
              go_meet
              case rel => exact ⟨_, (true), (by first | rfl | (simp; done) | (simp [*]; done)), H', ⟨by first | omega | exact Nat.le_refl _⟩, ⟨by (with_reducible repeat (first | apply Kd.R_alloc | apply Kd.R_drewN | apply Kd.R_drew)); exact HO244.out⟩, ⟨by (with_reducible repeat (first | apply Kd.R_alloc | apply Kd.R_drewN | apply Kd.R_drew)); exact HO247.out⟩, ⟨by (with_reducible repeat (first | refine blk_drewN ?_ _ | refine blk_drew ?_ | refine blk_alloc ?_ _)); exact BK232.out⟩, ⟨by (with_reducible repeat (first | refine blk_drewN ?_ _ | refine blk_drew ?_ | refine blk_alloc ?_ _)); exact BK233.out⟩, ⟨by (with_reducible repeat (first | refine blk_drewN ?_ _ | refine blk_drew ?_ | refine blk_alloc ?_ _)); exact BK249.out⟩, ⟨by repeat (first | (with_reducible first | exact HB.out | apply below_alloc | apply pw_below_drewN | apply below_drew1 | refine below_set ?_ GE232.out | refine below_set ?_ GE233.out | refine below_set ?_ GE249.out) | exact HB.out)⟩⟩
          case rest =>
            clear HC24
            try clear c1
            try clear c2
            try clear p2
            try clear c3
            try clear c4
            try clear c5
            try clear c6
            try clear c7
            try clear c11
            try clear c13
            try clear c22
            try clear c22b0
            try clear c22b1
            try clear c22b2
            try clear c23
            try clear c24
            try clear c28
            try clear c32
            try clear c36
            try clear c43
            try clear c44
            try clear c51
            try clear c52
            try clear c53
            try clear c53b0
            try clear c53b1
            try clear c55
            try clear c55b0
            try clear c55b1
            try clear c55b2
            try clear c56
            try clear c57
            try clear c60
            try clear c60b0
            try clear c60b1
            try clear c62
            try clear c63
            try clear c64
            try clear c68
            try clear c69
            try clear hcz12_0
            try clear hcz12_1
            try clear hcz13_0
            try clear hcz13_1
            try clear hcz29_0
            try clear hcz29_1
            try clear hcz30_0
            try clear hcz30_1
            try clear hcz32_0
            try clear hcz32_1
            try clear hcz34_0
            try clear hcz34_1
            try clear hcz36_0
            try clear hcz36_1
            try clear hcz38_0
            try clear hcz38_1
            try clear hcz39_0
            try clear hcz39_1
            try clear hcz45_0
            try clear hcz45_1
            try clear hcz47_0
            try clear hcz47_1
            try clear hcz49_0
            try clear hcz49_1
            try clear hcz51_0
            try clear hcz51_1
            try clear hcz58_0
            try clear hcz58_1
            try clear hcz64_0
            try clear hcz64_1
            try clear hcz66_0
            try clear hcz66_1
            try clear hcz70_0
            try clear hcz70_1
            try clear hfz12_0
            try clear hfz12_1
            try clear hfz13_0
            try clear hfz13_1
            try clear hfz29_0
            try clear hfz29_1
            try clear hfz30_0
            try clear hfz30_1
            try clear hfz32_0
            try clear hfz32_1
            try clear hfz34_0
            try clear hfz34_1
            try clear hfz36_0
            try clear hfz36_1
            try clear hfz38_0
            try clear hfz38_1
            try clear hfz39_0
            try clear hfz39_1
            try clear hfz45_0
            try clear hfz45_1
            try clear hfz47_0
            try clear hfz47_1
            try clear hfz49_0
            try clear hfz49_1
            try clear hfz51_0
            try clear hfz51_1
            try clear hfz58_0
            try clear hfz58_1
            try clear hfz64_0
            try clear hfz64_1
            try clear hfz66_0
            try clear hfz66_1
            try clear hfz70_0
            try clear hfz70_1
            obtain ⟨kq, x117_23, rfl, HA, HJ23, HO_250000, HO_250001, BK232, BK233, BK249, HB⟩ := hcut
            cases kq with
            | zero => exact absurd HA.out (by simp [pantilelaw03_BoxTells.j0])
            | succ kj23 =>
              have H := HA.out
              clear HA
              simp only [pantilelaw03_BoxTells.j0] at H
              by_cases c72 : x117_23 = true
              · subst c72
                have H1 : (some false) = some r := by rw [if_pos rfl] at H; exact H
                clear H
                have H := H1
                clear H1
                exact Bool.noConfusion ((Option.some.inj H).trans HRT.out)
              · replace c72 := Bool.eq_false_iff.mpr c72
                subst c72
                have H1 : ((pantileref03_Right.f l1_0 l1_1).bind fun t256 => (if t256 = true then (pantilelaw03_BoxTells.j1 kj23 l2 t236 t240 t241 t248 t250 t251 ((l1_0.length : Int) != (l0_0.length : Int)) l0_0 l0_1 t242 t245) else (pantilelaw03_BoxTells.j1 kj23 l2 t236 t240 t241 t248 t250 t251 true l0_0 l0_1 t242 t245))) = some r := by rw [if_neg (show ¬ (false = true) by decide)] at H; exact H
                clear H
                have H := H1
                clear H1
                have HC73 := Aside0.mk H
                clear H
                go_upto_region 17 with (fail)
                go_cut [129] (fun v129 wc => ∃ (kq : Nat) (x129_72 : Bool), v129 = .bool x129_72 ∧ Aside0 (pantilelaw03_BoxTells.j1 kq l2 t236 t240 t241 t248 t250 t251 x129_72 l0_0 l0_1 t242 t245 = some r) ∧ Aside0 (kq ≤ kj23) ∧ Aside0 (Kd.R (Kd.int .u64) 30 wc w.heap.size (fun k_ => some k_ ≠ ((.slice Ao46 t245.length co46) : Value).ownBlock) (.slice Ao42 t242.length co42) t242) ∧ Aside0 (Kd.R (Kd.int .u64) 30 wc w.heap.size (fun k_ => some k_ ≠ ((.slice Ao42 t242.length co42) : Value).ownBlock) (.slice Ao46 t245.length co46) t245) ∧ Aside0 (wc.heap[gb232]? = some (.cells #[(.slice A0_0 l0_0.length c0_0), (.slice A0_1 l0_1.length c0_1)] 32 (0, 0))) ∧ Aside0 (wc.heap[gb233]? = some (.cells #[(.slice A1_0 l1_0.length c1_0), (.slice A1_1 l1_1.length c1_1)] 32 (0, 0))) ∧ Aside0 (wc.heap[gb249]? = some (.cells #[(.slice Ao42 t242.length co42), (.slice Ao46 t245.length co46)] 32 (0, 0))) ∧ Aside0 (Below w.heap.size w wc))
                case first =>
                  have H := HC73.out
                  clear HC73
                  replace H := Option.bind_eq_some_iff.mp H
                  obtain ⟨t256, A740, H⟩ := H
                  replace H : (if t256 = true then (pantilelaw03_BoxTells.j1 kj23 l2 t236 t240 t241 t248 t250 t251 ((l1_0.length : Int) != (l0_0.length : Int)) l0_0 l0_1 t242 t245) else (pantilelaw03_BoxTells.j1 kj23 l2 t236 t240 t241 t248 t250 t251 true l0_0 l0_1 t242 t245)) = some r := H
                  have A74 := Aside0.mk A740
                  clear A740
                  by_cases c75 : t256 = true
                  · subst c75
                    have H1 : (pantilelaw03_BoxTells.j1 kj23 l2 t236 t240 t241 t248 t250 t251 ((l1_0.length : Int) != (l0_0.length : Int)) l0_0 l0_1 t242 t245) = some r := by rw [if_pos rfl] at H; exact H
                    clear H
                    have H := H1
                    clear H1
                    have H' := Aside0.mk H
                    clear H
                    have hnb76 := NB233_232.out
                    have hnc76 := NB232_233.out
                    have hnb77 := NB233_249.out
                    have hnc77 := NB249_233.out
                    have hcz78_0 : wc.cell? ⟨gb233, 0, none⟩ = some (.slice A1_0 l1_0.length c1_0) := (blk_cell BK233.out 0).trans rfl
                    have hcz78_1 : wc.cell? ⟨gb233, 1, none⟩ = some (.slice A1_1 l1_1.length c1_1) := (blk_cell BK233.out 1).trans rfl
                    have hfz78_0 := blk_frozen BK233.out 0
                    have hfz78_1 := blk_frozen BK233.out 1
                    go_wp2_with (first | ((with_reducible refine gate_callee (f := 36) rfl ?_); refine goesL_ (some 119) rfl rfl Try.func36 (by kernel_rfl) rfl #[.agg #[.slice A1_0 l1_0.length c1_0, .slice A1_1 l1_1.length c1_1]] rfl (by (try simp only [List.map_toArray, List.map_cons, List.map_nil]); first | done | rfl | (simp only [List.length_drop, List.length_take]; rfl)) ?_; (with_reducible refine (pantileref03_Right.calls _ _ l1_0 _ _ l1_1 true _ ?side1 ?side2 ?side3 ?side4 A74.out).mono ?_); (case side1 => repeat (first | exact (Kd.C_below HR1_0.out HB.out) | (with_reducible refine Kd.C_alloc ?_ _) | (with_reducible refine Kd.C_drewN ?_ _) | (with_reducible refine Kd.C_drew ?_))); (case side2 => exact HC1_0.out); (case side3 => repeat (first | exact (Kd.C_below HR1_1.out HB.out) | (with_reducible refine Kd.C_alloc ?_ _) | (with_reducible refine Kd.C_drewN ?_ _) | (with_reducible refine Kd.C_drew ?_))); (case side4 => exact HC1_1.out); rintro e w79 ⟨rfl, hb⟩; refine ⟨_, rfl, ?_⟩; have n0_ := Aside0.mk (Kd.R_below (by (with_reducible repeat (first | apply Kd.R_alloc | apply Kd.R_drewN | apply Kd.R_drew)); exact HO_250000.out) hb); have n1_ := Aside0.mk (Kd.R_below (by (with_reducible repeat (first | apply Kd.R_alloc | apply Kd.R_drewN | apply Kd.R_drew)); exact HO_250001.out) hb); have n2_ := Aside0.mk (blk_below (g := gb232) (o := .cells #[.slice A0_0 l0_0.length c0_0, .slice A0_1 l0_1.length c0_1] 32 (0, 0)) (by (with_reducible repeat (first | refine blk_drewN ?_ _ | refine blk_drew ?_ | refine blk_alloc ?_ _)); exact BK232.out) hb); have n3_ := Aside0.mk (blk_below (g := gb233) (o := .cells #[.slice A1_0 l1_0.length c1_0, .slice A1_1 l1_1.length c1_1] 32 (0, 0)) (by (with_reducible repeat (first | refine blk_drewN ?_ _ | refine blk_drew ?_ | refine blk_alloc ?_ _)); exact BK233.out) hb); have n4_ := Aside0.mk (blk_below (g := gb249) (o := .cells #[.slice Ao42 t242.length co42, .slice Ao46 t245.length co46] 32 (0, 0)) (by (with_reducible repeat (first | refine blk_drewN ?_ _ | refine blk_drew ?_ | refine blk_alloc ?_ _)); exact BK249.out) hb); have n5_ := Aside0.mk (below_step (by repeat (first | (with_reducible first | exact HB.out | apply below_alloc | apply pw_below_drewN | apply below_drew1 | refine below_set ?_ GE232.out | refine below_set ?_ GE233.out | refine below_set ?_ GE249.out) | exact HB.out)) hb); clear HO_250000; clear HO_250001; clear BK232; clear BK233; clear BK249; clear HB; have HO_250000 := n0_; have HO_250001 := n1_; have BK232 := n2_; have BK233 := n3_; have BK249 := n4_; have HB := n5_; clear n0_ n1_ n2_ n3_ n4_ n5_; (try clear hb); (try clear hb2); (try clear hk); (try clear hi); have hcz80_0 : w79.cell? ⟨gb233, 0, none⟩ = some (.slice A1_0 l1_0.length c1_0) := (blk_cell BK233.out 0).trans rfl; have hcz80_1 : w79.cell? ⟨gb233, 1, none⟩ = some (.slice A1_1 l1_1.length c1_1) := (blk_cell BK233.out 1).trans rfl; have hfz80_0 := blk_frozen BK233.out 0; have hfz80_1 := blk_frozen BK233.out 1; have hnb81 := NB232_249.out; have hnc81 := NB249_232.out; have hcz82_0 : w79.cell? ⟨gb232, 0, none⟩ = some (.slice A0_0 l0_0.length c0_0) := (blk_cell BK232.out 0).trans rfl; have hcz82_1 : w79.cell? ⟨gb232, 1, none⟩ = some (.slice A0_1 l0_1.length c0_1) := (blk_cell BK232.out 1).trans rfl; have hfz82_0 := blk_frozen BK232.out 0; have hfz82_1 := blk_frozen BK232.out 1))
                    go_meet
                    case rel => exact ⟨_, (((l1_0.length : Int) != (l0_0.length : Int))), (by first | rfl | (simp; done) | (simp [*]; done)), H', ⟨by have := HJ23.out; first | omega | exact Nat.le_refl _⟩, ⟨by (with_reducible repeat (first | apply Kd.R_alloc | apply Kd.R_drewN | apply Kd.R_drew)); exact HO_250000.out⟩, ⟨by (with_reducible repeat (first | apply Kd.R_alloc | apply Kd.R_drewN | apply Kd.R_drew)); exact HO_250001.out⟩, ⟨by (with_reducible repeat (first | refine blk_drewN ?_ _ | refine blk_drew ?_ | refine blk_alloc ?_ _)); exact BK232.out⟩, ⟨by (with_reducible repeat (first | refine blk_drewN ?_ _ | refine blk_drew ?_ | refine blk_alloc ?_ _)); exact BK233.out⟩, ⟨by (with_reducible repeat (first | refine blk_drewN ?_ _ | refine blk_drew ?_ | refine blk_alloc ?_ _)); exact BK249.out⟩, ⟨by repeat (first | (with_reducible first | exact HB.out | apply below_alloc | apply pw_below_drewN | apply below_drew1 | refine below_set ?_ GE232.out | refine below_set ?_ GE233.out | refine below_set ?_ GE249.out) | exact HB.out)⟩⟩
                  · replace c75 := Bool.eq_false_iff.mpr c75
                    subst c75
                    have H1 : (pantilelaw03_BoxTells.j1 kj23 l2 t236 t240 t241 t248 t250 t251 true l0_0 l0_1 t242 t245) = some r := by rw [if_neg (show ¬ (false = true) by decide)] at H; exact H
                    clear H
                    have H := H1
                    clear H1
                    have H' := Aside0.mk H
                    clear H
                    have hnb83 := NB233_232.out
                    have hnc83 := NB232_233.out
                    have hnb84 := NB233_249.out
                    have hnc84 := NB249_233.out
                    have hcz85_0 : wc.cell? ⟨gb233, 0, none⟩ = some (.slice A1_0 l1_0.length c1_0) := (blk_cell BK233.out 0).trans rfl
                    have hcz85_1 : wc.cell? ⟨gb233, 1, none⟩ = some (.slice A1_1 l1_1.length c1_1) := (blk_cell BK233.out 1).trans rfl
                    have hfz85_0 := blk_frozen BK233.out 0
                    have hfz85_1 := blk_frozen BK233.out 1
                    go_wp2_with (first | ((with_reducible refine gate_callee (f := 36) rfl ?_); refine goesL_ (some 119) rfl rfl Try.func36 (by kernel_rfl) rfl #[.agg #[.slice A1_0 l1_0.length c1_0, .slice A1_1 l1_1.length c1_1]] rfl (by (try simp only [List.map_toArray, List.map_cons, List.map_nil]); first | done | rfl | (simp only [List.length_drop, List.length_take]; rfl)) ?_; (with_reducible refine (pantileref03_Right.calls _ _ l1_0 _ _ l1_1 false _ ?side1 ?side2 ?side3 ?side4 A74.out).mono ?_); (case side1 => repeat (first | exact (Kd.C_below HR1_0.out HB.out) | (with_reducible refine Kd.C_alloc ?_ _) | (with_reducible refine Kd.C_drewN ?_ _) | (with_reducible refine Kd.C_drew ?_))); (case side2 => exact HC1_0.out); (case side3 => repeat (first | exact (Kd.C_below HR1_1.out HB.out) | (with_reducible refine Kd.C_alloc ?_ _) | (with_reducible refine Kd.C_drewN ?_ _) | (with_reducible refine Kd.C_drew ?_))); (case side4 => exact HC1_1.out); rintro e w86 ⟨rfl, hb⟩; refine ⟨_, rfl, ?_⟩; have n0_ := Aside0.mk (Kd.R_below (by (with_reducible repeat (first | apply Kd.R_alloc | apply Kd.R_drewN | apply Kd.R_drew)); exact HO_250000.out) hb); have n1_ := Aside0.mk (Kd.R_below (by (with_reducible repeat (first | apply Kd.R_alloc | apply Kd.R_drewN | apply Kd.R_drew)); exact HO_250001.out) hb); have n2_ := Aside0.mk (blk_below (g := gb232) (o := .cells #[.slice A0_0 l0_0.length c0_0, .slice A0_1 l0_1.length c0_1] 32 (0, 0)) (by (with_reducible repeat (first | refine blk_drewN ?_ _ | refine blk_drew ?_ | refine blk_alloc ?_ _)); exact BK232.out) hb); have n3_ := Aside0.mk (blk_below (g := gb233) (o := .cells #[.slice A1_0 l1_0.length c1_0, .slice A1_1 l1_1.length c1_1] 32 (0, 0)) (by (with_reducible repeat (first | refine blk_drewN ?_ _ | refine blk_drew ?_ | refine blk_alloc ?_ _)); exact BK233.out) hb); have n4_ := Aside0.mk (blk_below (g := gb249) (o := .cells #[.slice Ao42 t242.length co42, .slice Ao46 t245.length co46] 32 (0, 0)) (by (with_reducible repeat (first | refine blk_drewN ?_ _ | refine blk_drew ?_ | refine blk_alloc ?_ _)); exact BK249.out) hb); have n5_ := Aside0.mk (below_step (by repeat (first | (with_reducible first | exact HB.out | apply below_alloc | apply pw_below_drewN | apply below_drew1 | refine below_set ?_ GE232.out | refine below_set ?_ GE233.out | refine below_set ?_ GE249.out) | exact HB.out)) hb); clear HO_250000; clear HO_250001; clear BK232; clear BK233; clear BK249; clear HB; have HO_250000 := n0_; have HO_250001 := n1_; have BK232 := n2_; have BK233 := n3_; have BK249 := n4_; have HB := n5_; clear n0_ n1_ n2_ n3_ n4_ n5_; (try clear hb); (try clear hb2); (try clear hk); (try clear hi)))
                    go_meet
                    case rel => exact ⟨_, (true), (by first | rfl | (simp; done) | (simp [*]; done)), H', ⟨by have := HJ23.out; first | omega | exact Nat.le_refl _⟩, ⟨by (with_reducible repeat (first | apply Kd.R_alloc | apply Kd.R_drewN | apply Kd.R_drew)); exact HO_250000.out⟩, ⟨by (with_reducible repeat (first | apply Kd.R_alloc | apply Kd.R_drewN | apply Kd.R_drew)); exact HO_250001.out⟩, ⟨by (with_reducible repeat (first | refine blk_drewN ?_ _ | refine blk_drew ?_ | refine blk_alloc ?_ _)); exact BK232.out⟩, ⟨by (with_reducible repeat (first | refine blk_drewN ?_ _ | refine blk_drew ?_ | refine blk_alloc ?_ _)); exact BK233.out⟩, ⟨by (with_reducible repeat (first | refine blk_drewN ?_ _ | refine blk_drew ?_ | refine blk_alloc ?_ _)); exact BK249.out⟩, ⟨by repeat (first | (with_reducible first | exact HB.out | apply below_alloc | apply pw_below_drewN | apply below_drew1 | refine below_set ?_ GE232.out | refine below_set ?_ GE233.out | refine below_set ?_ GE249.out) | exact HB.out)⟩⟩
                case rest =>
                  clear HC73
                  try clear c1
                  try clear c2
                  try clear p2
                  try clear c3
                  try clear c4
                  try clear c5
                  try clear c6
                  try clear c7
                  try clear c8
                  try clear c11
                  try clear c13
                  try clear c22
                  try clear c22b0
                  try clear c22b1
                  try clear c22b2
                  try clear c23
                  try clear c24
                  try clear c28
                  try clear c32
                  try clear c36
                  try clear c43
                  try clear c44
                  try clear c51
                  try clear c52
                  try clear c53
                  try clear c53b0
                  try clear c53b1
                  try clear c55
                  try clear c55b0
                  try clear c55b1
                  try clear c55b2
                  try clear c56
                  try clear c57
                  try clear c60
                  try clear c60b0
                  try clear c60b1
                  try clear c62
                  try clear c63
                  try clear c64
                  try clear c68
                  try clear c69
                  try clear c72
                  try clear c75
                  try clear c76
                  try clear c77
                  try clear c81
                  try clear c83
                  try clear c84
                  try clear hcz12_0
                  try clear hcz12_1
                  try clear hcz13_0
                  try clear hcz13_1
                  try clear hcz29_0
                  try clear hcz29_1
                  try clear hcz30_0
                  try clear hcz30_1
                  try clear hcz32_0
                  try clear hcz32_1
                  try clear hcz34_0
                  try clear hcz34_1
                  try clear hcz36_0
                  try clear hcz36_1
                  try clear hcz38_0
                  try clear hcz38_1
                  try clear hcz39_0
                  try clear hcz39_1
                  try clear hcz45_0
                  try clear hcz45_1
                  try clear hcz47_0
                  try clear hcz47_1
                  try clear hcz49_0
                  try clear hcz49_1
                  try clear hcz51_0
                  try clear hcz51_1
                  try clear hcz58_0
                  try clear hcz58_1
                  try clear hcz64_0
                  try clear hcz64_1
                  try clear hcz66_0
                  try clear hcz66_1
                  try clear hcz70_0
                  try clear hcz70_1
                  try clear hcz78_0
                  try clear hcz78_1
                  try clear hcz80_0
                  try clear hcz80_1
                  try clear hcz82_0
                  try clear hcz82_1
                  try clear hcz85_0
                  try clear hcz85_1
                  try clear hfz12_0
                  try clear hfz12_1
                  try clear hfz13_0
                  try clear hfz13_1
                  try clear hfz29_0
                  try clear hfz29_1
                  try clear hfz30_0
                  try clear hfz30_1
                  try clear hfz32_0
                  try clear hfz32_1
                  try clear hfz34_0
                  try clear hfz34_1
                  try clear hfz36_0
                  try clear hfz36_1
                  try clear hfz38_0
                  try clear hfz38_1
                  try clear hfz39_0
                  try clear hfz39_1
                  try clear hfz45_0
                  try clear hfz45_1
                  try clear hfz47_0
                  try clear hfz47_1
                  try clear hfz49_0
                  try clear hfz49_1
                  try clear hfz51_0
                  try clear hfz51_1
                  try clear hfz58_0
                  try clear hfz58_1
                  try clear hfz64_0
                  try clear hfz64_1
                  try clear hfz66_0
                  try clear hfz66_1
                  try clear hfz70_0
                  try clear hfz70_1
                  try clear hfz78_0
                  try clear hfz78_1
                  try clear hfz80_0
                  try clear hfz80_1
                  try clear hfz82_0
                  try clear hfz82_1
                  try clear hfz85_0
                  try clear hfz85_1
                  try clear p2
                  obtain ⟨kq, x129_72, rfl, HA, HJ72, HO_250000, HO_250001, BK232, BK233, BK249, HB⟩ := hcut
                  cases kq with
                  | zero => exact absurd HA.out (by simp [pantilelaw03_BoxTells.j1])
                  | succ kj72 =>
                    have H := HA.out
                    clear HA
                    simp only [pantilelaw03_BoxTells.j1] at H
                    have HC87 := Aside0.mk H
                    clear H
                    go_upto_if 129 with (fail)
                    go_cut [] (fun wc => ∃ (kq : Nat), Aside0 (pantilelaw03_BoxTells.j2 kq l2 t236 t240 t241 t250 t251 l0_0 l0_1 = some r) ∧ Aside0 (kq ≤ kj72) ∧ Aside0 (Kd.R (Kd.int .u64) 30 wc w.heap.size (fun k_ => some k_ ≠ ((.slice Ao46 t245.length co46) : Value).ownBlock) (.slice Ao42 t242.length co42) t242) ∧ Aside0 (Kd.R (Kd.int .u64) 30 wc w.heap.size (fun k_ => some k_ ≠ ((.slice Ao42 t242.length co42) : Value).ownBlock) (.slice Ao46 t245.length co46) t245) ∧ Aside0 (wc.heap[gb232]? = some (.cells #[(.slice A0_0 l0_0.length c0_0), (.slice A0_1 l0_1.length c0_1)] 32 (0, 0))) ∧ Aside0 (wc.heap[gb233]? = some (.cells #[(.slice A1_0 l1_0.length c1_0), (.slice A1_1 l1_1.length c1_1)] 32 (0, 0))) ∧ Aside0 (wc.heap[gb249]? = some (.cells #[(.slice Ao42 t242.length co42), (.slice Ao46 t245.length co46)] 32 (0, 0))) ∧ Aside0 (Below w.heap.size w wc))
                    case first =>
                      have H := HC87.out
                      clear HC87
                      by_cases c88 : x129_72 = true
                      · subst c88
                        have H1 : (if t248 = 2 then (if (t242.length : Int) = 0 then (if (t245.length : Int) = 0 then (pantilelaw03_BoxTells.j2 kj72 l2 t236 t240 t241 t250 t251 l0_0 l0_1) else (some false)) else (some false)) else (some false)) = some r := by rw [if_pos rfl] at H; exact H
                        clear H
                        have H := H1
                        clear H1
                        by_cases c89 : t248 = 2
                        · rw [if_pos c89] at H
                          have c89b0 : (t248 == 2) = true := beq_iff_eq.mpr c89
                          have c89b1 : (t248 != 2) = false := bne_eq_false_iff_eq.mpr c89
                          clear c89
                          (first | rw [c89b0] | (simp only [i64_w, i32_w]; rw [c89b0]) | skip)
                          by_cases c90 : (t242.length : Int) = 0
                          · rw [if_pos c90] at H
                            have c90b0 : ((t242.length : Int) == 0) = true := beq_iff_eq.mpr c90
                            have c90b1 : ((t242.length : Int) != 0) = false := bne_eq_false_iff_eq.mpr c90
                            clear c90
                            by_cases c91 : (t245.length : Int) = 0
                            · rw [if_pos c91] at H
                              have c91b0 : ((t245.length : Int) == 0) = true := beq_iff_eq.mpr c91
                              have c91b1 : ((t245.length : Int) != 0) = false := bne_eq_false_iff_eq.mpr c91
                              clear c91
                              have H' := Aside0.mk H
                              clear H
                              have hnb92 := NB249_232.out
                              have hnc92 := NB232_249.out
                              have hnb93 := NB249_233.out
                              have hnc93 := NB233_249.out
                              have hcz94_0 : wc.cell? ⟨gb249, 0, none⟩ = some (.slice Ao42 t242.length co42) := (blk_cell BK249.out 0).trans rfl
                              have hcz94_1 : wc.cell? ⟨gb249, 1, none⟩ = some (.slice Ao46 t245.length co46) := (blk_cell BK249.out 1).trans rfl
                              have hfz94_0 := blk_frozen BK249.out 0
                              have hfz94_1 := blk_frozen BK249.out 1
                              go_wp2
                              go_meet
                              case rel => exact ⟨_, H', ⟨by have := HJ23.out; have := HJ72.out; first | omega | exact Nat.le_refl _⟩, ⟨by (with_reducible repeat (first | apply Kd.R_alloc | apply Kd.R_drewN | apply Kd.R_drew)); exact HO_250000.out⟩, ⟨by (with_reducible repeat (first | apply Kd.R_alloc | apply Kd.R_drewN | apply Kd.R_drew)); exact HO_250001.out⟩, ⟨by (with_reducible repeat (first | refine blk_drewN ?_ _ | refine blk_drew ?_ | refine blk_alloc ?_ _)); exact BK232.out⟩, ⟨by (with_reducible repeat (first | refine blk_drewN ?_ _ | refine blk_drew ?_ | refine blk_alloc ?_ _)); exact BK233.out⟩, ⟨by (with_reducible repeat (first | refine blk_drewN ?_ _ | refine blk_drew ?_ | refine blk_alloc ?_ _)); exact BK249.out⟩, ⟨by repeat (first | (with_reducible first | exact HB.out | apply below_alloc | apply pw_below_drewN | apply below_drew1 | refine below_set ?_ GE232.out | refine below_set ?_ GE233.out | refine below_set ?_ GE249.out) | exact HB.out)⟩⟩
                            · rw [if_neg c91] at H
                              have c91b0 : ((t245.length : Int) == 0) = false := beq_eq_false_iff_ne.mpr c91
                              have c91b1 : ((t245.length : Int) != 0) = true := bne_iff_ne.mpr c91
                              have c91b2 : ¬ (t245 = []) := fun h_ => c91 (by rw [h_]; rfl)
                              exact Bool.noConfusion ((Option.some.inj H).trans HRT.out)
                          · rw [if_neg c90] at H
                            have c90b0 : ((t242.length : Int) == 0) = false := beq_eq_false_iff_ne.mpr c90
                            have c90b1 : ((t242.length : Int) != 0) = true := bne_iff_ne.mpr c90
                            have c90b2 : ¬ (t242 = []) := fun h_ => c90 (by rw [h_]; rfl)
                            exact Bool.noConfusion ((Option.some.inj H).trans HRT.out)
                        · rw [if_neg c89] at H
                          have c89b0 : (t248 == 2) = false := beq_eq_false_iff_ne.mpr c89
                          have c89b1 : (t248 != 2) = true := bne_iff_ne.mpr c89
                          (first | rw [c89b0] | (simp only [i64_w, i32_w]; rw [c89b0]) | skip)
                          exact Bool.noConfusion ((Option.some.inj H).trans HRT.out)
                      · replace c88 := Bool.eq_false_iff.mpr c88
                        subst c88
                        have H1 : (if t248 = 0 then (if (t242.length : Int) = (l0_0.length : Int) then (if (t245.length : Int) = (l0_0.length : Int) then (pantilelaw03_BoxTells.j2 kj72 l2 t236 t240 t241 t250 t251 l0_0 l0_1) else (some false)) else (some false)) else (some false)) = some r := by rw [if_neg (show ¬ (false = true) by decide)] at H; exact H
                        clear H
                        have H := H1
                        clear H1
                        by_cases c95 : t248 = 0
                        · rw [if_pos c95] at H
                          have c95b0 : (t248 == 0) = true := beq_iff_eq.mpr c95
                          have c95b1 : (t248 != 0) = false := bne_eq_false_iff_eq.mpr c95
                          clear c95
                          by_cases c96 : (t242.length : Int) = (l0_0.length : Int)
                          · rw [if_pos c96] at H
                            have c96b0 : ((t242.length : Int) == (l0_0.length : Int)) = true := beq_iff_eq.mpr c96
                            have c96b1 : ((t242.length : Int) != (l0_0.length : Int)) = false := bne_eq_false_iff_eq.mpr c96
                            have c96b2 : (t242.length == l0_0.length) = true := by first | simpa using c96 | (simp at c96 ⊢; omega)
                            clear c96
                            by_cases c97 : (t245.length : Int) = (l0_0.length : Int)
                            · rw [if_pos c97] at H
                              have c97b0 : ((t245.length : Int) == (l0_0.length : Int)) = true := beq_iff_eq.mpr c97
                              have c97b1 : ((t245.length : Int) != (l0_0.length : Int)) = false := bne_eq_false_iff_eq.mpr c97
                              have c97b2 : (t245.length == l0_0.length) = true := by first | simpa using c97 | (simp at c97 ⊢; omega)
                              clear c97
                              have H' := Aside0.mk H
                              clear H
                              have hnb98 := NB249_232.out
                              have hnc98 := NB232_249.out
                              have hnb99 := NB249_233.out
                              have hnc99 := NB233_249.out
                              have hcz100_0 : wc.cell? ⟨gb249, 0, none⟩ = some (.slice Ao42 t242.length co42) := (blk_cell BK249.out 0).trans rfl
                              have hcz100_1 : wc.cell? ⟨gb249, 1, none⟩ = some (.slice Ao46 t245.length co46) := (blk_cell BK249.out 1).trans rfl
                              have hfz100_0 := blk_frozen BK249.out 0
                              have hfz100_1 := blk_frozen BK249.out 1
                              have hnb101 := NB232_233.out
                              have hnc101 := NB233_232.out
                              have hcz102_0 : wc.cell? ⟨gb232, 0, none⟩ = some (.slice A0_0 l0_0.length c0_0) := (blk_cell BK232.out 0).trans rfl
                              have hcz102_1 : wc.cell? ⟨gb232, 1, none⟩ = some (.slice A0_1 l0_1.length c0_1) := (blk_cell BK232.out 1).trans rfl
                              have hfz102_0 := blk_frozen BK232.out 0
                              have hfz102_1 := blk_frozen BK232.out 1
                              go_wp2
                              go_meet
                              case rel => exact ⟨_, H', ⟨by have := HJ23.out; have := HJ72.out; first | omega | exact Nat.le_refl _⟩, ⟨by (with_reducible repeat (first | apply Kd.R_alloc | apply Kd.R_drewN | apply Kd.R_drew)); exact HO_250000.out⟩, ⟨by (with_reducible repeat (first | apply Kd.R_alloc | apply Kd.R_drewN | apply Kd.R_drew)); exact HO_250001.out⟩, ⟨by (with_reducible repeat (first | refine blk_drewN ?_ _ | refine blk_drew ?_ | refine blk_alloc ?_ _)); exact BK232.out⟩, ⟨by (with_reducible repeat (first | refine blk_drewN ?_ _ | refine blk_drew ?_ | refine blk_alloc ?_ _)); exact BK233.out⟩, ⟨by (with_reducible repeat (first | refine blk_drewN ?_ _ | refine blk_drew ?_ | refine blk_alloc ?_ _)); exact BK249.out⟩, ⟨by repeat (first | (with_reducible first | exact HB.out | apply below_alloc | apply pw_below_drewN | apply below_drew1 | refine below_set ?_ GE232.out | refine below_set ?_ GE233.out | refine below_set ?_ GE249.out) | exact HB.out)⟩⟩
                            · rw [if_neg c97] at H
                              have c97b0 : ((t245.length : Int) == (l0_0.length : Int)) = false := beq_eq_false_iff_ne.mpr c97
                              have c97b1 : ((t245.length : Int) != (l0_0.length : Int)) = true := bne_iff_ne.mpr c97
                              have c97b2 : (t245.length == l0_0.length) = false := by first | simpa using c97 | (simp at c97 ⊢; omega)
                              exact Bool.noConfusion ((Option.some.inj H).trans HRT.out)
                          · rw [if_neg c96] at H
                            have c96b0 : ((t242.length : Int) == (l0_0.length : Int)) = false := beq_eq_false_iff_ne.mpr c96
                            have c96b1 : ((t242.length : Int) != (l0_0.length : Int)) = true := bne_iff_ne.mpr c96
                            have c96b2 : (t242.length == l0_0.length) = false := by first | simpa using c96 | (simp at c96 ⊢; omega)
                            exact Bool.noConfusion ((Option.some.inj H).trans HRT.out)
                        · rw [if_neg c95] at H
                          have c95b0 : (t248 == 0) = false := beq_eq_false_iff_ne.mpr c95
                          have c95b1 : (t248 != 0) = true := bne_iff_ne.mpr c95
                          exact Bool.noConfusion ((Option.some.inj H).trans HRT.out)
                    case rest =>
                      clear HC87
                      try clear c1
                      try clear c2
                      try clear p2
                      try clear c3
                      try clear c4
                      try clear c5
                      try clear c6
                      try clear c7
                      try clear c8
                      try clear c9
                      try clear c10
                      try clear c11
                      try clear c13
                      try clear c22
                      try clear c22b0
                      try clear c22b1
                      try clear c22b2
                      try clear c23
                      try clear c24
                      try clear c28
                      try clear c32
                      try clear c36
                      try clear c43
                      try clear c44
                      try clear c51
                      try clear c52
                      try clear c53
                      try clear c53b0
                      try clear c53b1
                      try clear c55
                      try clear c55b0
                      try clear c55b1
                      try clear c55b2
                      try clear c56
                      try clear c57
                      try clear c60
                      try clear c60b0
                      try clear c60b1
                      try clear c62
                      try clear c63
                      try clear c64
                      try clear c68
                      try clear c69
                      try clear c72
                      try clear c75
                      try clear c76
                      try clear c77
                      try clear c81
                      try clear c83
                      try clear c84
                      try clear c88
                      try clear c89
                      try clear c89b0
                      try clear c89b1
                      try clear c90
                      try clear c90b0
                      try clear c90b1
                      try clear c90b2
                      try clear c91
                      try clear c91b0
                      try clear c91b1
                      try clear c91b2
                      try clear c92
                      try clear c93
                      try clear c95
                      try clear c95b0
                      try clear c95b1
                      try clear c96
                      try clear c96b0
                      try clear c96b1
                      try clear c96b2
                      try clear c97
                      try clear c97b0
                      try clear c97b1
                      try clear c97b2
                      try clear c98
                      try clear c99
                      try clear c101
                      try clear hcz100_0
                      try clear hcz100_1
                      try clear hcz102_0
                      try clear hcz102_1
                      try clear hcz12_0
                      try clear hcz12_1
                      try clear hcz13_0
                      try clear hcz13_1
                      try clear hcz29_0
                      try clear hcz29_1
                      try clear hcz30_0
                      try clear hcz30_1
                      try clear hcz32_0
                      try clear hcz32_1
                      try clear hcz34_0
                      try clear hcz34_1
                      try clear hcz36_0
                      try clear hcz36_1
                      try clear hcz38_0
                      try clear hcz38_1
                      try clear hcz39_0
                      try clear hcz39_1
                      try clear hcz45_0
                      try clear hcz45_1
                      try clear hcz47_0
                      try clear hcz47_1
                      try clear hcz49_0
                      try clear hcz49_1
                      try clear hcz51_0
                      try clear hcz51_1
                      try clear hcz58_0
                      try clear hcz58_1
                      try clear hcz64_0
                      try clear hcz64_1
                      try clear hcz66_0
                      try clear hcz66_1
                      try clear hcz70_0
                      try clear hcz70_1
                      try clear hcz78_0
                      try clear hcz78_1
                      try clear hcz80_0
                      try clear hcz80_1
                      try clear hcz82_0
                      try clear hcz82_1
                      try clear hcz85_0
                      try clear hcz85_1
                      try clear hcz94_0
                      try clear hcz94_1
                      try clear hfz100_0
                      try clear hfz100_1
                      try clear hfz102_0
                      try clear hfz102_1
                      try clear hfz12_0
                      try clear hfz12_1
                      try clear hfz13_0
                      try clear hfz13_1
                      try clear hfz29_0
                      try clear hfz29_1
                      try clear hfz30_0
                      try clear hfz30_1
                      try clear hfz32_0
                      try clear hfz32_1
                      try clear hfz34_0
                      try clear hfz34_1
                      try clear hfz36_0
                      try clear hfz36_1
                      try clear hfz38_0
                      try clear hfz38_1
                      try clear hfz39_0
                      try clear hfz39_1
                      try clear hfz45_0
                      try clear hfz45_1
                      try clear hfz47_0
                      try clear hfz47_1
                      try clear hfz49_0
                      try clear hfz49_1
                      try clear hfz51_0
                      try clear hfz51_1
                      try clear hfz58_0
                      try clear hfz58_1
                      try clear hfz64_0
                      try clear hfz64_1
                      try clear hfz66_0
                      try clear hfz66_1
                      try clear hfz70_0
                      try clear hfz70_1
                      try clear hfz78_0
                      try clear hfz78_1
                      try clear hfz80_0
                      try clear hfz80_1
                      try clear hfz82_0
                      try clear hfz82_1
                      try clear hfz85_0
                      try clear hfz85_1
                      try clear hfz94_0
                      try clear hfz94_1
                      try clear p2
                      obtain ⟨kq, HA, HJ86, HO_250000, HO_250001, BK232, BK233, BK249, HB⟩ := hcut
                      cases kq with
                      | zero => exact absurd HA.out (by simp [pantilelaw03_BoxTells.j2])
                      | succ kj86 =>
                        have H := HA.out
                        clear HA
                        simp only [pantilelaw03_BoxTells.j2] at H
                        by_cases c103 : (l2.length : Int) = (l0_0.length : Int)
                        · rw [if_pos c103] at H
                          have c103b0 : ((l2.length : Int) == (l0_0.length : Int)) = true := beq_iff_eq.mpr c103
                          have c103b1 : ((l2.length : Int) != (l0_0.length : Int)) = false := bne_eq_false_iff_eq.mpr c103
                          have c103b2 : (l2.length == l0_0.length) = true := by first | simpa using c103 | (simp at c103 ⊢; omega)
                          clear c103
                          have HC104 := Aside0.mk H
                          clear H
                          have hnb105 := NB232_233.out
                          have hnc105 := NB233_232.out
                          have hnb106 := NB232_249.out
                          have hnc106 := NB249_232.out
                          have hcz107_0 : wc.cell? ⟨gb232, 0, none⟩ = some (.slice A0_0 l0_0.length c0_0) := (blk_cell BK232.out 0).trans rfl
                          have hcz107_1 : wc.cell? ⟨gb232, 1, none⟩ = some (.slice A0_1 l0_1.length c0_1) := (blk_cell BK232.out 1).trans rfl
                          have hfz107_0 := blk_frozen BK232.out 0
                          have hfz107_1 := blk_frozen BK232.out 1
                          go_upto_region 24 with (fail)
                          go_cut [192] (fun v192 wc => ∃ (kq : Nat) (x192_103 : Bool), v192 = .bool x192_103 ∧ Aside0 (pantilelaw03_BoxTells.j3 kq l2 t236 t250 t251 x192_103 l0_0 l0_1 = some r) ∧ Aside0 (kq ≤ kj86) ∧ Aside0 (Kd.R (Kd.int .u64) 30 wc w.heap.size (fun k_ => some k_ ≠ ((.slice Ao46 t245.length co46) : Value).ownBlock) (.slice Ao42 t242.length co42) t242) ∧ Aside0 (Kd.R (Kd.int .u64) 30 wc w.heap.size (fun k_ => some k_ ≠ ((.slice Ao42 t242.length co42) : Value).ownBlock) (.slice Ao46 t245.length co46) t245) ∧ Aside0 (wc.heap[gb232]? = some (.cells #[(.slice A0_0 l0_0.length c0_0), (.slice A0_1 l0_1.length c0_1)] 32 (0, 0))) ∧ Aside0 (wc.heap[gb233]? = some (.cells #[(.slice A1_0 l1_0.length c1_0), (.slice A1_1 l1_1.length c1_1)] 32 (0, 0))) ∧ Aside0 (wc.heap[gb249]? = some (.cells #[(.slice Ao42 t242.length co42), (.slice Ao46 t245.length co46)] 32 (0, 0))) ∧ Aside0 (Below w.heap.size w wc))
                          case first =>
                            have H := HC104.out
                            clear HC104
                            by_cases c108 : t241 = 0
                            · rw [if_pos c108] at H
                              have c108b0 : (t241 == 0) = true := beq_iff_eq.mpr c108
                              have c108b1 : (t241 != 0) = false := bne_eq_false_iff_eq.mpr c108
                              clear c108
                              (first | rw [c108b0] | (simp only [i64_w, i32_w]; rw [c108b0]) | skip)
                              replace H := Option.bind_eq_some_iff.mp H
                              obtain ⟨t257, A1090, H⟩ := H
                              replace H : (pantilelaw03_BoxTells.j3 kj86 l2 t236 t250 t251 (t240 != t257) l0_0 l0_1) = some r := H
                              have A109 := Aside0.mk A1090
                              clear A1090
                              have H' := Aside0.mk H
                              clear H
                              have hnb110 := NB232_233.out
                              have hnc110 := NB233_232.out
                              have hnb111 := NB232_249.out
                              have hnc111 := NB249_232.out
                              have hcz112_0 : wc.cell? ⟨gb232, 0, none⟩ = some (.slice A0_0 l0_0.length c0_0) := (blk_cell BK232.out 0).trans rfl
                              have hcz112_1 : wc.cell? ⟨gb232, 1, none⟩ = some (.slice A0_1 l0_1.length c0_1) := (blk_cell BK232.out 1).trans rfl
                              have hfz112_0 := blk_frozen BK232.out 0
                              have hfz112_1 := blk_frozen BK232.out 1
                              go_wp2_with (first | (go_at_call 54; (with_reducible refine (pantileref03_In.calls kj86 _ _ l0_0 _ _ l0_1 _ _ l2 t257 _ ?side1 ?side2 ?side3 ?side4 ?side5 ?side6 A109.out).mono ?_); (case side1 => repeat (first | exact (Kd.C_below HR0_0.out HB.out) | (with_reducible refine Kd.C_alloc ?_ _) | (with_reducible refine Kd.C_drewN ?_ _) | (with_reducible refine Kd.C_drew ?_))); (case side2 => exact HC0_0.out); (case side3 => repeat (first | exact (Kd.C_below HR0_1.out HB.out) | (with_reducible refine Kd.C_alloc ?_ _) | (with_reducible refine Kd.C_drewN ?_ _) | (with_reducible refine Kd.C_drew ?_))); (case side4 => exact HC0_1.out); (case side5 => repeat (first | exact (Kd.C_below HR2.out HB.out) | (with_reducible refine Kd.C_alloc ?_ _) | (with_reducible refine Kd.C_drewN ?_ _) | (with_reducible refine Kd.C_drew ?_))); (case side6 => exact HC2.out); rintro e w113 ⟨rfl, hb⟩; have n0_ := Aside0.mk (Kd.R_below (by (with_reducible repeat (first | apply Kd.R_alloc | apply Kd.R_drewN | apply Kd.R_drew)); exact HO_250000.out) hb); have n1_ := Aside0.mk (Kd.R_below (by (with_reducible repeat (first | apply Kd.R_alloc | apply Kd.R_drewN | apply Kd.R_drew)); exact HO_250001.out) hb); have n2_ := Aside0.mk (blk_below (g := gb232) (o := .cells #[.slice A0_0 l0_0.length c0_0, .slice A0_1 l0_1.length c0_1] 32 (0, 0)) (by (with_reducible repeat (first | refine blk_drewN ?_ _ | refine blk_drew ?_ | refine blk_alloc ?_ _)); exact BK232.out) hb); have n3_ := Aside0.mk (blk_below (g := gb233) (o := .cells #[.slice A1_0 l1_0.length c1_0, .slice A1_1 l1_1.length c1_1] 32 (0, 0)) (by (with_reducible repeat (first | refine blk_drewN ?_ _ | refine blk_drew ?_ | refine blk_alloc ?_ _)); exact BK233.out) hb); have n4_ := Aside0.mk (blk_below (g := gb249) (o := .cells #[.slice Ao42 t242.length co42, .slice Ao46 t245.length co46] 32 (0, 0)) (by (with_reducible repeat (first | refine blk_drewN ?_ _ | refine blk_drew ?_ | refine blk_alloc ?_ _)); exact BK249.out) hb); have n5_ := Aside0.mk (below_step (by repeat (first | (with_reducible first | exact HB.out | apply below_alloc | apply pw_below_drewN | apply below_drew1 | refine below_set ?_ GE232.out | refine below_set ?_ GE233.out | refine below_set ?_ GE249.out) | exact HB.out)) hb); clear HO_250000; clear HO_250001; clear BK232; clear BK233; clear BK249; clear HB; have HO_250000 := n0_; have HO_250001 := n1_; have BK232 := n2_; have BK233 := n3_; have BK249 := n4_; have HB := n5_; clear n0_ n1_ n2_ n3_ n4_ n5_; (try clear hb); (try clear hb2); (try clear hk); (try clear hi)))
                              go_meet
                              case rel => exact ⟨_, ((t240 != t257)), (by first | rfl | (simp; done) | (simp [*]; done)), H', ⟨by have := HJ23.out; have := HJ72.out; have := HJ86.out; first | omega | exact Nat.le_refl _⟩, ⟨by (with_reducible repeat (first | apply Kd.R_alloc | apply Kd.R_drewN | apply Kd.R_drew)); exact HO_250000.out⟩, ⟨by (with_reducible repeat (first | apply Kd.R_alloc | apply Kd.R_drewN | apply Kd.R_drew)); exact HO_250001.out⟩, ⟨by (with_reducible repeat (first | refine blk_drewN ?_ _ | refine blk_drew ?_ | refine blk_alloc ?_ _)); exact BK232.out⟩, ⟨by (with_reducible repeat (first | refine blk_drewN ?_ _ | refine blk_drew ?_ | refine blk_alloc ?_ _)); exact BK233.out⟩, ⟨by (with_reducible repeat (first | refine blk_drewN ?_ _ | refine blk_drew ?_ | refine blk_alloc ?_ _)); exact BK249.out⟩, ⟨by repeat (first | (with_reducible first | exact HB.out | apply below_alloc | apply pw_below_drewN | apply below_drew1 | refine below_set ?_ GE232.out | refine below_set ?_ GE233.out | refine below_set ?_ GE249.out) | exact HB.out)⟩⟩
                            · rw [if_neg c108] at H
                              have c108b0 : (t241 == 0) = false := beq_eq_false_iff_ne.mpr c108
                              have c108b1 : (t241 != 0) = true := bne_iff_ne.mpr c108
                              (first | rw [c108b0] | (simp only [i64_w, i32_w]; rw [c108b0]) | skip)
                              have H' := Aside0.mk H
                              clear H
                              go_wp2
                              go_meet
                              case rel => exact ⟨_, (true), (by first | rfl | (simp; done) | (simp [*]; done)), H', ⟨by have := HJ23.out; have := HJ72.out; have := HJ86.out; first | omega | exact Nat.le_refl _⟩, ⟨by (with_reducible repeat (first | apply Kd.R_alloc | apply Kd.R_drewN | apply Kd.R_drew)); exact HO_250000.out⟩, ⟨by (with_reducible repeat (first | apply Kd.R_alloc | apply Kd.R_drewN | apply Kd.R_drew)); exact HO_250001.out⟩, ⟨by (with_reducible repeat (first | refine blk_drewN ?_ _ | refine blk_drew ?_ | refine blk_alloc ?_ _)); exact BK232.out⟩, ⟨by (with_reducible repeat (first | refine blk_drewN ?_ _ | refine blk_drew ?_ | refine blk_alloc ?_ _)); exact BK233.out⟩, ⟨by (with_reducible repeat (first | refine blk_drewN ?_ _ | refine blk_drew ?_ | refine blk_alloc ?_ _)); exact BK249.out⟩, ⟨by repeat (first | (with_reducible first | exact HB.out | apply below_alloc | apply pw_below_drewN | apply below_drew1 | refine below_set ?_ GE232.out | refine below_set ?_ GE233.out | refine below_set ?_ GE249.out) | exact HB.out)⟩⟩
                          case rest =>
                            clear HC104
                            try clear c1
                            try clear c2
                            try clear p2
                            try clear c3
                            try clear c4
                            try clear c5
                            try clear c6
                            try clear c7
                            try clear c8
                            try clear c9
                            try clear c10
                            try clear c11
                            try clear c13
                            try clear c22
                            try clear c22b0
                            try clear c22b1
                            try clear c22b2
                            try clear c23
                            try clear c24
                            try clear c28
                            try clear c32
                            try clear c36
                            try clear c43
                            try clear c44
                            try clear c51
                            try clear c52
                            try clear c53
                            try clear c53b0
                            try clear c53b1
                            try clear c55
                            try clear c55b0
                            try clear c55b1
                            try clear c55b2
                            try clear c56
                            try clear c57
                            try clear c60
                            try clear c60b0
                            try clear c60b1
                            try clear c62
                            try clear c63
                            try clear c64
                            try clear c68
                            try clear c69
                            try clear c72
                            try clear c75
                            try clear c76
                            try clear c77
                            try clear c81
                            try clear c83
                            try clear c84
                            try clear c88
                            try clear c89
                            try clear c89b0
                            try clear c89b1
                            try clear c90
                            try clear c90b0
                            try clear c90b1
                            try clear c90b2
                            try clear c91
                            try clear c91b0
                            try clear c91b1
                            try clear c91b2
                            try clear c92
                            try clear c93
                            try clear c95
                            try clear c95b0
                            try clear c95b1
                            try clear c96
                            try clear c96b0
                            try clear c96b1
                            try clear c96b2
                            try clear c97
                            try clear c97b0
                            try clear c97b1
                            try clear c97b2
                            try clear c98
                            try clear c99
                            try clear c101
                            try clear c103
                            try clear c103b0
                            try clear c103b1
                            try clear c103b2
                            try clear c105
                            try clear c106
                            try clear c108
                            try clear c108b0
                            try clear c108b1
                            try clear c110
                            try clear c111
                            try clear hcz100_0
                            try clear hcz100_1
                            try clear hcz102_0
                            try clear hcz102_1
                            try clear hcz107_0
                            try clear hcz107_1
                            try clear hcz112_0
                            try clear hcz112_1
                            try clear hcz12_0
                            try clear hcz12_1
                            try clear hcz13_0
                            try clear hcz13_1
                            try clear hcz29_0
                            try clear hcz29_1
                            try clear hcz30_0
                            try clear hcz30_1
                            try clear hcz32_0
                            try clear hcz32_1
                            try clear hcz34_0
                            try clear hcz34_1
                            try clear hcz36_0
                            try clear hcz36_1
                            try clear hcz38_0
                            try clear hcz38_1
                            try clear hcz39_0
                            try clear hcz39_1
                            try clear hcz45_0
                            try clear hcz45_1
                            try clear hcz47_0
                            try clear hcz47_1
                            try clear hcz49_0
                            try clear hcz49_1
                            try clear hcz51_0
                            try clear hcz51_1
                            try clear hcz58_0
                            try clear hcz58_1
                            try clear hcz64_0
                            try clear hcz64_1
                            try clear hcz66_0
                            try clear hcz66_1
                            try clear hcz70_0
                            try clear hcz70_1
                            try clear hcz78_0
                            try clear hcz78_1
                            try clear hcz80_0
                            try clear hcz80_1
                            try clear hcz82_0
                            try clear hcz82_1
                            try clear hcz85_0
                            try clear hcz85_1
                            try clear hcz94_0
                            try clear hcz94_1
                            try clear hfz100_0
                            try clear hfz100_1
                            try clear hfz102_0
                            try clear hfz102_1
                            try clear hfz107_0
                            try clear hfz107_1
                            try clear hfz112_0
                            try clear hfz112_1
                            try clear hfz12_0
                            try clear hfz12_1
                            try clear hfz13_0
                            try clear hfz13_1
                            try clear hfz29_0
                            try clear hfz29_1
                            try clear hfz30_0
                            try clear hfz30_1
                            try clear hfz32_0
                            try clear hfz32_1
                            try clear hfz34_0
                            try clear hfz34_1
                            try clear hfz36_0
                            try clear hfz36_1
                            try clear hfz38_0
                            try clear hfz38_1
                            try clear hfz39_0
                            try clear hfz39_1
                            try clear hfz45_0
                            try clear hfz45_1
                            try clear hfz47_0
                            try clear hfz47_1
                            try clear hfz49_0
                            try clear hfz49_1
                            try clear hfz51_0
                            try clear hfz51_1
                            try clear hfz58_0
                            try clear hfz58_1
                            try clear hfz64_0
                            try clear hfz64_1
                            try clear hfz66_0
                            try clear hfz66_1
                            try clear hfz70_0
                            try clear hfz70_1
                            try clear hfz78_0
                            try clear hfz78_1
                            try clear hfz80_0
                            try clear hfz80_1
                            try clear hfz82_0
                            try clear hfz82_1
                            try clear hfz85_0
                            try clear hfz85_1
                            try clear hfz94_0
                            try clear hfz94_1
                            try clear p2
                            obtain ⟨kq, x192_103, rfl, HA, HJ103, HO_250000, HO_250001, BK232, BK233, BK249, HB⟩ := hcut
                            cases kq with
                            | zero => exact absurd HA.out (by simp [pantilelaw03_BoxTells.j3])
                            | succ kj103 =>
                              have H := HA.out
                              clear HA
                              simp only [pantilelaw03_BoxTells.j3] at H
                              by_cases c114 : x192_103 = true
                              · subst c114
                                have H1 : (some false) = some r := by rw [if_pos rfl] at H; exact H
                                clear H
                                have H := H1
                                clear H1
                                exact Bool.noConfusion ((Option.some.inj H).trans HRT.out)
                              · replace c114 := Bool.eq_false_iff.mpr c114
                                subst c114
                                have H1 : (if t236 = true then (if t250 = 0 then (some (t251 == 3)) else (some false)) else (if t251 = 0 then ((pantileref03_Nearest.f kj103 l0_0 l0_1 l2).bind fun t258 => ((pantileref03_Far.f kj103 l2 t258).bind fun t261 => (some (t250 == t261)))) else (some false))) = some r := by rw [if_neg (show ¬ (false = true) by decide)] at H; exact H
                                clear H
                                have H := H1
                                clear H1
                                by_cases c115 : t236 = true
                                · subst c115
                                  have H1 : (if t250 = 0 then (some (t251 == 3)) else (some false)) = some r := by rw [if_pos rfl] at H; exact H
                                  clear H
                                  have H := H1
                                  clear H1
                                  by_cases c116 : t250 = 0
                                  · rw [if_pos c116] at H
                                    have c116b0 : (t250 == 0) = true := beq_iff_eq.mpr c116
                                    have c116b1 : (t250 != 0) = false := bne_eq_false_iff_eq.mpr c116
                                    clear c116
                                    obtain rfl := Option.some.inj H
                                    go_wp2
                                    go_ret
                                    exact ⟨by first | rfl | (simp [errW_none, errW_some] <;> rfl) | (simp [*, errW_none, errW_some] <;> rfl), by repeat (first | (with_reducible first | exact HB.out | apply below_alloc | apply pw_below_drewN | apply below_drew1 | refine below_set ?_ GE232.out | refine below_set ?_ GE233.out | refine below_set ?_ GE249.out) | exact HB.out)⟩
                                  · rw [if_neg c116] at H
                                    have c116b0 : (t250 == 0) = false := beq_eq_false_iff_ne.mpr c116
                                    have c116b1 : (t250 != 0) = true := bne_iff_ne.mpr c116
                                    exact Bool.noConfusion ((Option.some.inj H).trans HRT.out)
                                · replace c115 := Bool.eq_false_iff.mpr c115
                                  subst c115
                                  have H1 : (if t251 = 0 then ((pantileref03_Nearest.f kj103 l0_0 l0_1 l2).bind fun t258 => ((pantileref03_Far.f kj103 l2 t258).bind fun t261 => (some (t250 == t261)))) else (some false)) = some r := by rw [if_neg (show ¬ (false = true) by decide)] at H; exact H
                                  clear H
                                  have H := H1
                                  clear H1
                                  by_cases c117 : t251 = 0
                                  · rw [if_pos c117] at H
                                    have c117b0 : (t251 == 0) = true := beq_iff_eq.mpr c117
                                    have c117b1 : (t251 != 0) = false := bne_eq_false_iff_eq.mpr c117
                                    clear c117
                                    replace H := Option.bind_eq_some_iff.mp H
                                    obtain ⟨t258, A1180, H⟩ := H
                                    replace H : ((pantileref03_Far.f kj103 l2 t258).bind fun t261 => (some (t250 == t261))) = some r := H
                                    have A118 := Aside0.mk A1180
                                    clear A1180
                                    replace H := Option.bind_eq_some_iff.mp H
                                    obtain ⟨t261, A1190, H⟩ := H
                                    replace H : (some (t250 == t261)) = some r := H
                                    have A119 := Aside0.mk A1190
                                    clear A1190
                                    obtain rfl := Option.some.inj H
                                    have hnb120 := NB232_233.out
                                    have hnc120 := NB233_232.out
                                    have hnb121 := NB232_249.out
                                    have hnc121 := NB249_232.out
                                    have hcz122_0 : wc.cell? ⟨gb232, 0, none⟩ = some (.slice A0_0 l0_0.length c0_0) := (blk_cell BK232.out 0).trans rfl
                                    have hcz122_1 : wc.cell? ⟨gb232, 1, none⟩ = some (.slice A0_1 l0_1.length c0_1) := (blk_cell BK232.out 1).trans rfl
                                    have hfz122_0 := blk_frozen BK232.out 0
                                    have hfz122_1 := blk_frozen BK232.out 1
                                    go_wp2_with (first | (go_at_call 65; (with_reducible refine (pantileref03_Nearest.calls kj103 _ _ l0_0 _ _ l0_1 _ _ l2 t258 _ ?side1 ?side2 ?side3 ?side4 ?side5 ?side6 A118.out).mono ?_); (case side1 => repeat (first | exact (Kd.C_below HR0_0.out HB.out) | (with_reducible refine Kd.C_alloc ?_ _) | (with_reducible refine Kd.C_drewN ?_ _) | (with_reducible refine Kd.C_drew ?_))); (case side2 => exact HC0_0.out); (case side3 => repeat (first | exact (Kd.C_below HR0_1.out HB.out) | (with_reducible refine Kd.C_alloc ?_ _) | (with_reducible refine Kd.C_drewN ?_ _) | (with_reducible refine Kd.C_drew ?_))); (case side4 => exact HC0_1.out); (case side5 => repeat (first | exact (Kd.C_below HR2.out HB.out) | (with_reducible refine Kd.C_alloc ?_ _) | (with_reducible refine Kd.C_drewN ?_ _) | (with_reducible refine Kd.C_drew ?_))); (case side6 => exact HC2.out); rintro e w123 ⟨v259, rfl, ho0, hb⟩; have n0_ := Aside0.mk (Kd.R_elder' (by (with_reducible repeat (first | apply Kd.R_alloc | apply Kd.R_drewN | apply Kd.R_drew)); exact HO_250000.out) (Kd.R_base ho0) hb); have n1_ := Aside0.mk (Kd.R_elder' (by (with_reducible repeat (first | apply Kd.R_alloc | apply Kd.R_drewN | apply Kd.R_drew)); exact HO_250001.out) (Kd.R_base ho0) hb); have n2_ := Aside0.mk (Kd.R_lower (Kd.R_new' (Kd.R_new' ho0 (Kd.R_lt (by (with_reducible repeat (first | apply Kd.R_alloc | apply Kd.R_drewN | apply Kd.R_drew)); exact HO_250000.out))) (Kd.R_lt (by (with_reducible repeat (first | apply Kd.R_alloc | apply Kd.R_drewN | apply Kd.R_drew)); exact HO_250001.out))) (below_size (by repeat (first | (with_reducible first | exact HB.out | apply below_alloc | apply pw_below_drewN | apply below_drew1 | refine below_set ?_ GE232.out | refine below_set ?_ GE233.out | refine below_set ?_ GE249.out) | exact HB.out)))); have n3_ := Aside0.mk (blk_below (g := gb232) (o := .cells #[.slice A0_0 l0_0.length c0_0, .slice A0_1 l0_1.length c0_1] 32 (0, 0)) (by (with_reducible repeat (first | refine blk_drewN ?_ _ | refine blk_drew ?_ | refine blk_alloc ?_ _)); exact BK232.out) hb); have n4_ := Aside0.mk (blk_below (g := gb233) (o := .cells #[.slice A1_0 l1_0.length c1_0, .slice A1_1 l1_1.length c1_1] 32 (0, 0)) (by (with_reducible repeat (first | refine blk_drewN ?_ _ | refine blk_drew ?_ | refine blk_alloc ?_ _)); exact BK233.out) hb); have n5_ := Aside0.mk (blk_below (g := gb249) (o := .cells #[.slice Ao42 t242.length co42, .slice Ao46 t245.length co46] 32 (0, 0)) (by (with_reducible repeat (first | refine blk_drewN ?_ _ | refine blk_drew ?_ | refine blk_alloc ?_ _)); exact BK249.out) hb); have n6_ := Aside0.mk (below_step (by repeat (first | (with_reducible first | exact HB.out | apply below_alloc | apply pw_below_drewN | apply below_drew1 | refine below_set ?_ GE232.out | refine below_set ?_ GE233.out | refine below_set ?_ GE249.out) | exact HB.out)) hb); clear HO_250000; clear HO_250001; clear BK232; clear BK233; clear BK249; clear HB; have HO_250000 := n0_; have HO_250001 := n1_; have HO260 := n2_; have BK232 := n3_; have BK233 := n4_; have BK249 := n5_; have HB := n6_; clear n0_ n1_ n2_ n3_ n4_ n5_ n6_; (try clear hb); (try clear hb2); (try clear hk); (try clear hi); (try clear ho0); obtain ⟨Ao124, co124, eo124⟩ := Kd.R_slice HO260.out; subst eo124) | (go_at_call 33; (with_reducible refine (pantileref03_Far.calls kj103 _ _ l2 _ _ t258 t261 _ ?side1 ?side2 ?side3 ?side4 A119.out).mono ?_); (case side1 => repeat (first | exact (Kd.C_below HR2.out HB.out) | (with_reducible refine Kd.C_alloc ?_ _) | (with_reducible refine Kd.C_drewN ?_ _) | (with_reducible refine Kd.C_drew ?_))); (case side2 => exact HC2.out); (case side3 => repeat (first | exact (Kd.R_reads' HO260.out).2.2 | (with_reducible refine Kd.C_alloc ?_ _) | (with_reducible refine Kd.C_drewN ?_ _) | (with_reducible refine Kd.C_drew ?_))); (case side4 => exact (Kd.R_reads' HO260.out).2.1); rintro e w' ⟨rfl, ⟨nd, rfl⟩⟩))
                                    go_ret
                                    exact ⟨by first | rfl | (simp [errW_none, errW_some] <;> rfl) | (simp [*, errW_none, errW_some] <;> rfl), by repeat (first | (with_reducible first | exact HB.out | apply below_alloc | apply pw_below_drewN | apply below_drew1 | refine below_set ?_ GE232.out | refine below_set ?_ GE233.out | refine below_set ?_ GE249.out) | exact HB.out)⟩
                                  · rw [if_neg c117] at H
                                    have c117b0 : (t251 == 0) = false := beq_eq_false_iff_ne.mpr c117
                                    have c117b1 : (t251 != 0) = true := bne_iff_ne.mpr c117
                                    exact Bool.noConfusion ((Option.some.inj H).trans HRT.out)
                        · rw [if_neg c103] at H
                          have c103b0 : ((l2.length : Int) == (l0_0.length : Int)) = false := beq_eq_false_iff_ne.mpr c103
                          have c103b1 : ((l2.length : Int) != (l0_0.length : Int)) = true := bne_iff_ne.mpr c103
                          have c103b2 : (l2.length == l0_0.length) = false := by first | simpa using c103 | (simp at c103 ⊢; omega)
                          by_cases c125 : t240 = true
                          · subst c125
                            have H1 : (some false) = some r := by rw [if_pos rfl] at H; exact H
                            clear H
                            have H := H1
                            clear H1
                            exact Bool.noConfusion ((Option.some.inj H).trans HRT.out)
                          · replace c125 := Bool.eq_false_iff.mpr c125
                            subst c125
                            have H1 : (if t241 = 2 then (if t250 = 0 then (some (t251 == 2)) else (some false)) else (some false)) = some r := by rw [if_neg (show ¬ (false = true) by decide)] at H; exact H
                            clear H
                            have H := H1
                            clear H1
                            by_cases c126 : t241 = 2
                            · rw [if_pos c126] at H
                              have c126b0 : (t241 == 2) = true := beq_iff_eq.mpr c126
                              have c126b1 : (t241 != 2) = false := bne_eq_false_iff_eq.mpr c126
                              clear c126
                              by_cases c127 : t250 = 0
                              · rw [if_pos c127] at H
                                have c127b0 : (t250 == 0) = true := beq_iff_eq.mpr c127
                                have c127b1 : (t250 != 0) = false := bne_eq_false_iff_eq.mpr c127
                                clear c127
                                obtain rfl := Option.some.inj H
                                have hnb128 := NB232_233.out
                                have hnc128 := NB233_232.out
                                have hnb129 := NB232_249.out
                                have hnc129 := NB249_232.out
                                have hcz130_0 : wc.cell? ⟨gb232, 0, none⟩ = some (.slice A0_0 l0_0.length c0_0) := (blk_cell BK232.out 0).trans rfl
                                have hcz130_1 : wc.cell? ⟨gb232, 1, none⟩ = some (.slice A0_1 l0_1.length c0_1) := (blk_cell BK232.out 1).trans rfl
                                have hfz130_0 := blk_frozen BK232.out 0
                                have hfz130_1 := blk_frozen BK232.out 1
                                go_wp2
                                go_ret
                                exact ⟨by first | rfl | (simp [errW_none, errW_some] <;> rfl) | (simp [*, errW_none, errW_some] <;> rfl), by repeat (first | (with_reducible first | exact HB.out | apply below_alloc | apply pw_below_drewN | apply below_drew1 | refine below_set ?_ GE232.out | refine below_set ?_ GE233.out | refine below_set ?_ GE249.out) | exact HB.out)⟩
                              · rw [if_neg c127] at H
                                have c127b0 : (t250 == 0) = false := beq_eq_false_iff_ne.mpr c127
                                have c127b1 : (t250 != 0) = true := bne_iff_ne.mpr c127
                                exact Bool.noConfusion ((Option.some.inj H).trans HRT.out)
                            · rw [if_neg c126] at H
                              have c126b0 : (t241 == 2) = false := beq_eq_false_iff_ne.mpr c126
                              have c126b1 : (t241 != 2) = true := bne_iff_ne.mpr c126
                              exact Bool.noConfusion ((Option.some.inj H).trans HRT.out)
        · replace c23 := Bool.eq_false_iff.mpr c23
          subst c23
          have H1 : (if t236 = true then (some false) else (if t237 = 2 then (if t238 = 0 then (if t239 = 2 then (if t240 = true then (some false) else (if t241 = 2 then (if (t242.length : Int) = 0 then (if t248 = 2 then (if t250 = 0 then (some (t251 == 2)) else (some false)) else (some false)) else (some false)) else (some false))) else (some false)) else (some false)) else (some false))) = some r := by rw [if_neg (show ¬ (false = true) by decide)] at H; exact H
          clear H
          have H := H1
          clear H1
          by_cases c131 : t236 = true
          · subst c131
            have H1 : (some false) = some r := by rw [if_pos rfl] at H; exact H
            clear H
            have H := H1
            clear H1
            exact Bool.noConfusion ((Option.some.inj H).trans HRT.out)
          · replace c131 := Bool.eq_false_iff.mpr c131
            subst c131
            have H1 : (if t237 = 2 then (if t238 = 0 then (if t239 = 2 then (if t240 = true then (some false) else (if t241 = 2 then (if (t242.length : Int) = 0 then (if t248 = 2 then (if t250 = 0 then (some (t251 == 2)) else (some false)) else (some false)) else (some false)) else (some false))) else (some false)) else (some false)) else (some false)) = some r := by rw [if_neg (show ¬ (false = true) by decide)] at H; exact H
            clear H
            have H := H1
            clear H1
            by_cases c132 : t237 = 2
            · rw [if_pos c132] at H
              have c132b0 : (t237 == 2) = true := beq_iff_eq.mpr c132
              have c132b1 : (t237 != 2) = false := bne_eq_false_iff_eq.mpr c132
              clear c132
              by_cases c133 : t238 = 0
              · rw [if_pos c133] at H
                have c133b0 : (t238 == 0) = true := beq_iff_eq.mpr c133
                have c133b1 : (t238 != 0) = false := bne_eq_false_iff_eq.mpr c133
                clear c133
                by_cases c134 : t239 = 2
                · rw [if_pos c134] at H
                  have c134b0 : (t239 == 2) = true := beq_iff_eq.mpr c134
                  have c134b1 : (t239 != 2) = false := bne_eq_false_iff_eq.mpr c134
                  clear c134
                  by_cases c135 : t240 = true
                  · subst c135
                    have H1 : (some false) = some r := by rw [if_pos rfl] at H; exact H
                    clear H
                    have H := H1
                    clear H1
                    exact Bool.noConfusion ((Option.some.inj H).trans HRT.out)
                  · replace c135 := Bool.eq_false_iff.mpr c135
                    subst c135
                    have H1 : (if t241 = 2 then (if (t242.length : Int) = 0 then (if t248 = 2 then (if t250 = 0 then (some (t251 == 2)) else (some false)) else (some false)) else (some false)) else (some false)) = some r := by rw [if_neg (show ¬ (false = true) by decide)] at H; exact H
                    clear H
                    have H := H1
                    clear H1
                    by_cases c136 : t241 = 2
                    · rw [if_pos c136] at H
                      have c136b0 : (t241 == 2) = true := beq_iff_eq.mpr c136
                      have c136b1 : (t241 != 2) = false := bne_eq_false_iff_eq.mpr c136
                      clear c136
                      by_cases c137 : (t242.length : Int) = 0
                      · rw [if_pos c137] at H
                        have c137b0 : ((t242.length : Int) == 0) = true := beq_iff_eq.mpr c137
                        have c137b1 : ((t242.length : Int) != 0) = false := bne_eq_false_iff_eq.mpr c137
                        clear c137
                        by_cases c138 : t248 = 2
                        · rw [if_pos c138] at H
                          have c138b0 : (t248 == 2) = true := beq_iff_eq.mpr c138
                          have c138b1 : (t248 != 2) = false := bne_eq_false_iff_eq.mpr c138
                          clear c138
                          by_cases c139 : t250 = 0
                          · rw [if_pos c139] at H
                            have c139b0 : (t250 == 0) = true := beq_iff_eq.mpr c139
                            have c139b1 : (t250 != 0) = false := bne_eq_false_iff_eq.mpr c139
                            clear c139
                            obtain rfl := Option.some.inj H
                            go_enter Try.func13, Try.ntmps13
                            go_wp2_with (first | ((with_reducible refine gate_dst (N := 3) rfl ?_); (try (refine gate_guard (by rfl) ?_; dsimp only)); refine box_event ?hg (N := 3) ?hd (cs := #[.slice A0_0 l0_0.length c0_0, .slice A0_1 l0_1.length c0_1]) (t := 32) ?hr ?_; (case hd => rfl); (case hg => rfl); (case hr => first | (go_simp; done) | (go_simp; rfl)); intro gb232 hg w140 hbox hb; have n0_ := Aside0.mk (below_step (by repeat (first | (with_reducible first | exact HB.out | apply below_alloc | apply pw_below_drewN | apply below_drew1) | exact HB.out)) hb); have n1_ := Aside0.mk (hbox); have n2_ := Aside0.mk ((by rw [hg]; exact (below_size (by repeat (first | (with_reducible first | exact HB.out | apply below_alloc | apply pw_below_drewN | apply below_drew1) | exact HB.out))) : w.heap.size ≤ gb232)); have n3_ := Aside0.mk ((by rw [hg]; exact (below_size (by repeat (first | (with_reducible first | exact HB.out | apply below_alloc | apply pw_below_drewN | apply below_drew1) | exact HB.out))) : w.heap.size ≤ gb232)); clear HB; have HB := n0_; have BK232 := n1_; have GW232 := n2_; have GE232 := n3_; clear n0_ n1_ n2_ n3_; clear hb hbox hg) | ((with_reducible refine gate_dst (N := 4) rfl ?_); (try (refine gate_guard (by rfl) ?_; dsimp only)); refine box_event ?hg (N := 4) ?hd (cs := #[.slice A1_0 l1_0.length c1_0, .slice A1_1 l1_1.length c1_1]) (t := 32) ?hr ?_; (case hd => rfl); (case hg => rfl); (case hr => first | (go_simp; done) | (go_simp; rfl)); intro gb233 hg w141 hbox hb; have n0_ := Aside0.mk (blk_below (g := gb232) (o := .cells #[.slice A0_0 l0_0.length c0_0, .slice A0_1 l0_1.length c0_1] 32 (0, 0)) (by (with_reducible repeat (first | refine blk_drewN ?_ _ | refine blk_drew ?_ | refine blk_alloc ?_ _)); exact BK232.out) hb); have n1_ := Aside0.mk (below_step (by repeat (first | (with_reducible first | exact HB.out | apply below_alloc | apply pw_below_drewN | apply below_drew1 | refine below_set ?_ GE232.out) | exact HB.out)) hb); have n2_ := Aside0.mk (hbox); have n3_ := Aside0.mk ((by rw [hg]; exact (below_size (by repeat (first | (with_reducible first | exact HB.out | apply below_alloc | apply pw_below_drewN | apply below_drew1 | refine below_set ?_ GE232.out) | exact HB.out))) : w.heap.size ≤ gb233)); have n4_ := Aside0.mk ((by rw [hg]; exact (below_size (by repeat (first | (with_reducible first | exact HB.out | apply below_alloc | apply pw_below_drewN | apply below_drew1 | refine below_set ?_ GE232.out) | exact HB.out))) : w.heap.size ≤ gb233)); have n5_ := Aside0.mk ((by rw [hg]; exact Nat.ne_of_lt (blk_lt (g := gb232) (o := .cells #[.slice A0_0 l0_0.length c0_0, .slice A0_1 l0_1.length c0_1] 32 (0, 0)) (by (with_reducible repeat (first | refine blk_drewN ?_ _ | refine blk_drew ?_ | refine blk_alloc ?_ _)); exact BK232.out)) : gb232 ≠ gb233)); have n6_ := Aside0.mk ((by rw [hg]; exact Nat.ne_of_gt (blk_lt (g := gb232) (o := .cells #[.slice A0_0 l0_0.length c0_0, .slice A0_1 l0_1.length c0_1] 32 (0, 0)) (by (with_reducible repeat (first | refine blk_drewN ?_ _ | refine blk_drew ?_ | refine blk_alloc ?_ _)); exact BK232.out)) : gb233 ≠ gb232)); clear BK232; clear HB; have BK232 := n0_; have HB := n1_; have BK233 := n2_; have GW233 := n3_; have GE233 := n4_; have NB232_233 := n5_; have NB233_232 := n6_; clear n0_ n1_ n2_ n3_ n4_ n5_ n6_; clear hb hbox hg) | ((with_reducible refine gate_callee (f := 24) rfl ?_); refine goesL_ (some 18) rfl rfl Try.func24 (by kernel_rfl) rfl #[] rfl (by (try simp only [List.map_toArray, List.map_cons, List.map_nil]); first | done | rfl | (simp only [List.length_drop, List.length_take]; rfl)) ?_; (with_reducible refine (pantilelaw03_awake.calls k  true _ A4.out).mono ?_); rintro e w142 ⟨rfl, hb⟩; refine ⟨_, rfl, ?_⟩; have n0_ := Aside0.mk (blk_below (g := gb232) (o := .cells #[.slice A0_0 l0_0.length c0_0, .slice A0_1 l0_1.length c0_1] 32 (0, 0)) (by (with_reducible repeat (first | refine blk_drewN ?_ _ | refine blk_drew ?_ | refine blk_alloc ?_ _)); exact BK232.out) hb); have n1_ := Aside0.mk (blk_below (g := gb233) (o := .cells #[.slice A1_0 l1_0.length c1_0, .slice A1_1 l1_1.length c1_1] 32 (0, 0)) (by (with_reducible repeat (first | refine blk_drewN ?_ _ | refine blk_drew ?_ | refine blk_alloc ?_ _)); exact BK233.out) hb); have n2_ := Aside0.mk (below_step (by repeat (first | (with_reducible first | exact HB.out | apply below_alloc | apply pw_below_drewN | apply below_drew1 | refine below_set ?_ GE232.out | refine below_set ?_ GE233.out) | exact HB.out)) hb); clear BK232; clear BK233; clear HB; have BK232 := n0_; have BK233 := n1_; have HB := n2_; clear n0_ n1_ n2_; (try clear hb); (try clear hb2); (try clear hk); (try clear hi); have hnb143 := NB232_233.out; have hnc143 := NB233_232.out; have hcz144_0 : w142.cell? ⟨gb232, 0, none⟩ = some (.slice A0_0 l0_0.length c0_0) := (blk_cell BK232.out 0).trans rfl; have hcz144_1 : w142.cell? ⟨gb232, 1, none⟩ = some (.slice A0_1 l0_1.length c0_1) := (blk_cell BK232.out 1).trans rfl; have hfz144_0 := blk_frozen BK232.out 0; have hfz144_1 := blk_frozen BK232.out 1; have hcz145_0 : w142.cell? ⟨gb233, 0, none⟩ = some (.slice A1_0 l1_0.length c1_0) := (blk_cell BK233.out 0).trans rfl; have hcz145_1 : w142.cell? ⟨gb233, 1, none⟩ = some (.slice A1_1 l1_1.length c1_1) := (blk_cell BK233.out 1).trans rfl; have hfz145_0 := blk_frozen BK233.out 0; have hfz145_1 := blk_frozen BK233.out 1) | ((with_reducible refine gate_callee (f := 53) rfl ?_); refine goesL_ (some 23) rfl rfl Try.func53 (by kernel_rfl) rfl #[.agg #[.slice A0_0 l0_0.length c0_0, .slice A0_1 l0_1.length c0_1], .agg #[.slice A1_0 l1_0.length c1_0, .slice A1_1 l1_1.length c1_1], .slice A2 l2.length c2] rfl (by (try simp only [List.map_toArray, List.map_cons, List.map_nil]); first | done | rfl | (simp only [List.length_drop, List.length_take]; rfl)) ?_; (with_reducible refine (pantilelaw03_big.calls _ _ l0_0 _ _ l0_1 _ _ l1_0 _ _ l1_1 _ _ l2 false _ ?side1 ?side2 ?side3 ?side4 ?side5 ?side6 ?side7 ?side8 ?side9 ?side10 A6.out).mono ?_); (case side1 => repeat (first | exact (Kd.C_below HR0_0.out HB.out) | (with_reducible refine Kd.C_alloc ?_ _) | (with_reducible refine Kd.C_drewN ?_ _) | (with_reducible refine Kd.C_drew ?_))); (case side2 => exact HC0_0.out); (case side3 => repeat (first | exact (Kd.C_below HR0_1.out HB.out) | (with_reducible refine Kd.C_alloc ?_ _) | (with_reducible refine Kd.C_drewN ?_ _) | (with_reducible refine Kd.C_drew ?_))); (case side4 => exact HC0_1.out); (case side5 => repeat (first | exact (Kd.C_below HR1_0.out HB.out) | (with_reducible refine Kd.C_alloc ?_ _) | (with_reducible refine Kd.C_drewN ?_ _) | (with_reducible refine Kd.C_drew ?_))); (case side6 => exact HC1_0.out); (case side7 => repeat (first | exact (Kd.C_below HR1_1.out HB.out) | (with_reducible refine Kd.C_alloc ?_ _) | (with_reducible refine Kd.C_drewN ?_ _) | (with_reducible refine Kd.C_drew ?_))); (case side8 => exact HC1_1.out); (case side9 => repeat (first | exact (Kd.C_below HR2.out HB.out) | (with_reducible refine Kd.C_alloc ?_ _) | (with_reducible refine Kd.C_drewN ?_ _) | (with_reducible refine Kd.C_drew ?_))); (case side10 => exact HC2.out); rintro e w146 ⟨rfl, hb⟩; refine ⟨_, rfl, ?_⟩; have n0_ := Aside0.mk (blk_below (g := gb232) (o := .cells #[.slice A0_0 l0_0.length c0_0, .slice A0_1 l0_1.length c0_1] 32 (0, 0)) (by (with_reducible repeat (first | refine blk_drewN ?_ _ | refine blk_drew ?_ | refine blk_alloc ?_ _)); exact BK232.out) hb); have n1_ := Aside0.mk (blk_below (g := gb233) (o := .cells #[.slice A1_0 l1_0.length c1_0, .slice A1_1 l1_1.length c1_1] 32 (0, 0)) (by (with_reducible repeat (first | refine blk_drewN ?_ _ | refine blk_drew ?_ | refine blk_alloc ?_ _)); exact BK233.out) hb); have n2_ := Aside0.mk (below_step (by repeat (first | (with_reducible first | exact HB.out | apply below_alloc | apply pw_below_drewN | apply below_drew1 | refine below_set ?_ GE232.out | refine below_set ?_ GE233.out) | exact HB.out)) hb); clear BK232; clear BK233; clear HB; have BK232 := n0_; have BK233 := n1_; have HB := n2_; clear n0_ n1_ n2_; (try clear hb); (try clear hb2); (try clear hk); (try clear hi); have hcz147_0 : w146.cell? ⟨gb232, 0, none⟩ = some (.slice A0_0 l0_0.length c0_0) := (blk_cell BK232.out 0).trans rfl; have hcz147_1 : w146.cell? ⟨gb232, 1, none⟩ = some (.slice A0_1 l0_1.length c0_1) := (blk_cell BK232.out 1).trans rfl; have hfz147_0 := blk_frozen BK232.out 0; have hfz147_1 := blk_frozen BK232.out 1) | ((with_reducible refine gate_callee (f := 62) rfl ?_); refine goesL_ (some 26) rfl rfl Try.func62 (by kernel_rfl) rfl #[.agg #[.slice A0_0 l0_0.length c0_0, .slice A0_1 l0_1.length c0_1]] rfl (by (try simp only [List.map_toArray, List.map_cons, List.map_nil]); first | done | rfl | (simp only [List.length_drop, List.length_take]; rfl)) ?_; (with_reducible refine (box_Empty.calls k _ _ l0_0 _ _ l0_1 false t237 _ ?side1 ?side2 ?side3 ?side4 A15.out).mono ?_); (case side1 => repeat (first | exact (Kd.C_below HR0_0.out HB.out) | (with_reducible refine Kd.C_alloc ?_ _) | (with_reducible refine Kd.C_drewN ?_ _) | (with_reducible refine Kd.C_drew ?_))); (case side2 => exact HC0_0.out); (case side3 => repeat (first | exact (Kd.C_below HR0_1.out HB.out) | (with_reducible refine Kd.C_alloc ?_ _) | (with_reducible refine Kd.C_drewN ?_ _) | (with_reducible refine Kd.C_drew ?_))); (case side4 => exact HC0_1.out); rintro e w148 ⟨rfl, hb⟩; refine ⟨_, rfl, ?_⟩; have n0_ := Aside0.mk (blk_below (g := gb232) (o := .cells #[.slice A0_0 l0_0.length c0_0, .slice A0_1 l0_1.length c0_1] 32 (0, 0)) (by (with_reducible repeat (first | refine blk_drewN ?_ _ | refine blk_drew ?_ | refine blk_alloc ?_ _)); exact BK232.out) hb); have n1_ := Aside0.mk (blk_below (g := gb233) (o := .cells #[.slice A1_0 l1_0.length c1_0, .slice A1_1 l1_1.length c1_1] 32 (0, 0)) (by (with_reducible repeat (first | refine blk_drewN ?_ _ | refine blk_drew ?_ | refine blk_alloc ?_ _)); exact BK233.out) hb); have n2_ := Aside0.mk (below_step (by repeat (first | (with_reducible first | exact HB.out | apply below_alloc | apply pw_below_drewN | apply below_drew1 | refine below_set ?_ GE232.out | refine below_set ?_ GE233.out) | exact HB.out)) hb); clear BK232; clear BK233; clear HB; have BK232 := n0_; have BK233 := n1_; have HB := n2_; clear n0_ n1_ n2_; (try clear hb); (try clear hb2); (try clear hk); (try clear hi); have hcz149_0 : w148.cell? ⟨gb232, 0, none⟩ = some (.slice A0_0 l0_0.length c0_0) := (blk_cell BK232.out 0).trans rfl; have hcz149_1 : w148.cell? ⟨gb232, 1, none⟩ = some (.slice A0_1 l0_1.length c0_1) := (blk_cell BK232.out 1).trans rfl; have hfz149_0 := blk_frozen BK232.out 0; have hfz149_1 := blk_frozen BK232.out 1) | ((with_reducible refine gate_callee (f := 52) rfl ?_); refine goesL_ (some 31) rfl rfl Try.func52 (by kernel_rfl) rfl #[.agg #[.slice A0_0 l0_0.length c0_0, .slice A0_1 l0_1.length c0_1]] rfl (by (try simp only [List.map_toArray, List.map_cons, List.map_nil]); first | done | rfl | (simp only [List.length_drop, List.length_take]; rfl)) ?_; (with_reducible refine (box_Volume.calls k _ _ l0_0 _ _ l0_1 t238 t239 _ ?side1 ?side2 ?side3 ?side4 A16.out).mono ?_); (case side1 => repeat (first | exact (Kd.C_below HR0_0.out HB.out) | (with_reducible refine Kd.C_alloc ?_ _) | (with_reducible refine Kd.C_drewN ?_ _) | (with_reducible refine Kd.C_drew ?_))); (case side2 => exact HC0_0.out); (case side3 => repeat (first | exact (Kd.C_below HR0_1.out HB.out) | (with_reducible refine Kd.C_alloc ?_ _) | (with_reducible refine Kd.C_drewN ?_ _) | (with_reducible refine Kd.C_drew ?_))); (case side4 => exact HC0_1.out); rintro e w150 ⟨rfl, hb⟩; refine ⟨_, rfl, ?_⟩; have n0_ := Aside0.mk (blk_below (g := gb232) (o := .cells #[.slice A0_0 l0_0.length c0_0, .slice A0_1 l0_1.length c0_1] 32 (0, 0)) (by (with_reducible repeat (first | refine blk_drewN ?_ _ | refine blk_drew ?_ | refine blk_alloc ?_ _)); exact BK232.out) hb); have n1_ := Aside0.mk (blk_below (g := gb233) (o := .cells #[.slice A1_0 l1_0.length c1_0, .slice A1_1 l1_1.length c1_1] 32 (0, 0)) (by (with_reducible repeat (first | refine blk_drewN ?_ _ | refine blk_drew ?_ | refine blk_alloc ?_ _)); exact BK233.out) hb); have n2_ := Aside0.mk (below_step (by repeat (first | (with_reducible first | exact HB.out | apply below_alloc | apply pw_below_drewN | apply below_drew1 | refine below_set ?_ GE232.out | refine below_set ?_ GE233.out) | exact HB.out)) hb); clear BK232; clear BK233; clear HB; have BK232 := n0_; have BK233 := n1_; have HB := n2_; clear n0_ n1_ n2_; (try clear hb); (try clear hb2); (try clear hk); (try clear hi); have hcz151_0 : w150.cell? ⟨gb232, 0, none⟩ = some (.slice A0_0 l0_0.length c0_0) := (blk_cell BK232.out 0).trans rfl; have hcz151_1 : w150.cell? ⟨gb232, 1, none⟩ = some (.slice A0_1 l0_1.length c0_1) := (blk_cell BK232.out 1).trans rfl; have hfz151_0 := blk_frozen BK232.out 0; have hfz151_1 := blk_frozen BK232.out 1) | ((with_reducible refine gate_callee (f := 32) rfl ?_); refine goesL_ (some 37) rfl rfl Try.func32 (by kernel_rfl) rfl #[.agg #[.slice A0_0 l0_0.length c0_0, .slice A0_1 l0_1.length c0_1], .slice A2 l2.length c2] rfl (by (try simp only [List.map_toArray, List.map_cons, List.map_nil]); first | done | rfl | (simp only [List.length_drop, List.length_take]; rfl)) ?_; (with_reducible refine (box_In.calls k _ _ l0_0 _ _ l0_1 _ _ l2 false t241 _ ?side1 ?side2 ?side3 ?side4 ?side5 ?side6 A17.out).mono ?_); (case side1 => repeat (first | exact (Kd.C_below HR0_0.out HB.out) | (with_reducible refine Kd.C_alloc ?_ _) | (with_reducible refine Kd.C_drewN ?_ _) | (with_reducible refine Kd.C_drew ?_))); (case side2 => exact HC0_0.out); (case side3 => repeat (first | exact (Kd.C_below HR0_1.out HB.out) | (with_reducible refine Kd.C_alloc ?_ _) | (with_reducible refine Kd.C_drewN ?_ _) | (with_reducible refine Kd.C_drew ?_))); (case side4 => exact HC0_1.out); (case side5 => repeat (first | exact (Kd.C_below HR2.out HB.out) | (with_reducible refine Kd.C_alloc ?_ _) | (with_reducible refine Kd.C_drewN ?_ _) | (with_reducible refine Kd.C_drew ?_))); (case side6 => exact HC2.out); rintro e w152 ⟨rfl, hb⟩; refine ⟨_, rfl, ?_⟩; have n0_ := Aside0.mk (blk_below (g := gb232) (o := .cells #[.slice A0_0 l0_0.length c0_0, .slice A0_1 l0_1.length c0_1] 32 (0, 0)) (by (with_reducible repeat (first | refine blk_drewN ?_ _ | refine blk_drew ?_ | refine blk_alloc ?_ _)); exact BK232.out) hb); have n1_ := Aside0.mk (blk_below (g := gb233) (o := .cells #[.slice A1_0 l1_0.length c1_0, .slice A1_1 l1_1.length c1_1] 32 (0, 0)) (by (with_reducible repeat (first | refine blk_drewN ?_ _ | refine blk_drew ?_ | refine blk_alloc ?_ _)); exact BK233.out) hb); have n2_ := Aside0.mk (below_step (by repeat (first | (with_reducible first | exact HB.out | apply below_alloc | apply pw_below_drewN | apply below_drew1 | refine below_set ?_ GE232.out | refine below_set ?_ GE233.out) | exact HB.out)) hb); clear BK232; clear BK233; clear HB; have BK232 := n0_; have BK233 := n1_; have HB := n2_; clear n0_ n1_ n2_; (try clear hb); (try clear hb2); (try clear hk); (try clear hi); have hcz153_0 : w152.cell? ⟨gb232, 0, none⟩ = some (.slice A0_0 l0_0.length c0_0) := (blk_cell BK232.out 0).trans rfl; have hcz153_1 : w152.cell? ⟨gb232, 1, none⟩ = some (.slice A0_1 l0_1.length c0_1) := (blk_cell BK232.out 1).trans rfl; have hfz153_0 := blk_frozen BK232.out 0; have hfz153_1 := blk_frozen BK232.out 1; have hcz154_0 : w152.cell? ⟨gb233, 0, none⟩ = some (.slice A1_0 l1_0.length c1_0) := (blk_cell BK233.out 0).trans rfl; have hcz154_1 : w152.cell? ⟨gb233, 1, none⟩ = some (.slice A1_1 l1_1.length c1_1) := (blk_cell BK233.out 1).trans rfl; have hfz154_0 := blk_frozen BK233.out 0; have hfz154_1 := blk_frozen BK233.out 1) | ((with_reducible refine gate_callee (f := 51) rfl ?_); refine goesL_ (some 43) rfl rfl Try.func51 (by kernel_rfl) rfl #[.agg #[.slice A0_0 l0_0.length c0_0, .slice A0_1 l0_1.length c0_1], .agg #[.slice A1_0 l1_0.length c1_0, .slice A1_1 l1_1.length c1_1]] rfl (by (try simp only [List.map_toArray, List.map_cons, List.map_nil]); first | done | rfl | (simp only [List.length_drop, List.length_take]; rfl)) ?_; (with_reducible refine (box_Meet.calls _ _ l0_0 _ _ l0_1 _ _ l1_0 _ _ l1_1 t242 t245 t248 _ ?side1 ?side2 ?side3 ?side4 ?side5 ?side6 ?side7 ?side8 A18.out).mono ?_); (case side1 => repeat (first | exact (Kd.C_below HR0_0.out HB.out) | (with_reducible refine Kd.C_alloc ?_ _) | (with_reducible refine Kd.C_drewN ?_ _) | (with_reducible refine Kd.C_drew ?_))); (case side2 => exact HC0_0.out); (case side3 => repeat (first | exact (Kd.C_below HR0_1.out HB.out) | (with_reducible refine Kd.C_alloc ?_ _) | (with_reducible refine Kd.C_drewN ?_ _) | (with_reducible refine Kd.C_drew ?_))); (case side4 => exact HC0_1.out); (case side5 => repeat (first | exact (Kd.C_below HR1_0.out HB.out) | (with_reducible refine Kd.C_alloc ?_ _) | (with_reducible refine Kd.C_drewN ?_ _) | (with_reducible refine Kd.C_drew ?_))); (case side6 => exact HC1_0.out); (case side7 => repeat (first | exact (Kd.C_below HR1_1.out HB.out) | (with_reducible refine Kd.C_alloc ?_ _) | (with_reducible refine Kd.C_drewN ?_ _) | (with_reducible refine Kd.C_drew ?_))); (case side8 => exact HC1_1.out); rintro e w155 ⟨v243, v246, rfl, ho0, ho1, hb⟩; refine ⟨_, rfl, ?_⟩; have n0_ := Aside0.mk (Kd.R_lower ho0 (below_size (by repeat (first | (with_reducible first | exact HB.out | apply below_alloc | apply pw_below_drewN | apply below_drew1 | refine below_set ?_ GE232.out | refine below_set ?_ GE233.out) | exact HB.out)))); have n1_ := Aside0.mk (Kd.R_lower ho1 (below_size (by repeat (first | (with_reducible first | exact HB.out | apply below_alloc | apply pw_below_drewN | apply below_drew1 | refine below_set ?_ GE232.out | refine below_set ?_ GE233.out) | exact HB.out)))); have n2_ := Aside0.mk (blk_below (g := gb232) (o := .cells #[.slice A0_0 l0_0.length c0_0, .slice A0_1 l0_1.length c0_1] 32 (0, 0)) (by (with_reducible repeat (first | refine blk_drewN ?_ _ | refine blk_drew ?_ | refine blk_alloc ?_ _)); exact BK232.out) hb); have n3_ := Aside0.mk (blk_below (g := gb233) (o := .cells #[.slice A1_0 l1_0.length c1_0, .slice A1_1 l1_1.length c1_1] 32 (0, 0)) (by (with_reducible repeat (first | refine blk_drewN ?_ _ | refine blk_drew ?_ | refine blk_alloc ?_ _)); exact BK233.out) hb); have n4_ := Aside0.mk (below_step (by repeat (first | (with_reducible first | exact HB.out | apply below_alloc | apply pw_below_drewN | apply below_drew1 | refine below_set ?_ GE232.out | refine below_set ?_ GE233.out) | exact HB.out)) hb); clear BK232; clear BK233; clear HB; have HO244 := n0_; have HO247 := n1_; have BK232 := n2_; have BK233 := n3_; have HB := n4_; clear n0_ n1_ n2_ n3_ n4_; (try clear hb); (try clear hb2); (try clear hk); (try clear hi); (try clear ho0); (try clear ho1)) | ((with_reducible refine gate_dst (N := 13) rfl ?_); (try (refine gate_guard (by rfl) ?_; dsimp only)); refine box_event ?hg (N := 13) ?hd (cs := #[.slice none 0 0, .slice none 0 0]) (t := 32) ?hr ?_; (case hd => rfl); (case hg => rfl); (case hr => first | (go_simp; done) | (go_simp; rfl)); intro gb249 hg w156 hbox hb; have n0_ := Aside0.mk (Kd.R_below (by (with_reducible repeat (first | apply Kd.R_alloc | apply Kd.R_drewN | apply Kd.R_drew)); exact HO244.out) hb); have n1_ := Aside0.mk (Kd.R_below (by (with_reducible repeat (first | apply Kd.R_alloc | apply Kd.R_drewN | apply Kd.R_drew)); exact HO247.out) hb); have n2_ := Aside0.mk (blk_below (g := gb232) (o := .cells #[.slice A0_0 l0_0.length c0_0, .slice A0_1 l0_1.length c0_1] 32 (0, 0)) (by (with_reducible repeat (first | refine blk_drewN ?_ _ | refine blk_drew ?_ | refine blk_alloc ?_ _)); exact BK232.out) hb); have n3_ := Aside0.mk (blk_below (g := gb233) (o := .cells #[.slice A1_0 l1_0.length c1_0, .slice A1_1 l1_1.length c1_1] 32 (0, 0)) (by (with_reducible repeat (first | refine blk_drewN ?_ _ | refine blk_drew ?_ | refine blk_alloc ?_ _)); exact BK233.out) hb); have n4_ := Aside0.mk (below_step (by repeat (first | (with_reducible first | exact HB.out | apply below_alloc | apply pw_below_drewN | apply below_drew1 | refine below_set ?_ GE232.out | refine below_set ?_ GE233.out) | exact HB.out)) hb); have n5_ := Aside0.mk (hbox); have n6_ := Aside0.mk ((by rw [hg]; exact (below_size (by repeat (first | (with_reducible first | exact HB.out | apply below_alloc | apply pw_below_drewN | apply below_drew1 | refine below_set ?_ GE232.out | refine below_set ?_ GE233.out) | exact HB.out))) : w.heap.size ≤ gb249)); have n7_ := Aside0.mk ((by rw [hg]; exact (below_size (by repeat (first | (with_reducible first | exact HB.out | apply below_alloc | apply pw_below_drewN | apply below_drew1 | refine below_set ?_ GE232.out | refine below_set ?_ GE233.out) | exact HB.out))) : w.heap.size ≤ gb249)); have n8_ := Aside0.mk ((by rw [hg]; exact Nat.ne_of_lt (blk_lt (g := gb232) (o := .cells #[.slice A0_0 l0_0.length c0_0, .slice A0_1 l0_1.length c0_1] 32 (0, 0)) (by (with_reducible repeat (first | refine blk_drewN ?_ _ | refine blk_drew ?_ | refine blk_alloc ?_ _)); exact BK232.out)) : gb232 ≠ gb249)); have n9_ := Aside0.mk ((by rw [hg]; exact Nat.ne_of_gt (blk_lt (g := gb232) (o := .cells #[.slice A0_0 l0_0.length c0_0, .slice A0_1 l0_1.length c0_1] 32 (0, 0)) (by (with_reducible repeat (first | refine blk_drewN ?_ _ | refine blk_drew ?_ | refine blk_alloc ?_ _)); exact BK232.out)) : gb249 ≠ gb232)); have n10_ := Aside0.mk ((by rw [hg]; exact Nat.ne_of_lt (blk_lt (g := gb233) (o := .cells #[.slice A1_0 l1_0.length c1_0, .slice A1_1 l1_1.length c1_1] 32 (0, 0)) (by (with_reducible repeat (first | refine blk_drewN ?_ _ | refine blk_drew ?_ | refine blk_alloc ?_ _)); exact BK233.out)) : gb233 ≠ gb249)); have n11_ := Aside0.mk ((by rw [hg]; exact Nat.ne_of_gt (blk_lt (g := gb233) (o := .cells #[.slice A1_0 l1_0.length c1_0, .slice A1_1 l1_1.length c1_1] 32 (0, 0)) (by (with_reducible repeat (first | refine blk_drewN ?_ _ | refine blk_drew ?_ | refine blk_alloc ?_ _)); exact BK233.out)) : gb249 ≠ gb233)); clear HO244; clear HO247; clear BK232; clear BK233; clear HB; have HO244 := n0_; have HO247 := n1_; have BK232 := n2_; have BK233 := n3_; have HB := n4_; have BK249 := n5_; have GW249 := n6_; have GE249 := n7_; have NB232_249 := n8_; have NB249_232 := n9_; have NB233_249 := n10_; have NB249_233 := n11_; clear n0_ n1_ n2_ n3_ n4_ n5_ n6_ n7_ n8_ n9_ n10_ n11_; clear hb hbox hg; obtain ⟨Ao157, co157, eo157⟩ := Kd.R_slice HO244.out; subst eo157; have hnb158 := NB249_232.out; have hnc158 := NB232_249.out; have hnb159 := NB249_233.out; have hnc159 := NB233_249.out; have hcz160_0 : w156.cell? ⟨gb249, 0, none⟩ = some (.slice none 0 0) := (blk_cell BK249.out 0).trans rfl; have hcz160_1 : w156.cell? ⟨gb249, 1, none⟩ = some (.slice none 0 0) := (blk_cell BK249.out 1).trans rfl; have hfz160_0 := blk_frozen BK249.out 0; have hfz160_1 := blk_frozen BK249.out 1; obtain ⟨Ao161, co161, eo161⟩ := Kd.R_slice HO247.out; subst eo161; have hcz162_0 : w156.cell? ⟨gb232, 0, none⟩ = some (.slice A0_0 l0_0.length c0_0) := (blk_cell BK232.out 0).trans rfl; have hcz162_1 : w156.cell? ⟨gb232, 1, none⟩ = some (.slice A0_1 l0_1.length c0_1) := (blk_cell BK232.out 1).trans rfl; have hfz162_0 := blk_frozen BK232.out 0; have hfz162_1 := blk_frozen BK232.out 1) | ((with_reducible refine gate_callee (f := 63) rfl ?_); refine goesL_ (some 49) rfl rfl Try.func63 (by kernel_rfl) rfl #[.agg #[.slice A0_0 l0_0.length c0_0, .slice A0_1 l0_1.length c0_1], .slice A2 l2.length c2] rfl (by (try simp only [List.map_toArray, List.map_cons, List.map_nil]); first | done | rfl | (simp only [List.length_drop, List.length_take]; rfl)) ?_; (with_reducible refine (box_FarBox.calls k _ _ l0_0 _ _ l0_1 _ _ l2 t250 t251 _ ?side1 ?side2 ?side3 ?side4 ?side5 ?side6 A19.out).mono ?_); (case side1 => exact Kd.C_below HR0_0.out (by repeat (first | (with_reducible first | exact HB.out | apply below_alloc | apply pw_below_drewN | apply below_drew1 | refine below_set ?_ GE232.out | refine below_set ?_ GE233.out | refine below_set ?_ GE249.out) | exact HB.out))); (case side2 => exact HC0_0.out); (case side3 => exact Kd.C_below HR0_1.out (by repeat (first | (with_reducible first | exact HB.out | apply below_alloc | apply pw_below_drewN | apply below_drew1 | refine below_set ?_ GE232.out | refine below_set ?_ GE233.out | refine below_set ?_ GE249.out) | exact HB.out))); (case side4 => exact HC0_1.out); (case side5 => exact Kd.C_below HR2.out (by repeat (first | (with_reducible first | exact HB.out | apply below_alloc | apply pw_below_drewN | apply below_drew1 | refine below_set ?_ GE232.out | refine below_set ?_ GE233.out | refine below_set ?_ GE249.out) | exact HB.out))); (case side6 => exact HC2.out); rintro e w163 ⟨rfl, hb⟩; refine ⟨_, rfl, ?_⟩; have n0_ := Aside0.mk (Kd.R_below (by (with_reducible repeat (first | apply Kd.R_alloc | apply Kd.R_drewN | apply Kd.R_drew)); exact (Kd.R_mono (Kd.R_far (p := ⟨gb249, 1, none⟩) (Kd.R_far (p := ⟨gb249, 0, none⟩) (Kd.R_types HO244.out BK249.out (by decide)) (fun _ hk => hk.2) (.slice Ao157 t242.length co157)) (fun _ hk => hk.2) (.slice Ao161 t245.length co161)) (fun _ h_ => h_.1))) hb); have n1_ := Aside0.mk (Kd.R_below (by (with_reducible repeat (first | apply Kd.R_alloc | apply Kd.R_drewN | apply Kd.R_drew)); exact (Kd.R_mono (Kd.R_far (p := ⟨gb249, 1, none⟩) (Kd.R_far (p := ⟨gb249, 0, none⟩) (Kd.R_types HO247.out BK249.out (by decide)) (fun _ hk => hk.2) (.slice Ao157 t242.length co157)) (fun _ hk => hk.2) (.slice Ao161 t245.length co161)) (fun _ h_ => h_.1))) hb); have n2_ := Aside0.mk (blk_below (g := gb232) (o := .cells #[.slice A0_0 l0_0.length c0_0, .slice A0_1 l0_1.length c0_1] 32 (0, 0)) (by (with_reducible repeat (first | refine blk_drewN ?_ _ | refine blk_drew ?_ | refine blk_alloc ?_ _)); refine blk_far ?_ NB232_249.out _; (with_reducible repeat (first | refine blk_drewN ?_ _ | refine blk_drew ?_ | refine blk_alloc ?_ _)); refine blk_far ?_ NB232_249.out _; (with_reducible repeat (first | refine blk_drewN ?_ _ | refine blk_drew ?_ | refine blk_alloc ?_ _)); exact BK232.out) hb); have n3_ := Aside0.mk (blk_below (g := gb233) (o := .cells #[.slice A1_0 l1_0.length c1_0, .slice A1_1 l1_1.length c1_1] 32 (0, 0)) (by (with_reducible repeat (first | refine blk_drewN ?_ _ | refine blk_drew ?_ | refine blk_alloc ?_ _)); refine blk_far ?_ NB233_249.out _; (with_reducible repeat (first | refine blk_drewN ?_ _ | refine blk_drew ?_ | refine blk_alloc ?_ _)); refine blk_far ?_ NB233_249.out _; (with_reducible repeat (first | refine blk_drewN ?_ _ | refine blk_drew ?_ | refine blk_alloc ?_ _)); exact BK233.out) hb); have n4_ := Aside0.mk (blk_below (g := gb249) (o := .cells #[.slice Ao157 t242.length co157, .slice Ao161 t245.length co161] 32 (0, 0)) (by (with_reducible repeat (first | refine blk_drewN ?_ _ | refine blk_drew ?_ | refine blk_alloc ?_ _)); refine blk_put (cs := #[.slice Ao157 t242.length co157, .slice none 0 0]) ?_ 1 _ rfl; (with_reducible repeat (first | refine blk_drewN ?_ _ | refine blk_drew ?_ | refine blk_alloc ?_ _)); refine blk_put (cs := #[.slice none 0 0, .slice none 0 0]) ?_ 0 _ rfl; (with_reducible repeat (first | refine blk_drewN ?_ _ | refine blk_drew ?_ | refine blk_alloc ?_ _)); exact BK249.out) hb); have n5_ := Aside0.mk (below_step (by repeat (first | (with_reducible first | exact HB.out | apply below_alloc | apply pw_below_drewN | apply below_drew1 | refine below_set ?_ GE232.out | refine below_set ?_ GE233.out | refine below_set ?_ GE249.out) | exact HB.out)) hb); clear HO244; clear HO247; clear BK232; clear BK233; clear BK249; clear HB; have HO244 := n0_; have HO247 := n1_; have BK232 := n2_; have BK233 := n3_; have BK249 := n4_; have HB := n5_; clear n0_ n1_ n2_ n3_ n4_ n5_; (try clear hb); (try clear hb2); (try clear hk); (try clear hi); have hcz164_0 : w163.cell? ⟨gb232, 0, none⟩ = some (.slice A0_0 l0_0.length c0_0) := (blk_cell BK232.out 0).trans rfl; have hcz164_1 : w163.cell? ⟨gb232, 1, none⟩ = some (.slice A0_1 l0_1.length c0_1) := (blk_cell BK232.out 1).trans rfl; have hfz164_0 := blk_frozen BK232.out 0; have hfz164_1 := blk_frozen BK232.out 1) | ((with_reducible refine gate_callee (f := 36) rfl ?_); refine goesL_ (some 53) rfl rfl Try.func36 (by kernel_rfl) rfl #[.agg #[.slice A0_0 l0_0.length c0_0, .slice A0_1 l0_1.length c0_1]] rfl (by (try simp only [List.map_toArray, List.map_cons, List.map_nil]); first | done | rfl | (simp only [List.length_drop, List.length_take]; rfl)) ?_; (with_reducible refine (pantileref03_Right.calls _ _ l0_0 _ _ l0_1 false _ ?side1 ?side2 ?side3 ?side4 A20.out).mono ?_); (case side1 => repeat (first | exact (Kd.C_below HR0_0.out HB.out) | (with_reducible refine Kd.C_alloc ?_ _) | (with_reducible refine Kd.C_drewN ?_ _) | (with_reducible refine Kd.C_drew ?_))); (case side2 => exact HC0_0.out); (case side3 => repeat (first | exact (Kd.C_below HR0_1.out HB.out) | (with_reducible refine Kd.C_alloc ?_ _) | (with_reducible refine Kd.C_drewN ?_ _) | (with_reducible refine Kd.C_drew ?_))); (case side4 => exact HC0_1.out); rintro e w165 ⟨rfl, hb⟩; refine ⟨_, rfl, ?_⟩; have n0_ := Aside0.mk (Kd.R_below (by (with_reducible repeat (first | apply Kd.R_alloc | apply Kd.R_drewN | apply Kd.R_drew)); exact HO244.out) hb); have n1_ := Aside0.mk (Kd.R_below (by (with_reducible repeat (first | apply Kd.R_alloc | apply Kd.R_drewN | apply Kd.R_drew)); exact HO247.out) hb); have n2_ := Aside0.mk (blk_below (g := gb232) (o := .cells #[.slice A0_0 l0_0.length c0_0, .slice A0_1 l0_1.length c0_1] 32 (0, 0)) (by (with_reducible repeat (first | refine blk_drewN ?_ _ | refine blk_drew ?_ | refine blk_alloc ?_ _)); exact BK232.out) hb); have n3_ := Aside0.mk (blk_below (g := gb233) (o := .cells #[.slice A1_0 l1_0.length c1_0, .slice A1_1 l1_1.length c1_1] 32 (0, 0)) (by (with_reducible repeat (first | refine blk_drewN ?_ _ | refine blk_drew ?_ | refine blk_alloc ?_ _)); exact BK233.out) hb); have n4_ := Aside0.mk (blk_below (g := gb249) (o := .cells #[.slice Ao157 t242.length co157, .slice Ao161 t245.length co161] 32 (0, 0)) (by (with_reducible repeat (first | refine blk_drewN ?_ _ | refine blk_drew ?_ | refine blk_alloc ?_ _)); exact BK249.out) hb); have n5_ := Aside0.mk (below_step (by repeat (first | (with_reducible first | exact HB.out | apply below_alloc | apply pw_below_drewN | apply below_drew1 | refine below_set ?_ GE232.out | refine below_set ?_ GE233.out | refine below_set ?_ GE249.out) | exact HB.out)) hb); clear HO244; clear HO247; clear BK232; clear BK233; clear BK249; clear HB; have HO244 := n0_; have HO247 := n1_; have BK232 := n2_; have BK233 := n3_; have BK249 := n4_; have HB := n5_; clear n0_ n1_ n2_ n3_ n4_ n5_; (try clear hb); (try clear hb2); (try clear hk); (try clear hi); have hcz166_0 : w165.cell? ⟨gb232, 0, none⟩ = some (.slice A0_0 l0_0.length c0_0) := (blk_cell BK232.out 0).trans rfl; have hcz166_1 : w165.cell? ⟨gb232, 1, none⟩ = some (.slice A0_1 l0_1.length c0_1) := (blk_cell BK232.out 1).trans rfl; have hfz166_0 := blk_frozen BK232.out 0; have hfz166_1 := blk_frozen BK232.out 1) | ((with_reducible refine gate_callee (f := 64) rfl ?_); refine goesL_ (some 55) rfl rfl Try.func64 (by kernel_rfl) rfl #[.agg #[.slice A0_0 l0_0.length c0_0, .slice A0_1 l0_1.length c0_1]] rfl (by (try simp only [List.map_toArray, List.map_cons, List.map_nil]); first | done | rfl | (simp only [List.length_drop, List.length_take]; rfl)) ?_; (with_reducible refine (box_Right.calls _ _ l0_0 _ _ l0_1 t253 _ ?side1 ?side2 ?side3 ?side4 A21.out).mono ?_); (case side1 => repeat (first | exact (Kd.C_below HR0_0.out HB.out) | (with_reducible refine Kd.C_alloc ?_ _) | (with_reducible refine Kd.C_drewN ?_ _) | (with_reducible refine Kd.C_drew ?_))); (case side2 => exact HC0_0.out); (case side3 => repeat (first | exact (Kd.C_below HR0_1.out HB.out) | (with_reducible refine Kd.C_alloc ?_ _) | (with_reducible refine Kd.C_drewN ?_ _) | (with_reducible refine Kd.C_drew ?_))); (case side4 => exact HC0_1.out); rintro e w167 ⟨rfl, hb⟩; refine ⟨_, rfl, ?_⟩; have n0_ := Aside0.mk (Kd.R_below (by (with_reducible repeat (first | apply Kd.R_alloc | apply Kd.R_drewN | apply Kd.R_drew)); exact HO244.out) hb); have n1_ := Aside0.mk (Kd.R_below (by (with_reducible repeat (first | apply Kd.R_alloc | apply Kd.R_drewN | apply Kd.R_drew)); exact HO247.out) hb); have n2_ := Aside0.mk (blk_below (g := gb232) (o := .cells #[.slice A0_0 l0_0.length c0_0, .slice A0_1 l0_1.length c0_1] 32 (0, 0)) (by (with_reducible repeat (first | refine blk_drewN ?_ _ | refine blk_drew ?_ | refine blk_alloc ?_ _)); exact BK232.out) hb); have n3_ := Aside0.mk (blk_below (g := gb233) (o := .cells #[.slice A1_0 l1_0.length c1_0, .slice A1_1 l1_1.length c1_1] 32 (0, 0)) (by (with_reducible repeat (first | refine blk_drewN ?_ _ | refine blk_drew ?_ | refine blk_alloc ?_ _)); exact BK233.out) hb); have n4_ := Aside0.mk (blk_below (g := gb249) (o := .cells #[.slice Ao157 t242.length co157, .slice Ao161 t245.length co161] 32 (0, 0)) (by (with_reducible repeat (first | refine blk_drewN ?_ _ | refine blk_drew ?_ | refine blk_alloc ?_ _)); exact BK249.out) hb); have n5_ := Aside0.mk (below_step (by repeat (first | (with_reducible first | exact HB.out | apply below_alloc | apply pw_below_drewN | apply below_drew1 | refine below_set ?_ GE232.out | refine below_set ?_ GE233.out | refine below_set ?_ GE249.out) | exact HB.out)) hb); clear HO244; clear HO247; clear BK232; clear BK233; clear BK249; clear HB; have HO244 := n0_; have HO247 := n1_; have BK232 := n2_; have BK233 := n3_; have BK249 := n4_; have HB := n5_; clear n0_ n1_ n2_ n3_ n4_ n5_; (try clear hb); (try clear hb2); (try clear hk); (try clear hi); have hcz168_0 : w167.cell? ⟨gb249, 0, none⟩ = some (.slice Ao157 t242.length co157) := (blk_cell BK249.out 0).trans rfl; have hcz168_1 : w167.cell? ⟨gb249, 1, none⟩ = some (.slice Ao161 t245.length co161) := (blk_cell BK249.out 1).trans rfl; have hfz168_0 := blk_frozen BK249.out 0; have hfz168_1 := blk_frozen BK249.out 1))
                            go_ret
                            exact ⟨by first | rfl | (simp [errW_none, errW_some] <;> rfl) | (simp [*, errW_none, errW_some] <;> rfl), by repeat (first | (with_reducible first | exact HB.out | apply below_alloc | apply pw_below_drewN | apply below_drew1 | refine below_set ?_ GE232.out | refine below_set ?_ GE233.out | refine below_set ?_ GE249.out) | exact HB.out)⟩
                          · rw [if_neg c139] at H
                            have c139b0 : (t250 == 0) = false := beq_eq_false_iff_ne.mpr c139
                            have c139b1 : (t250 != 0) = true := bne_iff_ne.mpr c139
                            exact Bool.noConfusion ((Option.some.inj H).trans HRT.out)
                        · rw [if_neg c138] at H
                          have c138b0 : (t248 == 2) = false := beq_eq_false_iff_ne.mpr c138
                          have c138b1 : (t248 != 2) = true := bne_iff_ne.mpr c138
                          exact Bool.noConfusion ((Option.some.inj H).trans HRT.out)
                      · rw [if_neg c137] at H
                        have c137b0 : ((t242.length : Int) == 0) = false := beq_eq_false_iff_ne.mpr c137
                        have c137b1 : ((t242.length : Int) != 0) = true := bne_iff_ne.mpr c137
                        have c137b2 : ¬ (t242 = []) := fun h_ => c137 (by rw [h_]; rfl)
                        exact Bool.noConfusion ((Option.some.inj H).trans HRT.out)
                    · rw [if_neg c136] at H
                      have c136b0 : (t241 == 2) = false := beq_eq_false_iff_ne.mpr c136
                      have c136b1 : (t241 != 2) = true := bne_iff_ne.mpr c136
                      exact Bool.noConfusion ((Option.some.inj H).trans HRT.out)
                · rw [if_neg c134] at H
                  have c134b0 : (t239 == 2) = false := beq_eq_false_iff_ne.mpr c134
                  have c134b1 : (t239 != 2) = true := bne_iff_ne.mpr c134
                  exact Bool.noConfusion ((Option.some.inj H).trans HRT.out)
              · rw [if_neg c133] at H
                have c133b0 : (t238 == 0) = false := beq_eq_false_iff_ne.mpr c133
                have c133b1 : (t238 != 0) = true := bne_iff_ne.mpr c133
                exact Bool.noConfusion ((Option.some.inj H).trans HRT.out)
            · rw [if_neg c132] at H
              have c132b0 : (t237 == 2) = false := beq_eq_false_iff_ne.mpr c132
              have c132b1 : (t237 != 2) = true := bne_iff_ne.mpr c132
              exact Bool.noConfusion ((Option.some.inj H).trans HRT.out)
  · replace c5 := Bool.eq_false_iff.mpr c5
    subst c5
    have H1 : (some false) = some r := by rw [if_neg (show ¬ (false = true) by decide)] at H; exact H
    clear H
    have H := H1
    clear H1
    exact Bool.noConfusion ((Option.some.inj H).trans HRT.out)

/-- THE ONE PURE STATEMENT of pantilelaw03_BoxTells: yours. -/
def pantilelaw03_BoxTells.Pure : Prop := ∀ (l0_0 : List Int) (l0_1 : List Int) (l1_0 : List Int) (l1_1 : List Int) (l2 : List Int), l0_0.length ≤ maxLen → l0_0.length * 8 ≤ 140737488351232 → (∀ x ∈ l0_0, (Lit.int .u64 x).wf = true) → l0_1.length ≤ maxLen → l0_1.length * 8 ≤ 140737488351232 → (∀ x ∈ l0_1, (Lit.int .u64 x).wf = true) → l1_0.length ≤ maxLen → l1_0.length * 8 ≤ 140737488351232 → (∀ x ∈ l1_0, (Lit.int .u64 x).wf = true) → l1_1.length ≤ maxLen → l1_1.length * 8 ≤ 140737488351232 → (∀ x ∈ l1_1, (Lit.int .u64 x).wf = true) → l2.length ≤ maxLen → l2.length * 8 ≤ 140737488351232 → (∀ x ∈ l2, (Lit.int .u64 x).wf = true) → ∃ k, pantilelaw03_BoxTells.f k l0_0 l0_1 l1_0 l1_1 l2 = some true
theorem pantilelaw03_BoxTells.walk (P : pantilelaw03_BoxTells.Pure) (a0_0 : Option Addr) (len0_0 cap0_0 : Nat) (z0_0 : List Int) (a0_1 : Option Addr) (len0_1 cap0_1 : Nat) (z0_1 : List Int) (a1_0 : Option Addr) (len1_0 cap1_0 : Nat) (z1_0 : List Int) (a1_1 : Option Addr) (len1_1 cap1_1 : Nat) (z1_1 : List Int) (a2 : Option Addr) (len2 cap2 : Nat) (z2 : List Int) (w : World) (w0_0 : (a0_0 = none ∧ len0_0 = 0 ∧ cap0_0 = 0 ∧ z0_0 = []) ∨ ∃ x, a0_0 = some x ∧ len0_0 ≤ cap0_0 ∧ cap0_0 ≤ maxLen ∧ z0_0.length = cap0_0 ∧ (∀ i, i < z0_0.length → w.cell? (x.add i) = some (.int .u64 (z0_0.getD i 0))) ∧ ∀ n ∈ z0_0, (Lit.int .u64 n).wf = true) (y0_0 : len0_0 * 8 ≤ 140737488351232) (w0_1 : (a0_1 = none ∧ len0_1 = 0 ∧ cap0_1 = 0 ∧ z0_1 = []) ∨ ∃ x, a0_1 = some x ∧ len0_1 ≤ cap0_1 ∧ cap0_1 ≤ maxLen ∧ z0_1.length = cap0_1 ∧ (∀ i, i < z0_1.length → w.cell? (x.add i) = some (.int .u64 (z0_1.getD i 0))) ∧ ∀ n ∈ z0_1, (Lit.int .u64 n).wf = true) (y0_1 : len0_1 * 8 ≤ 140737488351232) (w1_0 : (a1_0 = none ∧ len1_0 = 0 ∧ cap1_0 = 0 ∧ z1_0 = []) ∨ ∃ x, a1_0 = some x ∧ len1_0 ≤ cap1_0 ∧ cap1_0 ≤ maxLen ∧ z1_0.length = cap1_0 ∧ (∀ i, i < z1_0.length → w.cell? (x.add i) = some (.int .u64 (z1_0.getD i 0))) ∧ ∀ n ∈ z1_0, (Lit.int .u64 n).wf = true) (y1_0 : len1_0 * 8 ≤ 140737488351232) (w1_1 : (a1_1 = none ∧ len1_1 = 0 ∧ cap1_1 = 0 ∧ z1_1 = []) ∨ ∃ x, a1_1 = some x ∧ len1_1 ≤ cap1_1 ∧ cap1_1 ≤ maxLen ∧ z1_1.length = cap1_1 ∧ (∀ i, i < z1_1.length → w.cell? (x.add i) = some (.int .u64 (z1_1.getD i 0))) ∧ ∀ n ∈ z1_1, (Lit.int .u64 n).wf = true) (y1_1 : len1_1 * 8 ≤ 140737488351232) (w2 : (a2 = none ∧ len2 = 0 ∧ cap2 = 0 ∧ z2 = []) ∨ ∃ x, a2 = some x ∧ len2 ≤ cap2 ∧ cap2 ≤ maxLen ∧ z2.length = cap2 ∧ (∀ i, i < z2.length → w.cell? (x.add i) = some (.int .u64 (z2.getD i 0))) ∧ ∀ n ∈ z2, (Lit.int .u64 n).wf = true) (y2 : len2 * 8 ≤ 140737488351232) :
    Calls Try.prog 13 #[.agg #[.slice a0_0 len0_0 cap0_0, .slice a0_1 len0_1 cap0_1], .agg #[.slice a1_0 len1_0 cap1_0, .slice a1_1 len1_1 cap1_1], .slice a2 len2 cap2] w fun e w' => e = .returned (.bool true) ∧ Below w.heap.size w w' := by
  obtain ⟨l0_0, rfl, hr0_0, hm0_0, hw0_0, hc0_0⟩ := ReadsInt.ofRowC w0_0
  obtain ⟨l0_1, rfl, hr0_1, hm0_1, hw0_1, hc0_1⟩ := ReadsInt.ofRowC w0_1
  obtain ⟨l1_0, rfl, hr1_0, hm1_0, hw1_0, hc1_0⟩ := ReadsInt.ofRowC w1_0
  obtain ⟨l1_1, rfl, hr1_1, hm1_1, hw1_1, hc1_1⟩ := ReadsInt.ofRowC w1_1
  obtain ⟨l2, rfl, hr2, hm2, hw2, hc2⟩ := ReadsInt.ofRowC w2
  obtain ⟨k, h⟩ := P l0_0 l0_1 l1_0 l1_1 l2 hm0_0 y0_0 hw0_0 hm0_1 y0_1 hw0_1 hm1_0 y1_0 hw1_0 hm1_1 y1_1 hw1_1 hm2 y2 hw2
  refine (pantilelaw03_BoxTells.calls k _ _ l0_0 _ _ l0_1 _ _ l1_0 _ _ l1_1 _ _ l2 true w (Kd.C_of_reads (d := (0 : Int)) (h1 := fun _ => rfl) hr0_0) hc0_0 (Kd.C_of_reads (d := (0 : Int)) (h1 := fun _ => rfl) hr0_1) hc0_1 (Kd.C_of_reads (d := (0 : Int)) (h1 := fun _ => rfl) hr1_0) hc1_0 (Kd.C_of_reads (d := (0 : Int)) (h1 := fun _ => rfl) hr1_1) hc1_1 (Kd.C_of_reads (d := (0 : Int)) (h1 := fun _ => rfl) hr2) hc2 rfl h).mono ?_
  rintro e w' ⟨rfl, hd⟩
  exact ⟨rfl, hd⟩

end Go.Proofs.Ythdphjbecibeaaa.PBoxTells
