-- Written by wip/tools/print2.py, a program of this session, over the kit's print of the program. Lean checks it.
import Derived.Test.YthdphjbecibeaaaPZbitsAddrx0
import Derived.Test.YthdphjbecibeaaaPZbitsAddrx1
import Derived.Test.YthdphjbecibeaaaPZbitsAddrx2
import Derived.Test.YthdphjbecibeaaaPZbitsAddrx3
import Derived.Test.YthdphjbecibeaaaPZbitsAddrx4
namespace Go.Proofs.Ythdphjbecibeaaa.PZbitsAddr
open Go.RowKit Go.Proofs.YthdphjbecibeaaaW.PrintWords Go.Proofs.YthdphjbecibeaaaW.PrintLast Go.Proofs.YthdphjbecibeaaaW.PrintMore
attribute [local go_sem] max2_int min2_int max_two min_two max_three min_three max_four min_four   -- for this text's walks alone
set_option linter.unusedVariables false
set_option linter.unusedSimpArgs false

/-! ### pantilelaw01_ZbitsAddr: function 7 -/
mutual
def pantilelaw01_ZbitsAddr.j0 : Nat → List Int → Int → Int → Int → Int → List Int → Int → List Int → Int → Bool → Option (Bool)
  | 0, _, _, _, _, _, _, _, _, _, _ => none
  | k + 1, x0, x1, x2, x8, x9, x10, x11, x12, x13, x53 => if x53 = true then (some false) else ((pantileref01_Right.f x0).bind fun t198 => (if t198 = true then (if x1 < (-1) then (pantilelaw01_ZbitsAddr.j1 k x0 x1 x2 x8 x9 x10 x11 x12 x13 true) else (pantilelaw01_ZbitsAddr.j1 k x0 x1 x2 x8 x9 x10 x11 x12 x13 (decide (x1 > 63)))) else (if x8 = 0 then (if x9 = 2 then (if (x10.length : Int) = 0 then (if x11 = 2 then (if (x12.length : Int) = 0 then (some (x13 == 2)) else (some false)) else (some false)) else (some false)) else (some false)) else (some false))))
def pantilelaw01_ZbitsAddr.j1 : Nat → List Int → Int → Int → Int → Int → List Int → Int → List Int → Int → Bool → Option (Bool)
  | 0, _, _, _, _, _, _, _, _, _, _ => none
  | k + 1, x0, x1, x2, x8, x9, x10, x11, x12, x13, x86 => if x86 = true then (if x8 = 0 then (if x9 = 3 then (if (x10.length : Int) = 0 then (if x11 = 3 then (if (x12.length : Int) = 0 then (some (x13 == 3)) else (some false)) else (some false)) else (some false)) else (some false)) else (some false)) else (if x11 = 0 then ((pantileref01_Cut.f k x0 x1).bind fun t199 => ((pantileref01_Same.f k x10 t199).bind fun t202 => (pantilelaw01_ZbitsAddr.j2 k x0 x1 x2 x8 x9 x12 x13 (!t202)))) else (pantilelaw01_ZbitsAddr.j2 k x0 x1 x2 x8 x9 x12 x13 true))
def pantilelaw01_ZbitsAddr.j2 : Nat → List Int → Int → Int → Int → Int → List Int → Int → Bool → Option (Bool)
  | 0, _, _, _, _, _, _, _, _ => none
  | k + 1, x0, x1, x2, x8, x9, x12, x13, x120 => if x120 = true then (some false) else (if x1 = (-1) then (if x8 = 0 then (if x9 = 3 then (if (x12.length : Int) = 0 then (some (x13 == 3)) else (some false)) else (some false)) else (some false)) else (if x9 = 0 then ((pantileref01_Addr.f k x0 x1).bind fun t203 => (pantilelaw01_ZbitsAddr.j3 k x0 x1 x2 x12 x13 (x8 != t203))) else (pantilelaw01_ZbitsAddr.j3 k x0 x1 x2 x12 x13 true)))
def pantilelaw01_ZbitsAddr.j3 : Nat → List Int → Int → Int → List Int → Int → Bool → Option (Bool)
  | 0, _, _, _, _, _, _ => none
  | k + 1, x0, x1, x2, x12, x13, x146 => if x146 = true then (some false) else (if x2 < 0 then (pantilelaw01_ZbitsAddr.j4 k x0 x1 x2 x12 x13 true) else ((pantileref01_Power.f k (x0.length : Int)).bind fun t204 => (pantilelaw01_ZbitsAddr.j4 k x0 x1 x2 x12 x13 (decide (x2 ≥ (wrap64 (t204)))))))
def pantilelaw01_ZbitsAddr.j4 : Nat → List Int → Int → Int → List Int → Int → Bool → Option (Bool)
  | 0, _, _, _, _, _, _ => none
  | k + 1, x0, x1, x2, x12, x13, x156 => if x156 = true then (if (x12.length : Int) = 0 then (some (x13 == 3)) else (some false)) else ((zbits_Addr.f k x12 x1).bind fun bt205 => (if x13 = 0 then ((pantileref01_Place.f k x0 x1 x2).bind fun t207 => ((pantileref01_Same.f k x12 t207).bind fun t210 => (if t210 = true then (if bt205.1 = x2 then (some (bt205.2 == 0)) else (some false)) else (some false)))) else (some false)))
end
def pantilelaw01_ZbitsAddr.f (k : Nat) (l0 : List Int) (a1 : Int) (a2 : Int) : Option (Bool) := (pantilelaw01_awake.f k).bind fun t178 => (if t178 = true then (if (l0.length : Int) > 40 then (some true) else ((some (([] : List Int) : List Int)).bind fun y179 => (if y179.length + l0.length < 17592186044416 then ((some (y179 ++ l0 : List Int)).bind fun y182 => ((zbits_Addr.f k y182 a1).bind fun bt185 => ((zbits_Cut.f k y182 a1).bind fun bt187 => ((zbits_Place.f k y182 a1 a2).bind fun bt191 => ((zbits_Right.f l0).bind fun t195 => ((pantileref01_Right.f l0).bind fun t196 => (if (t195 != t196) = true then (pantilelaw01_ZbitsAddr.j0 k l0 a1 a2 bt185.1 bt185.2 bt187.1 bt187.2 bt191.1 bt191.2 true) else ((pantileref01_Same.f k y182 l0).bind fun t197 => (pantilelaw01_ZbitsAddr.j0 k l0 a1 a2 bt185.1 bt185.2 bt187.1 bt187.2 bt191.1 bt191.2 (!t197)))))))))) else (none)))) else (some false))
theorem pantilelaw01_ZbitsAddr.mono_l : ∀ k, (∀ y0 y1 y2 y3 y4 y5 y6 y7 y8 y9, LeO (pantilelaw01_ZbitsAddr.j0 k y0 y1 y2 y3 y4 y5 y6 y7 y8 y9) (pantilelaw01_ZbitsAddr.j0 (k + 1) y0 y1 y2 y3 y4 y5 y6 y7 y8 y9)) ∧ (∀ y0 y1 y2 y3 y4 y5 y6 y7 y8 y9, LeO (pantilelaw01_ZbitsAddr.j1 k y0 y1 y2 y3 y4 y5 y6 y7 y8 y9) (pantilelaw01_ZbitsAddr.j1 (k + 1) y0 y1 y2 y3 y4 y5 y6 y7 y8 y9)) ∧ (∀ y0 y1 y2 y3 y4 y5 y6 y7, LeO (pantilelaw01_ZbitsAddr.j2 k y0 y1 y2 y3 y4 y5 y6 y7) (pantilelaw01_ZbitsAddr.j2 (k + 1) y0 y1 y2 y3 y4 y5 y6 y7)) ∧ (∀ y0 y1 y2 y3 y4 y5, LeO (pantilelaw01_ZbitsAddr.j3 k y0 y1 y2 y3 y4 y5) (pantilelaw01_ZbitsAddr.j3 (k + 1) y0 y1 y2 y3 y4 y5)) ∧ (∀ y0 y1 y2 y3 y4 y5, LeO (pantilelaw01_ZbitsAddr.j4 k y0 y1 y2 y3 y4 y5) (pantilelaw01_ZbitsAddr.j4 (k + 1) y0 y1 y2 y3 y4 y5))
  | 0 => ⟨fun _ _ _ _ _ _ _ _ _ _ r h => by simp [pantilelaw01_ZbitsAddr.j0] at h, fun _ _ _ _ _ _ _ _ _ _ r h => by simp [pantilelaw01_ZbitsAddr.j1] at h, fun _ _ _ _ _ _ _ _ r h => by simp [pantilelaw01_ZbitsAddr.j2] at h, fun _ _ _ _ _ _ r h => by simp [pantilelaw01_ZbitsAddr.j3] at h, fun _ _ _ _ _ _ r h => by simp [pantilelaw01_ZbitsAddr.j4] at h⟩
  | k + 1 => by
    obtain ⟨ih0, ih1, ih2, ih3, ih4⟩ := pantilelaw01_ZbitsAddr.mono_l k
    refine ⟨?_, ?_, ?_, ?_, ?_⟩
    · intro y0 y1 y2 y3 y4 y5 y6 y7 y8 y9
      unfold pantilelaw01_ZbitsAddr.j0
      repeat' first
      | (with_reducible exact ih0 _ _ _ _ _ _ _ _ _ _)
      | (with_reducible exact ih1 _ _ _ _ _ _ _ _ _ _)
      | (with_reducible exact ih2 _ _ _ _ _ _ _ _)
      | (with_reducible exact ih3 _ _ _ _ _ _)
      | (with_reducible exact ih4 _ _ _ _ _ _)
      | (with_reducible exact pantilelaw01_awake.mono _)
      | (with_reducible exact pantileref01_Addr.mono _ _ _)
      | (with_reducible exact pantileref01_Cut.mono _ _ _)
      | (with_reducible exact pantileref01_Place.mono _ _ _ _)
      | (with_reducible exact pantileref01_Power.mono _ _)
      | (with_reducible exact pantileref01_Same.mono _ _ _)
      | (with_reducible exact zbits_Addr.mono _ _ _)
      | (with_reducible exact zbits_Cut.mono _ _ _)
      | (with_reducible exact zbits_Place.mono _ _ _ _)
      | (with_reducible exact LeO.refl _)
      | (with_reducible exact LeO.none _)
      | (with_reducible refine LeO.ite ?_ ?_)
      | (with_reducible refine LeO.bind ?_ (fun _ => ?_))
      | exact ih0 _ _ _ _ _ _ _ _ _ _
      | exact ih1 _ _ _ _ _ _ _ _ _ _
      | exact ih2 _ _ _ _ _ _ _ _
      | exact ih3 _ _ _ _ _ _
      | exact ih4 _ _ _ _ _ _
      | exact pantilelaw01_awake.mono _
      | exact pantileref01_Addr.mono _ _ _
      | exact pantileref01_Cut.mono _ _ _
      | exact pantileref01_Place.mono _ _ _ _
      | exact pantileref01_Power.mono _ _
      | exact pantileref01_Same.mono _ _ _
      | exact zbits_Addr.mono _ _ _
      | exact zbits_Cut.mono _ _ _
      | exact zbits_Place.mono _ _ _ _
      | exact LeO.none _
      | refine LeO.ite ?_ ?_
      | refine LeO.bind ?_ (fun _ => ?_)
    · intro y0 y1 y2 y3 y4 y5 y6 y7 y8 y9
      unfold pantilelaw01_ZbitsAddr.j1
      repeat' first
      | (with_reducible exact ih0 _ _ _ _ _ _ _ _ _ _)
      | (with_reducible exact ih1 _ _ _ _ _ _ _ _ _ _)
      | (with_reducible exact ih2 _ _ _ _ _ _ _ _)
      | (with_reducible exact ih3 _ _ _ _ _ _)
      | (with_reducible exact ih4 _ _ _ _ _ _)
      | (with_reducible exact pantilelaw01_awake.mono _)
      | (with_reducible exact pantileref01_Addr.mono _ _ _)
      | (with_reducible exact pantileref01_Cut.mono _ _ _)
      | (with_reducible exact pantileref01_Place.mono _ _ _ _)
      | (with_reducible exact pantileref01_Power.mono _ _)
      | (with_reducible exact pantileref01_Same.mono _ _ _)
      | (with_reducible exact zbits_Addr.mono _ _ _)
      | (with_reducible exact zbits_Cut.mono _ _ _)
      | (with_reducible exact zbits_Place.mono _ _ _ _)
      | (with_reducible exact LeO.refl _)
      | (with_reducible exact LeO.none _)
      | (with_reducible refine LeO.ite ?_ ?_)
      | (with_reducible refine LeO.bind ?_ (fun _ => ?_))
      | exact ih0 _ _ _ _ _ _ _ _ _ _
      | exact ih1 _ _ _ _ _ _ _ _ _ _
      | exact ih2 _ _ _ _ _ _ _ _
      | exact ih3 _ _ _ _ _ _
      | exact ih4 _ _ _ _ _ _
      | exact pantilelaw01_awake.mono _
      | exact pantileref01_Addr.mono _ _ _
      | exact pantileref01_Cut.mono _ _ _
      | exact pantileref01_Place.mono _ _ _ _
      | exact pantileref01_Power.mono _ _
      | exact pantileref01_Same.mono _ _ _
      | exact zbits_Addr.mono _ _ _
      | exact zbits_Cut.mono _ _ _
      | exact zbits_Place.mono _ _ _ _
      | exact LeO.none _
      | refine LeO.ite ?_ ?_
      | refine LeO.bind ?_ (fun _ => ?_)
    · intro y0 y1 y2 y3 y4 y5 y6 y7
      unfold pantilelaw01_ZbitsAddr.j2
      repeat' first
      | (with_reducible exact ih0 _ _ _ _ _ _ _ _ _ _)
      | (with_reducible exact ih1 _ _ _ _ _ _ _ _ _ _)
      | (with_reducible exact ih2 _ _ _ _ _ _ _ _)
      | (with_reducible exact ih3 _ _ _ _ _ _)
      | (with_reducible exact ih4 _ _ _ _ _ _)
      | (with_reducible exact pantilelaw01_awake.mono _)
      | (with_reducible exact pantileref01_Addr.mono _ _ _)
      | (with_reducible exact pantileref01_Cut.mono _ _ _)
      | (with_reducible exact pantileref01_Place.mono _ _ _ _)
      | (with_reducible exact pantileref01_Power.mono _ _)
      | (with_reducible exact pantileref01_Same.mono _ _ _)
      | (with_reducible exact zbits_Addr.mono _ _ _)
      | (with_reducible exact zbits_Cut.mono _ _ _)
      | (with_reducible exact zbits_Place.mono _ _ _ _)
      | (with_reducible exact LeO.refl _)
      | (with_reducible exact LeO.none _)
      | (with_reducible refine LeO.ite ?_ ?_)
      | (with_reducible refine LeO.bind ?_ (fun _ => ?_))
      | exact ih0 _ _ _ _ _ _ _ _ _ _
      | exact ih1 _ _ _ _ _ _ _ _ _ _
      | exact ih2 _ _ _ _ _ _ _ _
      | exact ih3 _ _ _ _ _ _
      | exact ih4 _ _ _ _ _ _
      | exact pantilelaw01_awake.mono _
      | exact pantileref01_Addr.mono _ _ _
      | exact pantileref01_Cut.mono _ _ _
      | exact pantileref01_Place.mono _ _ _ _
      | exact pantileref01_Power.mono _ _
      | exact pantileref01_Same.mono _ _ _
      | exact zbits_Addr.mono _ _ _
      | exact zbits_Cut.mono _ _ _
      | exact zbits_Place.mono _ _ _ _
      | exact LeO.none _
      | refine LeO.ite ?_ ?_
      | refine LeO.bind ?_ (fun _ => ?_)
    · intro y0 y1 y2 y3 y4 y5
      unfold pantilelaw01_ZbitsAddr.j3
      repeat' first
      | (with_reducible exact ih0 _ _ _ _ _ _ _ _ _ _)
      | (with_reducible exact ih1 _ _ _ _ _ _ _ _ _ _)
      | (with_reducible exact ih2 _ _ _ _ _ _ _ _)
      | (with_reducible exact ih3 _ _ _ _ _ _)
      | (with_reducible exact ih4 _ _ _ _ _ _)
      | (with_reducible exact pantilelaw01_awake.mono _)
      | (with_reducible exact pantileref01_Addr.mono _ _ _)
      | (with_reducible exact pantileref01_Cut.mono _ _ _)
      | (with_reducible exact pantileref01_Place.mono _ _ _ _)
      | (with_reducible exact pantileref01_Power.mono _ _)
      | (with_reducible exact pantileref01_Same.mono _ _ _)
      | (with_reducible exact zbits_Addr.mono _ _ _)
      | (with_reducible exact zbits_Cut.mono _ _ _)
      | (with_reducible exact zbits_Place.mono _ _ _ _)
      | (with_reducible exact LeO.refl _)
      | (with_reducible exact LeO.none _)
      | (with_reducible refine LeO.ite ?_ ?_)
      | (with_reducible refine LeO.bind ?_ (fun _ => ?_))
      | exact ih0 _ _ _ _ _ _ _ _ _ _
      | exact ih1 _ _ _ _ _ _ _ _ _ _
      | exact ih2 _ _ _ _ _ _ _ _
      | exact ih3 _ _ _ _ _ _
      | exact ih4 _ _ _ _ _ _
      | exact pantilelaw01_awake.mono _
      | exact pantileref01_Addr.mono _ _ _
      | exact pantileref01_Cut.mono _ _ _
      | exact pantileref01_Place.mono _ _ _ _
      | exact pantileref01_Power.mono _ _
      | exact pantileref01_Same.mono _ _ _
      | exact zbits_Addr.mono _ _ _
      | exact zbits_Cut.mono _ _ _
      | exact zbits_Place.mono _ _ _ _
      | exact LeO.none _
      | refine LeO.ite ?_ ?_
      | refine LeO.bind ?_ (fun _ => ?_)
    · intro y0 y1 y2 y3 y4 y5
      unfold pantilelaw01_ZbitsAddr.j4
      repeat' first
      | (with_reducible exact ih0 _ _ _ _ _ _ _ _ _ _)
      | (with_reducible exact ih1 _ _ _ _ _ _ _ _ _ _)
      | (with_reducible exact ih2 _ _ _ _ _ _ _ _)
      | (with_reducible exact ih3 _ _ _ _ _ _)
      | (with_reducible exact ih4 _ _ _ _ _ _)
      | (with_reducible exact pantilelaw01_awake.mono _)
      | (with_reducible exact pantileref01_Addr.mono _ _ _)
      | (with_reducible exact pantileref01_Cut.mono _ _ _)
      | (with_reducible exact pantileref01_Place.mono _ _ _ _)
      | (with_reducible exact pantileref01_Power.mono _ _)
      | (with_reducible exact pantileref01_Same.mono _ _ _)
      | (with_reducible exact zbits_Addr.mono _ _ _)
      | (with_reducible exact zbits_Cut.mono _ _ _)
      | (with_reducible exact zbits_Place.mono _ _ _ _)
      | (with_reducible exact LeO.refl _)
      | (with_reducible exact LeO.none _)
      | (with_reducible refine LeO.ite ?_ ?_)
      | (with_reducible refine LeO.bind ?_ (fun _ => ?_))
      | exact ih0 _ _ _ _ _ _ _ _ _ _
      | exact ih1 _ _ _ _ _ _ _ _ _ _
      | exact ih2 _ _ _ _ _ _ _ _
      | exact ih3 _ _ _ _ _ _
      | exact ih4 _ _ _ _ _ _
      | exact pantilelaw01_awake.mono _
      | exact pantileref01_Addr.mono _ _ _
      | exact pantileref01_Cut.mono _ _ _
      | exact pantileref01_Place.mono _ _ _ _
      | exact pantileref01_Power.mono _ _
      | exact pantileref01_Same.mono _ _ _
      | exact zbits_Addr.mono _ _ _
      | exact zbits_Cut.mono _ _ _
      | exact zbits_Place.mono _ _ _ _
      | exact LeO.none _
      | refine LeO.ite ?_ ?_
      | refine LeO.bind ?_ (fun _ => ?_)
theorem pantilelaw01_ZbitsAddr.mono : ∀ a0 a1 a2 k, LeO (pantilelaw01_ZbitsAddr.f k a0 a1 a2) (pantilelaw01_ZbitsAddr.f (k + 1) a0 a1 a2) := by
  intro a0 a1 a2 k
  obtain ⟨ih0, ih1, ih2, ih3, ih4⟩ := pantilelaw01_ZbitsAddr.mono_l k
  unfold pantilelaw01_ZbitsAddr.f
  repeat' first
      | (with_reducible exact ih0 _ _ _ _ _ _ _ _ _ _)
      | (with_reducible exact ih1 _ _ _ _ _ _ _ _ _ _)
      | (with_reducible exact ih2 _ _ _ _ _ _ _ _)
      | (with_reducible exact ih3 _ _ _ _ _ _)
      | (with_reducible exact ih4 _ _ _ _ _ _)
      | (with_reducible exact pantilelaw01_awake.mono _)
      | (with_reducible exact pantileref01_Addr.mono _ _ _)
      | (with_reducible exact pantileref01_Cut.mono _ _ _)
      | (with_reducible exact pantileref01_Place.mono _ _ _ _)
      | (with_reducible exact pantileref01_Power.mono _ _)
      | (with_reducible exact pantileref01_Same.mono _ _ _)
      | (with_reducible exact zbits_Addr.mono _ _ _)
      | (with_reducible exact zbits_Cut.mono _ _ _)
      | (with_reducible exact zbits_Place.mono _ _ _ _)
      | (with_reducible exact LeO.refl _)
      | (with_reducible exact LeO.none _)
      | (with_reducible refine LeO.ite ?_ ?_)
      | (with_reducible refine LeO.bind ?_ (fun _ => ?_))
      | exact ih0 _ _ _ _ _ _ _ _ _ _
      | exact ih1 _ _ _ _ _ _ _ _ _ _
      | exact ih2 _ _ _ _ _ _ _ _
      | exact ih3 _ _ _ _ _ _
      | exact ih4 _ _ _ _ _ _
      | exact pantilelaw01_awake.mono _
      | exact pantileref01_Addr.mono _ _ _
      | exact pantileref01_Cut.mono _ _ _
      | exact pantileref01_Place.mono _ _ _ _
      | exact pantileref01_Power.mono _ _
      | exact pantileref01_Same.mono _ _ _
      | exact zbits_Addr.mono _ _ _
      | exact zbits_Cut.mono _ _ _
      | exact zbits_Place.mono _ _ _ _
      | exact LeO.none _
      | refine LeO.ite ?_ ?_
      | refine LeO.bind ?_ (fun _ => ?_)
set_option maxHeartbeats 8000000 in
set_option maxRecDepth 100000 in
theorem pantilelaw01_ZbitsAddr.calls (k : Nat) (A0 : Option Addr) (c0 : Nat) (l0 : List Int) (a1 : Int) (a2 : Int) (r : Bool) (w : World) (hr0 : Kd.C (Kd.int .u64) w A0 l0.length l0) (hc0 : l0.length ≤ c0) (h : pantilelaw01_ZbitsAddr.f k l0 a1 a2 = some r) :
    Calls Try.prog 7 #[.slice A0 l0.length c0, .int .i64 a1, .int .i64 a2] w fun e w' => e = .returned (.bool r) ∧ Below w.heap.size w w' := by
  have HR0 := Aside0.mk hr0
  have HC0 := Aside0.mk hc0
  clear hr0 hc0
  have HB := Aside0.mk (Below.refl w.heap.size w)
  have H : ((pantilelaw01_awake.f k).bind fun t178 => (if t178 = true then (if (l0.length : Int) > 40 then (some true) else ((some (([] : List Int) : List Int)).bind fun y179 => (if y179.length + l0.length < 17592186044416 then ((some (y179 ++ l0 : List Int)).bind fun y182 => ((zbits_Addr.f k y182 a1).bind fun bt185 => ((zbits_Cut.f k y182 a1).bind fun bt187 => ((zbits_Place.f k y182 a1 a2).bind fun bt191 => ((zbits_Right.f l0).bind fun t195 => ((pantileref01_Right.f l0).bind fun t196 => (if (t195 != t196) = true then (pantilelaw01_ZbitsAddr.j0 k l0 a1 a2 bt185.1 bt185.2 bt187.1 bt187.2 bt191.1 bt191.2 true) else ((pantileref01_Same.f k y182 l0).bind fun t197 => (pantilelaw01_ZbitsAddr.j0 k l0 a1 a2 bt185.1 bt185.2 bt187.1 bt187.2 bt191.1 bt191.2 (!t197)))))))))) else (none)))) else (some false))) = some r := h
  clear h
  replace H := Option.bind_eq_some_iff.mp H
  obtain ⟨t178, A40, H⟩ := H
  replace H : (if t178 = true then (if (l0.length : Int) > 40 then (some true) else ((some (([] : List Int) : List Int)).bind fun y179 => (if y179.length + l0.length < 17592186044416 then ((some (y179 ++ l0 : List Int)).bind fun y182 => ((zbits_Addr.f k y182 a1).bind fun bt185 => ((zbits_Cut.f k y182 a1).bind fun bt187 => ((zbits_Place.f k y182 a1 a2).bind fun bt191 => ((zbits_Right.f l0).bind fun t195 => ((pantileref01_Right.f l0).bind fun t196 => (if (t195 != t196) = true then (pantilelaw01_ZbitsAddr.j0 k l0 a1 a2 bt185.1 bt185.2 bt187.1 bt187.2 bt191.1 bt191.2 true) else ((pantileref01_Same.f k y182 l0).bind fun t197 => (pantilelaw01_ZbitsAddr.j0 k l0 a1 a2 bt185.1 bt185.2 bt187.1 bt187.2 bt191.1 bt191.2 (!t197)))))))))) else (none)))) else (some false)) = some r := H
  have A4 := Aside0.mk A40
  clear A40
  by_cases c5 : t178 = true
  · subst c5
    have H1 : (if (l0.length : Int) > 40 then (some true) else ((some (([] : List Int) : List Int)).bind fun y179 => (if y179.length + l0.length < 17592186044416 then ((some (y179 ++ l0 : List Int)).bind fun y182 => ((zbits_Addr.f k y182 a1).bind fun bt185 => ((zbits_Cut.f k y182 a1).bind fun bt187 => ((zbits_Place.f k y182 a1 a2).bind fun bt191 => ((zbits_Right.f l0).bind fun t195 => ((pantileref01_Right.f l0).bind fun t196 => (if (t195 != t196) = true then (pantilelaw01_ZbitsAddr.j0 k l0 a1 a2 bt185.1 bt185.2 bt187.1 bt187.2 bt191.1 bt191.2 true) else ((pantileref01_Same.f k y182 l0).bind fun t197 => (pantilelaw01_ZbitsAddr.j0 k l0 a1 a2 bt185.1 bt185.2 bt187.1 bt187.2 bt191.1 bt191.2 (!t197)))))))))) else (none)))) = some r := by rw [if_pos rfl] at H; exact H
    clear H
    have H := H1
    clear H1
    by_cases c6 : (l0.length : Int) > 40
    · rw [if_pos c6] at H
      have c6b0 : decide (40 < (l0.length : Int)) = true := decide_eq_true c6
      have c6b1 : decide (40 < l0.length) = true := decide_eq_true (by omega)
      clear c6
      obtain rfl := Option.some.inj H
      go_enter Try.func7, Try.ntmps7
      go_wp2_with (first | ((with_reducible refine gate_callee (f := 17) rfl ?_); refine goesL_ (some 16) rfl rfl Try.func17 (by kernel_rfl) rfl #[] rfl (by (try simp only [List.map_toArray, List.map_cons, List.map_nil]); first | done | rfl | (simp only [List.length_drop, List.length_take]; rfl)) ?_; (with_reducible refine (pantilelaw01_awake.calls k  true _ A4.out).mono ?_); rintro e w7 ⟨rfl, hb⟩; refine ⟨_, rfl, ?_⟩; have n0_ := Aside0.mk (below_step (by repeat (first | (with_reducible first | exact HB.out | apply below_alloc | apply pw_below_drewN | apply below_drew1) | exact HB.out)) hb); clear HB; have HB := n0_; clear n0_; (try clear hb); (try clear hb2); (try clear hk); (try clear hi)))
      go_ret
      exact ⟨by first | rfl | (simp [errW_none, errW_some] <;> rfl) | (simp [*, errW_none, errW_some] <;> rfl), by repeat (first | (with_reducible first | exact HB.out | apply below_alloc | apply pw_below_drewN | apply below_drew1) | exact HB.out)⟩
    · rw [if_neg c6] at H
      have c6b0 : decide (40 < (l0.length : Int)) = false := decide_eq_false c6
      have c6b1 : decide (40 < l0.length) = false := decide_eq_false (by omega)
      clear c6
      obtain ⟨y179, hy179⟩ : ∃ y_ : List Int, y_ = (([] : List Int)) := ⟨_, rfl⟩
      replace H : (if y179.length + l0.length < 17592186044416 then ((some (y179 ++ l0 : List Int)).bind fun y182 => ((zbits_Addr.f k y182 a1).bind fun bt185 => ((zbits_Cut.f k y182 a1).bind fun bt187 => ((zbits_Place.f k y182 a1 a2).bind fun bt191 => ((zbits_Right.f l0).bind fun t195 => ((pantileref01_Right.f l0).bind fun t196 => (if (t195 != t196) = true then (pantilelaw01_ZbitsAddr.j0 k l0 a1 a2 bt185.1 bt185.2 bt187.1 bt187.2 bt191.1 bt191.2 true) else ((pantileref01_Same.f k y182 l0).bind fun t197 => (pantilelaw01_ZbitsAddr.j0 k l0 a1 a2 bt185.1 bt185.2 bt187.1 bt187.2 bt191.1 bt191.2 (!t197)))))))))) else (none)) = some r := by first | (rw [hy179]; with_reducible exact H) | (have H2_ := (Option.bind_some _ _).symm.trans H; rw [hy179]; with_reducible exact H2_) | (have H2_ := (Option.bind_some _ _).symm.trans H; with_reducible exact H2_) | with_reducible exact H | (rw [hy179]; exact H) | exact H
      have Ny179 := Aside0.mk hy179
      clear hy179
      by_cases c8 : y179.length + l0.length < 17592186044416
      · rw [if_pos c8] at H
        have LMc8 := Aside0.mk c8
        clear c8
        obtain ⟨y182, hy182⟩ : ∃ y_ : List Int, y_ = (y179 ++ l0) := ⟨_, rfl⟩
        replace H : ((zbits_Addr.f k y182 a1).bind fun bt185 => ((zbits_Cut.f k y182 a1).bind fun bt187 => ((zbits_Place.f k y182 a1 a2).bind fun bt191 => ((zbits_Right.f l0).bind fun t195 => ((pantileref01_Right.f l0).bind fun t196 => (if (t195 != t196) = true then (pantilelaw01_ZbitsAddr.j0 k l0 a1 a2 bt185.1 bt185.2 bt187.1 bt187.2 bt191.1 bt191.2 true) else ((pantileref01_Same.f k y182 l0).bind fun t197 => (pantilelaw01_ZbitsAddr.j0 k l0 a1 a2 bt185.1 bt185.2 bt187.1 bt187.2 bt191.1 bt191.2 (!t197))))))))) = some r := by first | (rw [hy182]; with_reducible exact H) | (have H2_ := (Option.bind_some _ _).symm.trans H; rw [hy182]; with_reducible exact H2_) | (have H2_ := (Option.bind_some _ _).symm.trans H; with_reducible exact H2_) | with_reducible exact H | (rw [hy182]; exact H) | exact H
        have Ny182 := Aside0.mk hy182
        clear hy182
        replace H := Option.bind_eq_some_iff.mp H
        obtain ⟨⟨t185, t186⟩, A90, H⟩ := H
        replace H : ((zbits_Cut.f k y182 a1).bind fun bt187 => ((zbits_Place.f k y182 a1 a2).bind fun bt191 => ((zbits_Right.f l0).bind fun t195 => ((pantileref01_Right.f l0).bind fun t196 => (if (t195 != t196) = true then (pantilelaw01_ZbitsAddr.j0 k l0 a1 a2 t185 t186 bt187.1 bt187.2 bt191.1 bt191.2 true) else ((pantileref01_Same.f k y182 l0).bind fun t197 => (pantilelaw01_ZbitsAddr.j0 k l0 a1 a2 t185 t186 bt187.1 bt187.2 bt191.1 bt191.2 (!t197)))))))) = some r := H
        have A9 := Aside0.mk A90
        clear A90
        replace H := Option.bind_eq_some_iff.mp H
        obtain ⟨⟨t187, t188⟩, A100, H⟩ := H
        replace H : ((zbits_Place.f k y182 a1 a2).bind fun bt191 => ((zbits_Right.f l0).bind fun t195 => ((pantileref01_Right.f l0).bind fun t196 => (if (t195 != t196) = true then (pantilelaw01_ZbitsAddr.j0 k l0 a1 a2 t185 t186 t187 t188 bt191.1 bt191.2 true) else ((pantileref01_Same.f k y182 l0).bind fun t197 => (pantilelaw01_ZbitsAddr.j0 k l0 a1 a2 t185 t186 t187 t188 bt191.1 bt191.2 (!t197))))))) = some r := H
        have A10 := Aside0.mk A100
        clear A100
        replace H := Option.bind_eq_some_iff.mp H
        obtain ⟨⟨t191, t192⟩, A110, H⟩ := H
        replace H : ((zbits_Right.f l0).bind fun t195 => ((pantileref01_Right.f l0).bind fun t196 => (if (t195 != t196) = true then (pantilelaw01_ZbitsAddr.j0 k l0 a1 a2 t185 t186 t187 t188 t191 t192 true) else ((pantileref01_Same.f k y182 l0).bind fun t197 => (pantilelaw01_ZbitsAddr.j0 k l0 a1 a2 t185 t186 t187 t188 t191 t192 (!t197)))))) = some r := H
        have A11 := Aside0.mk A110
        clear A110
        have HC12 := Aside0.mk H
        clear H
        go_enter Try.func7, Try.ntmps7
        go_upto_region 9 with (first | ((with_reducible refine gate_callee (f := 17) rfl ?_); refine goesL_ (some 16) rfl rfl Try.func17 (by kernel_rfl) rfl #[] rfl (by (try simp only [List.map_toArray, List.map_cons, List.map_nil]); first | done | rfl | (simp only [List.length_drop, List.length_take]; rfl)) ?_; (with_reducible refine (pantilelaw01_awake.calls k  true _ A4.out).mono ?_); rintro e w13 ⟨rfl, hb⟩; refine ⟨_, rfl, ?_⟩; have n0_ := Aside0.mk (below_step (by repeat (first | (with_reducible first | exact HB.out | apply below_alloc | apply pw_below_drewN | apply below_drew1) | exact HB.out)) hb); clear HB; have HB := n0_; clear n0_; (try clear hb); (try clear hb2); (try clear hk); (try clear hi)) | ((with_reducible refine gate_dst (N := 21) rfl ?_); (try (refine gate_guard (by rfl) ?_; dsimp only)); refine Kd.R_lit (Kd.int .u64) _ 30 ?hg (N := 21) ?hd (xs := ([] : List Int)) (inner := []) (ok := fun _ => True) (okp := fun _ => True) ?hr ?hp (fun _ hk => hk) trivial (Below.refl _ _) (Nat.le_refl _) (by simp) ?_; (case hd => rfl); (case hg => rfl); (case hr => first | (go_simp; done) | (go_simp; rfl)); (case hp => exact (Reps.none _ _)); intro v180 w14 ho15 hb hg_ hnew_; clear hg_ hnew_; (first | rw [← Ny179.out] at ho15 | (simp only [Int.reduceToNat] at ho15; rw [← Ny179.out] at ho15)); have n0_ := Aside0.mk (Kd.R_lower ho15 (below_size (by repeat (first | (with_reducible first | exact HB.out | apply below_alloc | apply pw_below_drewN | apply below_drew1) | exact HB.out)))); have n1_ := Aside0.mk (below_step (by repeat (first | (with_reducible first | exact HB.out | apply below_alloc | apply pw_below_drewN | apply below_drew1) | exact HB.out)) hb); clear HB; have HO181 := n0_; have HB := n1_; clear n0_ n1_; clear hb ho15) | ((with_reducible refine gate_builtin (b := .append) (xs := #[.tmp 21, .tmp 22]) rfl ?_); (try (refine gate_guard (by rfl) ?_; dsimp only)); at_builtin; refine Kd.R_append_rows (Kd.int .u64) (w0 := w) w.heap.size rfl (.tmp 21) (.tmp 22) 22 30 (.int .u64 0) 8 rfl Try.underlying22 info30 rfl (by decide) (by omega) v180 y179 l0 _ _ _ (fun _ => True) (fun _ => False) rfl rfl ?aO ?aR (fun _ _ h => h) (fun _ h => h.elim) ?aF ?aB ?aS ?aL ?_; (case aR => repeat (first | exact (Kd.C_below HR0.out HB.out) | (with_reducible refine Kd.C_alloc ?_ _) | (with_reducible refine Kd.C_drewN ?_ _) | (with_reducible refine Kd.C_drew ?_))); (case aB => exact (by repeat (first | (with_reducible first | exact HB.out | apply below_alloc | apply pw_below_drewN | apply below_drew1) | exact HB.out))); (case aF => exact (fun _ _ => trivial)); (case aO => exact (by (with_reducible repeat (first | apply Kd.R_alloc | apply Kd.R_drewN | apply Kd.R_drew)); exact HO181.out)); (case aS => exact (below_size (by repeat (first | (with_reducible first | exact HB.out | apply below_alloc | apply pw_below_drewN | apply below_drew1) | exact HB.out)))); (case aL => have := LMc8.out; omega); intro v183 w16 ho hb hg hat; rw [← Ny182.out] at ho; have n0_ := Aside0.mk (hb); have n1_ := Aside0.mk (ho); clear HB; clear HO181; have HB := n0_; have HO184 := n1_; clear n0_ n1_; clear ho hb hg hat; obtain ⟨Ao17, co17, eo17⟩ := Kd.R_slice HO184.out; subst eo17) | ((with_reducible refine gate_callee (f := 43) rfl ?_); refine goesL_ (some 27) rfl rfl Try.func43 (by kernel_rfl) rfl #[.slice Ao17 y182.length co17, .int .i64 a1] rfl (by (try simp only [List.map_toArray, List.map_cons, List.map_nil]); first | done | rfl | (simp only [List.length_drop, List.length_take]; rfl)) ?_; (with_reducible refine (zbits_Addr.calls k _ _ y182 a1 t185 t186 _ ?side1 ?side2 A9.out).mono ?_); (case side1 => repeat (first | exact (Kd.R_reads' HO184.out).2.2 | (with_reducible refine Kd.C_alloc ?_ _) | (with_reducible refine Kd.C_drewN ?_ _) | (with_reducible refine Kd.C_drew ?_))); (case side2 => exact (Kd.R_reads' HO184.out).2.1); rintro e w' ⟨rfl, ⟨nd, rfl⟩⟩; refine ⟨_, rfl, ?_⟩) | ((with_reducible refine gate_callee (f := 34) rfl ?_); refine goesL_ (some 33) rfl rfl Try.func34 (by kernel_rfl) rfl #[.slice Ao17 y182.length co17, .int .i64 a1] rfl (by (try simp only [List.map_toArray, List.map_cons, List.map_nil]); first | done | rfl | (simp only [List.length_drop, List.length_take]; rfl)) ?_; (with_reducible refine (zbits_Cut.calls k _ _ y182 a1 t187 t188 _ ?side1 ?side2 A10.out).mono ?_); (case side1 => repeat (first | exact (Kd.R_reads' HO184.out).2.2 | (with_reducible refine Kd.C_alloc ?_ _) | (with_reducible refine Kd.C_drewN ?_ _) | (with_reducible refine Kd.C_drew ?_))); (case side2 => exact (Kd.R_reads' HO184.out).2.1); rintro e w18 ⟨v189, rfl, ho0, hb⟩; refine ⟨_, rfl, ?_⟩; have n0_ := Aside0.mk (Kd.R_elder' (by (with_reducible repeat (first | apply Kd.R_alloc | apply Kd.R_drewN | apply Kd.R_drew)); exact HO184.out) (Kd.R_base ho0) hb); have n1_ := Aside0.mk (Kd.R_lower (Kd.R_new' ho0 (Kd.R_lt (by (with_reducible repeat (first | apply Kd.R_alloc | apply Kd.R_drewN | apply Kd.R_drew)); exact HO184.out))) (below_size (by repeat (first | (with_reducible first | exact HB.out | apply below_alloc | apply pw_below_drewN | apply below_drew1) | exact HB.out)))); have n2_ := Aside0.mk (below_step (by repeat (first | (with_reducible first | exact HB.out | apply below_alloc | apply pw_below_drewN | apply below_drew1) | exact HB.out)) hb); clear HO184; clear HB; have HO184 := n0_; have HO190 := n1_; have HB := n2_; clear n0_ n1_ n2_; (try clear hb); (try clear hb2); (try clear hk); (try clear hi); (try clear ho0)) | ((with_reducible refine gate_callee (f := 44) rfl ?_); refine goesL_ (some 40) rfl rfl Try.func44 (by kernel_rfl) rfl #[.slice Ao17 y182.length co17, .int .i64 a1, .int .i64 a2] rfl (by (try simp only [List.map_toArray, List.map_cons, List.map_nil]); first | done | rfl | (simp only [List.length_drop, List.length_take]; rfl)) ?_; (with_reducible refine (zbits_Place.calls k _ _ y182 a1 a2 t191 t192 _ ?side1 ?side2 A11.out).mono ?_); (case side1 => repeat (first | exact (Kd.R_reads' HO184.out).2.2 | (with_reducible refine Kd.C_alloc ?_ _) | (with_reducible refine Kd.C_drewN ?_ _) | (with_reducible refine Kd.C_drew ?_))); (case side2 => exact (Kd.R_reads' HO184.out).2.1); rintro e w19 ⟨v193, rfl, ho0, hb⟩; refine ⟨_, rfl, ?_⟩; have n0_ := Aside0.mk (Kd.R_elder' (by (with_reducible repeat (first | apply Kd.R_alloc | apply Kd.R_drewN | apply Kd.R_drew)); exact HO184.out) (Kd.R_base ho0) hb); have n1_ := Aside0.mk (Kd.R_elder' (by (with_reducible repeat (first | apply Kd.R_alloc | apply Kd.R_drewN | apply Kd.R_drew)); exact HO190.out) (Kd.R_base ho0) hb); have n2_ := Aside0.mk (Kd.R_lower (Kd.R_new' (Kd.R_new' ho0 (Kd.R_lt (by (with_reducible repeat (first | apply Kd.R_alloc | apply Kd.R_drewN | apply Kd.R_drew)); exact HO184.out))) (Kd.R_lt (by (with_reducible repeat (first | apply Kd.R_alloc | apply Kd.R_drewN | apply Kd.R_drew)); exact HO190.out))) (below_size (by repeat (first | (with_reducible first | exact HB.out | apply below_alloc | apply pw_below_drewN | apply below_drew1) | exact HB.out)))); have n3_ := Aside0.mk (below_step (by repeat (first | (with_reducible first | exact HB.out | apply below_alloc | apply pw_below_drewN | apply below_drew1) | exact HB.out)) hb); clear HO184; clear HO190; clear HB; have HO184 := n0_; have HO190 := n1_; have HO194 := n2_; have HB := n3_; clear n0_ n1_ n2_ n3_; (try clear hb); (try clear hb2); (try clear hk); (try clear hi); (try clear ho0)))
        (try simp only [Act.put, List.setIfInBounds_toArray, List.set_cons_zero, List.set_cons_succ])
        go_cut [53] (fun v53 wc => ∃ (kq : Nat) (x53_11 : Bool), v53 = .bool x53_11 ∧ Aside0 (pantilelaw01_ZbitsAddr.j0 kq l0 a1 a2 t185 t186 t187 t188 t191 t192 x53_11 = some r) ∧ Aside0 (kq ≤ k) ∧ Aside0 (Kd.R (Kd.int .u64) 30 wc w.heap.size (fun k_ => some k_ ≠ (v193 : Value).ownBlock) v189 t187) ∧ Aside0 (Kd.R (Kd.int .u64) 30 wc w.heap.size (fun k_ => some k_ ≠ (v189 : Value).ownBlock) v193 t191) ∧ Aside0 (Below w.heap.size w wc))
        case first =>
          have H := HC12.out
          clear HC12
          replace H := Option.bind_eq_some_iff.mp H
          obtain ⟨t195, A200, H⟩ := H
          replace H : ((pantileref01_Right.f l0).bind fun t196 => (if (t195 != t196) = true then (pantilelaw01_ZbitsAddr.j0 k l0 a1 a2 t185 t186 t187 t188 t191 t192 true) else ((pantileref01_Same.f k y182 l0).bind fun t197 => (pantilelaw01_ZbitsAddr.j0 k l0 a1 a2 t185 t186 t187 t188 t191 t192 (!t197))))) = some r := H
          have A20 := Aside0.mk A200
          clear A200
          replace H := Option.bind_eq_some_iff.mp H
          obtain ⟨t196, A210, H⟩ := H
          replace H : (if (t195 != t196) = true then (pantilelaw01_ZbitsAddr.j0 k l0 a1 a2 t185 t186 t187 t188 t191 t192 true) else ((pantileref01_Same.f k y182 l0).bind fun t197 => (pantilelaw01_ZbitsAddr.j0 k l0 a1 a2 t185 t186 t187 t188 t191 t192 (!t197)))) = some r := H
          have A21 := Aside0.mk A210
          clear A210
          by_cases c22 : (t195 != t196) = true
          · rw [if_pos c22] at H
            have c22b0 : (t195 != t196) = true := c22
            (try (have c22b1 : decide (t195 = t196) = false := by simpa using c22))
            (try (have c22b2 : (t195 == t196) = false := by simpa using c22))
            (try (have c22b3 : ¬ (t195 = t196) := by simpa using c22))
            clear c22
            (first | rw [c22b0] | (simp only [i64_w, i32_w]; rw [c22b0]) | skip)
            have H' := Aside0.mk H
            clear H
            go_wp2_with (first | ((with_reducible refine gate_callee (f := 45) rfl ?_); refine goesL_ (some 44) rfl rfl Try.func45 (by kernel_rfl) rfl #[.slice A0 l0.length c0] rfl (by (try simp only [List.map_toArray, List.map_cons, List.map_nil]); first | done | rfl | (simp only [List.length_drop, List.length_take]; rfl)) ?_; (with_reducible refine (zbits_Right.calls _ _ l0 t195 _ ?side1 ?side2 A20.out).mono ?_); (case side1 => repeat (first | exact (Kd.C_below HR0.out HB.out) | (with_reducible refine Kd.C_alloc ?_ _) | (with_reducible refine Kd.C_drewN ?_ _) | (with_reducible refine Kd.C_drew ?_))); (case side2 => exact HC0.out); rintro e w' ⟨rfl, ⟨nd, rfl⟩⟩; refine ⟨_, rfl, ?_⟩) | ((with_reducible refine gate_callee (f := 28) rfl ?_); refine goesL_ (some 46) rfl rfl Try.func28 (by kernel_rfl) rfl #[.slice A0 l0.length c0] rfl (by (try simp only [List.map_toArray, List.map_cons, List.map_nil]); first | done | rfl | (simp only [List.length_drop, List.length_take]; rfl)) ?_; (with_reducible refine (pantileref01_Right.calls _ _ l0 t196 _ ?side1 ?side2 A21.out).mono ?_); (case side1 => repeat (first | exact (Kd.C_below HR0.out (by repeat (first | (with_reducible first | exact HB.out | apply below_alloc | apply pw_below_drewN | apply below_drew1) | exact HB.out))) | (with_reducible refine Kd.C_alloc ?_ _) | (with_reducible refine Kd.C_drewN ?_ _) | (with_reducible refine Kd.C_drew ?_))); (case side2 => exact HC0.out); rintro e w' ⟨rfl, ⟨nd, rfl⟩⟩; refine ⟨_, rfl, ?_⟩))
            go_meet
            case rel => exact ⟨_, (true), (by first | rfl | (simp; done) | (simp [*]; done)), H', ⟨by first | omega | exact Nat.le_refl _⟩, ⟨by (with_reducible repeat (first | apply Kd.R_alloc | apply Kd.R_drewN | apply Kd.R_drew)); exact Kd.R_mono HO190.out (fun _ hk => hk.2)⟩, ⟨by (with_reducible repeat (first | apply Kd.R_alloc | apply Kd.R_drewN | apply Kd.R_drew)); exact Kd.R_mono HO194.out (fun _ hk => hk.2)⟩, ⟨by repeat (first | (with_reducible first | exact HB.out | apply below_alloc | apply pw_below_drewN | apply below_drew1) | exact HB.out)⟩⟩
          · rw [if_neg c22] at H
            have c22b0 : (t195 != t196) = false := by simpa using c22
            (try (have c22b1 : decide (t195 = t196) = true := by simpa using c22))
            (try (have c22b2 : (t195 == t196) = true := by simpa using c22))
            clear c22
            (first | rw [c22b0] | (simp only [i64_w, i32_w]; rw [c22b0]) | skip)
            replace H := Option.bind_eq_some_iff.mp H
            obtain ⟨t197, A230, H⟩ := H
            replace H : (pantilelaw01_ZbitsAddr.j0 k l0 a1 a2 t185 t186 t187 t188 t191 t192 (!t197)) = some r := H
            have A23 := Aside0.mk A230
            clear A230
            have H' := Aside0.mk H
            clear H
            go_wp2_with (first | ((with_reducible refine gate_callee (f := 45) rfl ?_); refine goesL_ (some 44) rfl rfl Try.func45 (by kernel_rfl) rfl #[.slice A0 l0.length c0] rfl (by (try simp only [List.map_toArray, List.map_cons, List.map_nil]); first | done | rfl | (simp only [List.length_drop, List.length_take]; rfl)) ?_; (with_reducible refine (zbits_Right.calls _ _ l0 t195 _ ?side1 ?side2 A20.out).mono ?_); (case side1 => repeat (first | exact (Kd.C_below HR0.out HB.out) | (with_reducible refine Kd.C_alloc ?_ _) | (with_reducible refine Kd.C_drewN ?_ _) | (with_reducible refine Kd.C_drew ?_))); (case side2 => exact HC0.out); rintro e w' ⟨rfl, ⟨nd, rfl⟩⟩; refine ⟨_, rfl, ?_⟩) | ((with_reducible refine gate_callee (f := 28) rfl ?_); refine goesL_ (some 46) rfl rfl Try.func28 (by kernel_rfl) rfl #[.slice A0 l0.length c0] rfl (by (try simp only [List.map_toArray, List.map_cons, List.map_nil]); first | done | rfl | (simp only [List.length_drop, List.length_take]; rfl)) ?_; (with_reducible refine (pantileref01_Right.calls _ _ l0 t196 _ ?side1 ?side2 A21.out).mono ?_); (case side1 => repeat (first | exact (Kd.C_below HR0.out (by repeat (first | (with_reducible first | exact HB.out | apply below_alloc | apply pw_below_drewN | apply below_drew1) | exact HB.out))) | (with_reducible refine Kd.C_alloc ?_ _) | (with_reducible refine Kd.C_drewN ?_ _) | (with_reducible refine Kd.C_drew ?_))); (case side2 => exact HC0.out); rintro e w' ⟨rfl, ⟨nd, rfl⟩⟩; refine ⟨_, rfl, ?_⟩) | (go_at_call 23; (with_reducible refine (pantileref01_Same.calls k _ _ y182 _ _ l0 t197 _ ?side1 ?side2 ?side3 ?side4 A23.out).mono ?_); (case side1 => repeat (first | exact (Kd.R_reads' HO184.out).2.2 | (with_reducible refine Kd.C_alloc ?_ _) | (with_reducible refine Kd.C_drewN ?_ _) | (with_reducible refine Kd.C_drew ?_))); (case side2 => exact (Kd.R_reads' HO184.out).2.1); (case side3 => repeat (first | exact (Kd.C_below HR0.out (by repeat (first | (with_reducible first | exact HB.out | apply below_alloc | apply pw_below_drewN | apply below_drew1) | exact HB.out))) | (with_reducible refine Kd.C_alloc ?_ _) | (with_reducible refine Kd.C_drewN ?_ _) | (with_reducible refine Kd.C_drew ?_))); (case side4 => exact HC0.out); rintro e w' ⟨rfl, ⟨nd, rfl⟩⟩))
            go_meet
            case rel => exact ⟨_, (!t197), (by first | rfl | (simp; done) | (simp [*]; done)), H', ⟨by first | omega | exact Nat.le_refl _⟩, ⟨by (with_reducible repeat (first | apply Kd.R_alloc | apply Kd.R_drewN | apply Kd.R_drew)); exact Kd.R_mono HO190.out (fun _ hk => hk.2)⟩, ⟨by (with_reducible repeat (first | apply Kd.R_alloc | apply Kd.R_drewN | apply Kd.R_drew)); exact Kd.R_mono HO194.out (fun _ hk => hk.2)⟩, ⟨by repeat (first | (with_reducible first | exact HB.out | apply below_alloc | apply pw_below_drewN | apply below_drew1) | exact HB.out)⟩⟩
        case rest =>
          clear HC12
          try clear c1
          try clear c2
          try clear p2
          try clear c3
          try clear c4
          try clear c5
          try clear c6
          try clear c6b0
          try clear c6b1
          try clear c7
          try clear c8
          try clear c17
          try clear c22
          try clear c22b0
          try clear c22b1
          try clear c22b2
          obtain ⟨kq, x53_11, rfl, HA, HJ11, HO_10, HO_12, HB⟩ := hcut
          cases kq with
          | zero => exact absurd HA.out (by simp [pantilelaw01_ZbitsAddr.j0])
          | succ kj11 =>
            have H := HA.out
            clear HA
            simp only [pantilelaw01_ZbitsAddr.j0] at H
            by_cases c24 : x53_11 = true
            · subst c24
              have H1 : (some false) = some r := by rw [if_pos rfl] at H; exact H
              clear H
              have H := H1
              clear H1
              obtain rfl := Option.some.inj H
              go_wp2
              go_ret
              exact ⟨by first | rfl | (simp [errW_none, errW_some] <;> rfl) | (simp [*, errW_none, errW_some] <;> rfl), by repeat (first | (with_reducible first | exact HB.out | apply below_alloc | apply pw_below_drewN | apply below_drew1) | exact HB.out)⟩
            · replace c24 := Bool.eq_false_iff.mpr c24
              subst c24
              have H1 : ((pantileref01_Right.f l0).bind fun t198 => (if t198 = true then (if a1 < (-1) then (pantilelaw01_ZbitsAddr.j1 kj11 l0 a1 a2 t185 t186 t187 t188 t191 t192 true) else (pantilelaw01_ZbitsAddr.j1 kj11 l0 a1 a2 t185 t186 t187 t188 t191 t192 (decide (a1 > 63)))) else (if t185 = 0 then (if t186 = 2 then (if (t187.length : Int) = 0 then (if t188 = 2 then (if (t191.length : Int) = 0 then (some (t192 == 2)) else (some false)) else (some false)) else (some false)) else (some false)) else (some false)))) = some r := by rw [if_neg (show ¬ (false = true) by decide)] at H; exact H
              clear H
              have H := H1
              clear H1
              replace H := Option.bind_eq_some_iff.mp H
              obtain ⟨t198, A250, H⟩ := H
              replace H : (if t198 = true then (if a1 < (-1) then (pantilelaw01_ZbitsAddr.j1 kj11 l0 a1 a2 t185 t186 t187 t188 t191 t192 true) else (pantilelaw01_ZbitsAddr.j1 kj11 l0 a1 a2 t185 t186 t187 t188 t191 t192 (decide (a1 > 63)))) else (if t185 = 0 then (if t186 = 2 then (if (t187.length : Int) = 0 then (if t188 = 2 then (if (t191.length : Int) = 0 then (some (t192 == 2)) else (some false)) else (some false)) else (some false)) else (some false)) else (some false))) = some r := H
              have A25 := Aside0.mk A250
              clear A250
              by_cases c26 : t198 = true
              · subst c26
                have H1 : (if a1 < (-1) then (pantilelaw01_ZbitsAddr.j1 kj11 l0 a1 a2 t185 t186 t187 t188 t191 t192 true) else (pantilelaw01_ZbitsAddr.j1 kj11 l0 a1 a2 t185 t186 t187 t188 t191 t192 (decide (a1 > 63)))) = some r := by rw [if_pos rfl] at H; exact H
                clear H
                have H := H1
                clear H1
                have HC27 := Aside0.mk H
                clear H
                go_upto_region 13 with (first | ((with_reducible refine gate_callee (f := 28) rfl ?_); refine goesL_ (some 55) rfl rfl Try.func28 (by kernel_rfl) rfl #[.slice A0 l0.length c0] rfl (by (try simp only [List.map_toArray, List.map_cons, List.map_nil]); first | done | rfl | (simp only [List.length_drop, List.length_take]; rfl)) ?_; (with_reducible refine (pantileref01_Right.calls _ _ l0 true _ ?side1 ?side2 A25.out).mono ?_); (case side1 => repeat (first | exact (Kd.C_below HR0.out HB.out) | (with_reducible refine Kd.C_alloc ?_ _) | (with_reducible refine Kd.C_drewN ?_ _) | (with_reducible refine Kd.C_drew ?_))); (case side2 => exact HC0.out); rintro e w' ⟨rfl, ⟨nd, rfl⟩⟩; refine ⟨_, rfl, ?_⟩))
                (try simp only [Act.put, List.setIfInBounds_toArray, List.set_cons_zero, List.set_cons_succ])
                go_cut [86] (fun v86 wc => ∃ (kq : Nat) (x86_26 : Bool), v86 = .bool x86_26 ∧ Aside0 (pantilelaw01_ZbitsAddr.j1 kq l0 a1 a2 t185 t186 t187 t188 t191 t192 x86_26 = some r) ∧ Aside0 (kq ≤ kj11) ∧ Aside0 (Kd.R (Kd.int .u64) 30 wc w.heap.size (fun k_ => some k_ ≠ (v193 : Value).ownBlock) v189 t187) ∧ Aside0 (Kd.R (Kd.int .u64) 30 wc w.heap.size (fun k_ => some k_ ≠ (v189 : Value).ownBlock) v193 t191) ∧ Aside0 (Below w.heap.size w wc))
                case first =>
                  have H := HC27.out
                  clear HC27
                  by_cases c28 : a1 < (-1)
                  · rw [if_pos c28] at H
                    have c28b0 : decide (a1 < (-1)) = true := decide_eq_true c28
                    clear c28
                    (first | rw [c28b0] | (simp only [i64_w, i32_w]; rw [c28b0]) | skip)
                    have H' := Aside0.mk H
                    clear H
                    go_wp2
                    go_meet
                    case rel => exact ⟨_, (true), (by first | rfl | (simp; done) | (simp [*]; done)), H', ⟨by have := HJ11.out; first | omega | exact Nat.le_refl _⟩, ⟨by (with_reducible repeat (first | apply Kd.R_alloc | apply Kd.R_drewN | apply Kd.R_drew)); exact HO_10.out⟩, ⟨by (with_reducible repeat (first | apply Kd.R_alloc | apply Kd.R_drewN | apply Kd.R_drew)); exact HO_12.out⟩, ⟨by repeat (first | (with_reducible first | exact HB.out | apply below_alloc | apply pw_below_drewN | apply below_drew1) | exact HB.out)⟩⟩
                  · rw [if_neg c28] at H
                    have c28b0 : decide (a1 < (-1)) = false := decide_eq_false c28
                    clear c28
                    (first | rw [c28b0] | (simp only [i64_w, i32_w]; rw [c28b0]) | skip)
                    have H' := Aside0.mk H
                    clear H
                    go_wp2
                    go_meet
                    case rel => exact ⟨_, (decide (a1 > 63)), (by first | rfl | (simp; done) | (simp [*]; done)), H', ⟨by have := HJ11.out; first | omega | exact Nat.le_refl _⟩, ⟨by (with_reducible repeat (first | apply Kd.R_alloc | apply Kd.R_drewN | apply Kd.R_drew)); exact HO_10.out⟩, ⟨by (with_reducible repeat (first | apply Kd.R_alloc | apply Kd.R_drewN | apply Kd.R_drew)); exact HO_12.out⟩, ⟨by repeat (first | (with_reducible first | exact HB.out | apply below_alloc | apply pw_below_drewN | apply below_drew1) | exact HB.out)⟩⟩
                case rest =>
                  clear HC27
                  try clear c1
                  try clear c2
                  try clear p2
                  try clear c3
                  try clear c4
                  try clear c5
                  try clear c6
                  try clear c6b0
                  try clear c6b1
                  try clear c7
                  try clear c8
                  try clear c17
                  try clear c22
                  try clear c22b0
                  try clear c22b1
                  try clear c22b2
                  try clear c24
                  try clear c26
                  try clear c28
                  try clear c28b0
                  try clear p2
                  obtain ⟨kq, x86_26, rfl, HA, HJ26, HO_10, HO_12, HB⟩ := hcut
                  cases kq with
                  | zero => exact absurd HA.out (by simp [pantilelaw01_ZbitsAddr.j1])
                  | succ kj26 =>
                    have H := HA.out
                    clear HA
                    simp only [pantilelaw01_ZbitsAddr.j1] at H
                    by_cases c29 : x86_26 = true
                    · subst c29
                      have H1 : (if t185 = 0 then (if t186 = 3 then (if (t187.length : Int) = 0 then (if t188 = 3 then (if (t191.length : Int) = 0 then (some (t192 == 3)) else (some false)) else (some false)) else (some false)) else (some false)) else (some false)) = some r := by rw [if_pos rfl] at H; exact H
                      clear H
                      have H := H1
                      clear H1
                      by_cases c30 : t185 = 0
                      · rw [if_pos c30] at H
                        have c30b0 : (t185 == 0) = true := beq_iff_eq.mpr c30
                        have c30b1 : (t185 != 0) = false := bne_eq_false_iff_eq.mpr c30
                        clear c30
                        by_cases c31 : t186 = 3
                        · rw [if_pos c31] at H
                          have c31b0 : (t186 == 3) = true := beq_iff_eq.mpr c31
                          have c31b1 : (t186 != 3) = false := bne_eq_false_iff_eq.mpr c31
                          clear c31
                          by_cases c32 : (t187.length : Int) = 0
                          · rw [if_pos c32] at H
                            have c32b0 : ((t187.length : Int) == 0) = true := beq_iff_eq.mpr c32
                            have c32b1 : ((t187.length : Int) != 0) = false := bne_eq_false_iff_eq.mpr c32
                            clear c32
                            by_cases c33 : t188 = 3
                            · rw [if_pos c33] at H
                              have c33b0 : (t188 == 3) = true := beq_iff_eq.mpr c33
                              have c33b1 : (t188 != 3) = false := bne_eq_false_iff_eq.mpr c33
                              clear c33
                              by_cases c34 : (t191.length : Int) = 0
                              · rw [if_pos c34] at H
                                have c34b0 : ((t191.length : Int) == 0) = true := beq_iff_eq.mpr c34
                                have c34b1 : ((t191.length : Int) != 0) = false := bne_eq_false_iff_eq.mpr c34
                                clear c34
                                obtain rfl := Option.some.inj H
                                obtain ⟨Ao35, co35, eo35⟩ := Kd.R_slice HO_10.out
                                subst eo35
                                obtain ⟨Ao36, co36, eo36⟩ := Kd.R_slice HO_12.out
                                subst eo36
                                go_wp2
                                go_ret
                                exact ⟨by first | rfl | (simp [errW_none, errW_some] <;> rfl) | (simp [*, errW_none, errW_some] <;> rfl), by repeat (first | (with_reducible first | exact HB.out | apply below_alloc | apply pw_below_drewN | apply below_drew1) | exact HB.out)⟩
                              · rw [if_neg c34] at H
                                have c34b0 : ((t191.length : Int) == 0) = false := beq_eq_false_iff_ne.mpr c34
                                have c34b1 : ((t191.length : Int) != 0) = true := bne_iff_ne.mpr c34
                                have c34b2 : ¬ (t191 = []) := fun h_ => c34 (by rw [h_]; rfl)
                                obtain rfl := Option.some.inj H
                                obtain ⟨Ao37, co37, eo37⟩ := Kd.R_slice HO_10.out
                                subst eo37
                                obtain ⟨Ao38, co38, eo38⟩ := Kd.R_slice HO_12.out
                                subst eo38
                                go_wp2
                                go_ret
                                exact ⟨by first | rfl | (simp [errW_none, errW_some] <;> rfl) | (simp [*, errW_none, errW_some] <;> rfl), by repeat (first | (with_reducible first | exact HB.out | apply below_alloc | apply pw_below_drewN | apply below_drew1) | exact HB.out)⟩
                            · rw [if_neg c33] at H
                              have c33b0 : (t188 == 3) = false := beq_eq_false_iff_ne.mpr c33
                              have c33b1 : (t188 != 3) = true := bne_iff_ne.mpr c33
                              obtain rfl := Option.some.inj H
                              obtain ⟨Ao39, co39, eo39⟩ := Kd.R_slice HO_10.out
                              subst eo39
                              go_wp2
                              go_ret
                              exact ⟨by first | rfl | (simp [errW_none, errW_some] <;> rfl) | (simp [*, errW_none, errW_some] <;> rfl), by repeat (first | (with_reducible first | exact HB.out | apply below_alloc | apply pw_below_drewN | apply below_drew1) | exact HB.out)⟩
                          · rw [if_neg c32] at H
                            have c32b0 : ((t187.length : Int) == 0) = false := beq_eq_false_iff_ne.mpr c32
                            have c32b1 : ((t187.length : Int) != 0) = true := bne_iff_ne.mpr c32
                            have c32b2 : ¬ (t187 = []) := fun h_ => c32 (by rw [h_]; rfl)
                            obtain rfl := Option.some.inj H
                            obtain ⟨Ao40, co40, eo40⟩ := Kd.R_slice HO_10.out
                            subst eo40
                            go_wp2
                            go_ret
                            exact ⟨by first | rfl | (simp [errW_none, errW_some] <;> rfl) | (simp [*, errW_none, errW_some] <;> rfl), by repeat (first | (with_reducible first | exact HB.out | apply below_alloc | apply pw_below_drewN | apply below_drew1) | exact HB.out)⟩
                        · rw [if_neg c31] at H
                          have c31b0 : (t186 == 3) = false := beq_eq_false_iff_ne.mpr c31
                          have c31b1 : (t186 != 3) = true := bne_iff_ne.mpr c31
                          obtain rfl := Option.some.inj H
                          go_wp2
                          go_ret
                          exact ⟨by first | rfl | (simp [errW_none, errW_some] <;> rfl) | (simp [*, errW_none, errW_some] <;> rfl), by repeat (first | (with_reducible first | exact HB.out | apply below_alloc | apply pw_below_drewN | apply below_drew1) | exact HB.out)⟩
                      · rw [if_neg c30] at H
                        have c30b0 : (t185 == 0) = false := beq_eq_false_iff_ne.mpr c30
                        have c30b1 : (t185 != 0) = true := bne_iff_ne.mpr c30
                        obtain rfl := Option.some.inj H
                        go_wp2
                        go_ret
                        exact ⟨by first | rfl | (simp [errW_none, errW_some] <;> rfl) | (simp [*, errW_none, errW_some] <;> rfl), by repeat (first | (with_reducible first | exact HB.out | apply below_alloc | apply pw_below_drewN | apply below_drew1) | exact HB.out)⟩
                    · replace c29 := Bool.eq_false_iff.mpr c29
                      subst c29
                      have H1 : (if t188 = 0 then ((pantileref01_Cut.f kj26 l0 a1).bind fun t199 => ((pantileref01_Same.f kj26 t187 t199).bind fun t202 => (pantilelaw01_ZbitsAddr.j2 kj26 l0 a1 a2 t185 t186 t191 t192 (!t202)))) else (pantilelaw01_ZbitsAddr.j2 kj26 l0 a1 a2 t185 t186 t191 t192 true)) = some r := by rw [if_neg (show ¬ (false = true) by decide)] at H; exact H
                      clear H
                      have H := H1
                      clear H1
                      have HC41 := Aside0.mk H
                      clear H
                      go_upto_region 15 with (fail)
                      go_cut [120] (fun v120 wc => ∃ (kq : Nat) (x120_40 : Bool), v120 = .bool x120_40 ∧ Aside0 (pantilelaw01_ZbitsAddr.j2 kq l0 a1 a2 t185 t186 t191 t192 x120_40 = some r) ∧ Aside0 (kq ≤ kj26) ∧ Aside0 (Kd.R (Kd.int .u64) 30 wc w.heap.size (fun _ => True) v193 t191) ∧ Aside0 (Below w.heap.size w wc))
                      case first =>
                        have H := HC41.out
                        clear HC41
                        by_cases c42 : t188 = 0
                        · rw [if_pos c42] at H
                          have c42b0 : (t188 == 0) = true := beq_iff_eq.mpr c42
                          have c42b1 : (t188 != 0) = false := bne_eq_false_iff_eq.mpr c42
                          clear c42
                          (first | rw [c42b0] | (simp only [i64_w, i32_w]; rw [c42b0]) | skip)
                          replace H := Option.bind_eq_some_iff.mp H
                          obtain ⟨t199, A430, H⟩ := H
                          replace H : ((pantileref01_Same.f kj26 t187 t199).bind fun t202 => (pantilelaw01_ZbitsAddr.j2 kj26 l0 a1 a2 t185 t186 t191 t192 (!t202))) = some r := H
                          have A43 := Aside0.mk A430
                          clear A430
                          replace H := Option.bind_eq_some_iff.mp H
                          obtain ⟨t202, A440, H⟩ := H
                          replace H : (pantilelaw01_ZbitsAddr.j2 kj26 l0 a1 a2 t185 t186 t191 t192 (!t202)) = some r := H
                          have A44 := Aside0.mk A440
                          clear A440
                          have H' := Aside0.mk H
                          clear H
                          go_wp2_with (first | (go_at_call 46; (with_reducible refine (pantileref01_Cut.calls kj26 _ _ l0 a1 t199 _ ?side1 ?side2 A43.out).mono ?_); (case side1 => repeat (first | exact (Kd.C_below HR0.out HB.out) | (with_reducible refine Kd.C_alloc ?_ _) | (with_reducible refine Kd.C_drewN ?_ _) | (with_reducible refine Kd.C_drew ?_))); (case side2 => exact HC0.out); rintro e w45 ⟨v200, rfl, ho0, hb⟩; have n0_ := Aside0.mk (Kd.R_elder' (by (with_reducible repeat (first | apply Kd.R_alloc | apply Kd.R_drewN | apply Kd.R_drew)); exact HO_10.out) (Kd.R_base ho0) hb); have n1_ := Aside0.mk (Kd.R_elder' (by (with_reducible repeat (first | apply Kd.R_alloc | apply Kd.R_drewN | apply Kd.R_drew)); exact HO_12.out) (Kd.R_base ho0) hb); have n2_ := Aside0.mk (Kd.R_lower (Kd.R_new' (Kd.R_new' ho0 (Kd.R_lt (by (with_reducible repeat (first | apply Kd.R_alloc | apply Kd.R_drewN | apply Kd.R_drew)); exact HO_10.out))) (Kd.R_lt (by (with_reducible repeat (first | apply Kd.R_alloc | apply Kd.R_drewN | apply Kd.R_drew)); exact HO_12.out))) (below_size (by repeat (first | (with_reducible first | exact HB.out | apply below_alloc | apply pw_below_drewN | apply below_drew1) | exact HB.out)))); have n3_ := Aside0.mk (below_step (by repeat (first | (with_reducible first | exact HB.out | apply below_alloc | apply pw_below_drewN | apply below_drew1) | exact HB.out)) hb); clear HO_10; clear HO_12; clear HB; have HO_10 := n0_; have HO_12 := n1_; have HO201 := n2_; have HB := n3_; clear n0_ n1_ n2_ n3_; (try clear hb); (try clear hb2); (try clear hk); (try clear hi); (try clear ho0); obtain ⟨Ao46, co46, eo46⟩ := Kd.R_slice HO_10.out; subst eo46; obtain ⟨Ao47, co47, eo47⟩ := Kd.R_slice HO201.out; subst eo47) | (go_at_call 23; (with_reducible refine (pantileref01_Same.calls kj26 _ _ t187 _ _ t199 t202 _ ?side1 ?side2 ?side3 ?side4 A44.out).mono ?_); (case side1 => repeat (first | exact (Kd.R_reads' HO_10.out).2.2 | (with_reducible refine Kd.C_alloc ?_ _) | (with_reducible refine Kd.C_drewN ?_ _) | (with_reducible refine Kd.C_drew ?_))); (case side2 => exact (Kd.R_reads' HO_10.out).2.1); (case side3 => repeat (first | exact (Kd.R_reads' HO201.out).2.2 | (with_reducible refine Kd.C_alloc ?_ _) | (with_reducible refine Kd.C_drewN ?_ _) | (with_reducible refine Kd.C_drew ?_))); (case side4 => exact (Kd.R_reads' HO201.out).2.1); rintro e w' ⟨rfl, ⟨nd, rfl⟩⟩))
                          go_meet
                          case rel => exact ⟨_, (!t202), (by first | rfl | (simp; done) | (simp [*]; done)), H', ⟨by have := HJ11.out; have := HJ26.out; first | omega | exact Nat.le_refl _⟩, ⟨by (with_reducible repeat (first | apply Kd.R_alloc | apply Kd.R_drewN | apply Kd.R_drew)); exact Kd.R_mono HO_12.out (fun _ hk => trivial)⟩, ⟨by repeat (first | (with_reducible first | exact HB.out | apply below_alloc | apply pw_below_drewN | apply below_drew1) | exact HB.out)⟩⟩
                        · rw [if_neg c42] at H
                          have c42b0 : (t188 == 0) = false := beq_eq_false_iff_ne.mpr c42
                          have c42b1 : (t188 != 0) = true := bne_iff_ne.mpr c42
                          (first | rw [c42b0] | (simp only [i64_w, i32_w]; rw [c42b0]) | skip)
                          have H' := Aside0.mk H
                          clear H
                          go_wp2
                          go_meet
                          case rel => exact ⟨_, (true), (by first | rfl | (simp; done) | (simp [*]; done)), H', ⟨by have := HJ11.out; have := HJ26.out; first | omega | exact Nat.le_refl _⟩, ⟨by (with_reducible repeat (first | apply Kd.R_alloc | apply Kd.R_drewN | apply Kd.R_drew)); exact Kd.R_mono HO_12.out (fun _ hk => trivial)⟩, ⟨by repeat (first | (with_reducible first | exact HB.out | apply below_alloc | apply pw_below_drewN | apply below_drew1) | exact HB.out)⟩⟩
                      case rest =>
                        clear HC41
                        try clear c1
                        try clear c2
                        try clear p2
                        try clear c3
                        try clear c4
                        try clear c5
                        try clear c6
                        try clear c6b0
                        try clear c6b1
                        try clear c7
                        try clear c8
                        try clear c17
                        try clear c22
                        try clear c22b0
                        try clear c22b1
                        try clear c22b2
                        try clear c24
                        try clear c26
                        try clear c28
                        try clear c28b0
                        try clear c29
                        try clear c30
                        try clear c30b0
                        try clear c30b1
                        try clear c31
                        try clear c31b0
                        try clear c31b1
                        try clear c32
                        try clear c32b0
                        try clear c32b1
                        try clear c32b2
                        try clear c33
                        try clear c33b0
                        try clear c33b1
                        try clear c34
                        try clear c34b0
                        try clear c34b1
                        try clear c34b2
                        try clear c42
                        try clear c42b0
                        try clear c42b1
                        try clear c43
                        try clear c44
                        try clear c45
                        try clear p2
                        obtain ⟨kq, x120_40, rfl, HA, HJ40, HO_12, HB⟩ := hcut
                        cases kq with
                        | zero => exact absurd HA.out (by simp [pantilelaw01_ZbitsAddr.j2])
                        | succ kj40 =>
                          have H := HA.out
                          clear HA
                          simp only [pantilelaw01_ZbitsAddr.j2] at H
                          by_cases c48 : x120_40 = true
                          · subst c48
                            have H1 : (some false) = some r := by rw [if_pos rfl] at H; exact H
                            clear H
                            have H := H1
                            clear H1
                            obtain rfl := Option.some.inj H
                            go_wp2
                            go_ret
                            exact ⟨by first | rfl | (simp [errW_none, errW_some] <;> rfl) | (simp [*, errW_none, errW_some] <;> rfl), by repeat (first | (with_reducible first | exact HB.out | apply below_alloc | apply pw_below_drewN | apply below_drew1) | exact HB.out)⟩
                          · replace c48 := Bool.eq_false_iff.mpr c48
                            subst c48
                            have H1 : (if a1 = (-1) then (if t185 = 0 then (if t186 = 3 then (if (t191.length : Int) = 0 then (some (t192 == 3)) else (some false)) else (some false)) else (some false)) else (if t186 = 0 then ((pantileref01_Addr.f kj40 l0 a1).bind fun t203 => (pantilelaw01_ZbitsAddr.j3 kj40 l0 a1 a2 t191 t192 (t185 != t203))) else (pantilelaw01_ZbitsAddr.j3 kj40 l0 a1 a2 t191 t192 true))) = some r := by rw [if_neg (show ¬ (false = true) by decide)] at H; exact H
                            clear H
                            have H := H1
                            clear H1
                            by_cases c49 : a1 = (-1)
                            · rw [if_pos c49] at H
                              have c49b0 : (a1 == (-1)) = true := beq_iff_eq.mpr c49
                              have c49b1 : (a1 != (-1)) = false := bne_eq_false_iff_eq.mpr c49
                              clear c49
                              by_cases c50 : t185 = 0
                              · rw [if_pos c50] at H
                                have c50b0 : (t185 == 0) = true := beq_iff_eq.mpr c50
                                have c50b1 : (t185 != 0) = false := bne_eq_false_iff_eq.mpr c50
                                clear c50
                                by_cases c51 : t186 = 3
                                · rw [if_pos c51] at H
                                  have c51b0 : (t186 == 3) = true := beq_iff_eq.mpr c51
                                  have c51b1 : (t186 != 3) = false := bne_eq_false_iff_eq.mpr c51
                                  clear c51
                                  by_cases c52 : (t191.length : Int) = 0
                                  · rw [if_pos c52] at H
                                    have c52b0 : ((t191.length : Int) == 0) = true := beq_iff_eq.mpr c52
                                    have c52b1 : ((t191.length : Int) != 0) = false := bne_eq_false_iff_eq.mpr c52
                                    clear c52
                                    obtain rfl := Option.some.inj H
                                    obtain ⟨Ao53, co53, eo53⟩ := Kd.R_slice HO_12.out
                                    subst eo53
                                    go_wp2
                                    go_ret
                                    exact ⟨by first | rfl | (simp [errW_none, errW_some] <;> rfl) | (simp [*, errW_none, errW_some] <;> rfl), by repeat (first | (with_reducible first | exact HB.out | apply below_alloc | apply pw_below_drewN | apply below_drew1) | exact HB.out)⟩
                                  · rw [if_neg c52] at H
                                    have c52b0 : ((t191.length : Int) == 0) = false := beq_eq_false_iff_ne.mpr c52
                                    have c52b1 : ((t191.length : Int) != 0) = true := bne_iff_ne.mpr c52
                                    have c52b2 : ¬ (t191 = []) := fun h_ => c52 (by rw [h_]; rfl)
                                    obtain rfl := Option.some.inj H
                                    obtain ⟨Ao54, co54, eo54⟩ := Kd.R_slice HO_12.out
                                    subst eo54
                                    go_wp2
                                    go_ret
                                    exact ⟨by first | rfl | (simp [errW_none, errW_some] <;> rfl) | (simp [*, errW_none, errW_some] <;> rfl), by repeat (first | (with_reducible first | exact HB.out | apply below_alloc | apply pw_below_drewN | apply below_drew1) | exact HB.out)⟩
                                · rw [if_neg c51] at H
                                  have c51b0 : (t186 == 3) = false := beq_eq_false_iff_ne.mpr c51
                                  have c51b1 : (t186 != 3) = true := bne_iff_ne.mpr c51
                                  obtain rfl := Option.some.inj H
                                  go_wp2
                                  go_ret
                                  exact ⟨by first | rfl | (simp [errW_none, errW_some] <;> rfl) | (simp [*, errW_none, errW_some] <;> rfl), by repeat (first | (with_reducible first | exact HB.out | apply below_alloc | apply pw_below_drewN | apply below_drew1) | exact HB.out)⟩
                              · rw [if_neg c50] at H
                                have c50b0 : (t185 == 0) = false := beq_eq_false_iff_ne.mpr c50
                                have c50b1 : (t185 != 0) = true := bne_iff_ne.mpr c50
                                obtain rfl := Option.some.inj H
                                go_wp2
                                go_ret
                                exact ⟨by first | rfl | (simp [errW_none, errW_some] <;> rfl) | (simp [*, errW_none, errW_some] <;> rfl), by repeat (first | (with_reducible first | exact HB.out | apply below_alloc | apply pw_below_drewN | apply below_drew1) | exact HB.out)⟩
                            · rw [if_neg c49] at H
                              have c49b0 : (a1 == (-1)) = false := beq_eq_false_iff_ne.mpr c49
                              have c49b1 : (a1 != (-1)) = true := bne_iff_ne.mpr c49
                              have HC55 := Aside0.mk H
                              clear H
                              go_upto_region 19 with (fail)
                              go_cut [146] (fun v146 wc => ∃ (kq : Nat) (x146_54 : Bool), v146 = .bool x146_54 ∧ Aside0 (pantilelaw01_ZbitsAddr.j3 kq l0 a1 a2 t191 t192 x146_54 = some r) ∧ Aside0 (kq ≤ kj40) ∧ Aside0 (Kd.R (Kd.int .u64) 30 wc w.heap.size (fun _ => True) v193 t191) ∧ Aside0 (Below w.heap.size w wc))
                              case first =>
                                have H := HC55.out
                                clear HC55
                                by_cases c56 : t186 = 0
                                · rw [if_pos c56] at H
                                  have c56b0 : (t186 == 0) = true := beq_iff_eq.mpr c56
                                  have c56b1 : (t186 != 0) = false := bne_eq_false_iff_eq.mpr c56
                                  clear c56
                                  (first | rw [c56b0] | (simp only [i64_w, i32_w]; rw [c56b0]) | skip)
                                  replace H := Option.bind_eq_some_iff.mp H
                                  obtain ⟨t203, A570, H⟩ := H
                                  replace H : (pantilelaw01_ZbitsAddr.j3 kj40 l0 a1 a2 t191 t192 (t185 != t203)) = some r := H
                                  have A57 := Aside0.mk A570
                                  clear A570
                                  have H' := Aside0.mk H
                                  clear H
                                  go_wp2_with (first | (go_at_call 47; (with_reducible refine (pantileref01_Addr.calls kj40 _ _ l0 a1 t203 _ ?side1 ?side2 A57.out).mono ?_); (case side1 => repeat (first | exact (Kd.C_below HR0.out HB.out) | (with_reducible refine Kd.C_alloc ?_ _) | (with_reducible refine Kd.C_drewN ?_ _) | (with_reducible refine Kd.C_drew ?_))); (case side2 => exact HC0.out); rintro e w' ⟨rfl, ⟨nd, rfl⟩⟩))
                                  go_meet
                                  case rel => exact ⟨_, ((t185 != t203)), (by first | rfl | (simp; done) | (simp [*]; done)), H', ⟨by have := HJ11.out; have := HJ26.out; have := HJ40.out; first | omega | exact Nat.le_refl _⟩, ⟨by (with_reducible repeat (first | apply Kd.R_alloc | apply Kd.R_drewN | apply Kd.R_drew)); exact HO_12.out⟩, ⟨by repeat (first | (with_reducible first | exact HB.out | apply below_alloc | apply pw_below_drewN | apply below_drew1) | exact HB.out)⟩⟩
                                · rw [if_neg c56] at H
                                  have c56b0 : (t186 == 0) = false := beq_eq_false_iff_ne.mpr c56
                                  have c56b1 : (t186 != 0) = true := bne_iff_ne.mpr c56
                                  (first | rw [c56b0] | (simp only [i64_w, i32_w]; rw [c56b0]) | skip)
                                  have H' := Aside0.mk H
                                  clear H
                                  go_wp2
                                  go_meet
                                  case rel => exact ⟨_, (true), (by first | rfl | (simp; done) | (simp [*]; done)), H', ⟨by have := HJ11.out; have := HJ26.out; have := HJ40.out; first | omega | exact Nat.le_refl _⟩, ⟨by (with_reducible repeat (first | apply Kd.R_alloc | apply Kd.R_drewN | apply Kd.R_drew)); exact HO_12.out⟩, ⟨by repeat (first | (with_reducible first | exact HB.out | apply below_alloc | apply pw_below_drewN | apply below_drew1) | exact HB.out)⟩⟩
                              case rest =>
                                clear HC55
                                try clear c1
                                try clear c2
                                try clear p2
                                try clear c3
                                try clear c4
                                try clear c5
                                try clear c6
                                try clear c6b0
                                try clear c6b1
                                try clear c7
                                try clear c8
                                try clear c17
                                try clear c22
                                try clear c22b0
                                try clear c22b1
                                try clear c22b2
                                try clear c24
                                try clear c26
                                try clear c28
                                try clear c28b0
                                try clear c29
                                try clear c30
                                try clear c30b0
                                try clear c30b1
                                try clear c31
                                try clear c31b0
                                try clear c31b1
                                try clear c32
                                try clear c32b0
                                try clear c32b1
                                try clear c32b2
                                try clear c33
                                try clear c33b0
                                try clear c33b1
                                try clear c34
                                try clear c34b0
                                try clear c34b1
                                try clear c34b2
                                try clear c42
                                try clear c42b0
                                try clear c42b1
                                try clear c43
                                try clear c44
                                try clear c45
                                try clear c48
                                try clear c49
                                try clear c49b0
                                try clear c49b1
                                try clear c50
                                try clear c50b0
                                try clear c50b1
                                try clear c51
                                try clear c51b0
                                try clear c51b1
                                try clear c52
                                try clear c52b0
                                try clear c52b1
                                try clear c52b2
                                try clear c56
                                try clear c56b0
                                try clear c56b1
                                try clear p2
                                obtain ⟨kq, x146_54, rfl, HA, HJ54, HO_12, HB⟩ := hcut
                                cases kq with
                                | zero => exact absurd HA.out (by simp [pantilelaw01_ZbitsAddr.j3])
                                | succ kj54 =>
                                  have H := HA.out
                                  clear HA
                                  simp only [pantilelaw01_ZbitsAddr.j3] at H
                                  by_cases c58 : x146_54 = true
                                  · subst c58
                                    have H1 : (some false) = some r := by rw [if_pos rfl] at H; exact H
                                    clear H
                                    have H := H1
                                    clear H1
                                    obtain rfl := Option.some.inj H
                                    go_wp2
                                    go_ret
                                    exact ⟨by first | rfl | (simp [errW_none, errW_some] <;> rfl) | (simp [*, errW_none, errW_some] <;> rfl), by repeat (first | (with_reducible first | exact HB.out | apply below_alloc | apply pw_below_drewN | apply below_drew1) | exact HB.out)⟩
                                  · replace c58 := Bool.eq_false_iff.mpr c58
                                    subst c58
                                    have H1 : (if a2 < 0 then (pantilelaw01_ZbitsAddr.j4 kj54 l0 a1 a2 t191 t192 true) else ((pantileref01_Power.f kj54 (l0.length : Int)).bind fun t204 => (pantilelaw01_ZbitsAddr.j4 kj54 l0 a1 a2 t191 t192 (decide (a2 ≥ (wrap64 (t204))))))) = some r := by rw [if_neg (show ¬ (false = true) by decide)] at H; exact H
                                    clear H
                                    have H := H1
                                    clear H1
                                    have HC59 := Aside0.mk H
                                    clear H
                                    go_upto_region 21 with (fail)
                                    go_cut [156] (fun v156 wc => ∃ (kq : Nat) (x156_58 : Bool), v156 = .bool x156_58 ∧ Aside0 (pantilelaw01_ZbitsAddr.j4 kq l0 a1 a2 t191 t192 x156_58 = some r) ∧ Aside0 (kq ≤ kj54) ∧ Aside0 (Kd.R (Kd.int .u64) 30 wc w.heap.size (fun _ => True) v193 t191) ∧ Aside0 (Below w.heap.size w wc))
                                    case first =>
                                      have H := HC59.out
                                      clear HC59
                                      by_cases c60 : a2 < 0
                                      · rw [if_pos c60] at H
                                        have c60b0 : decide (a2 < 0) = true := decide_eq_true c60
                                        clear c60
                                        (first | rw [c60b0] | (simp only [i64_w, i32_w]; rw [c60b0]) | skip)
                                        have H' := Aside0.mk H
                                        clear H
                                        go_wp2
                                        go_meet
                                        case rel => exact ⟨_, (true), (by first | rfl | (simp; done) | (simp [*]; done)), H', ⟨by have := HJ11.out; have := HJ26.out; have := HJ40.out; have := HJ54.out; first | omega | exact Nat.le_refl _⟩, ⟨by (with_reducible repeat (first | apply Kd.R_alloc | apply Kd.R_drewN | apply Kd.R_drew)); exact HO_12.out⟩, ⟨by repeat (first | (with_reducible first | exact HB.out | apply below_alloc | apply pw_below_drewN | apply below_drew1) | exact HB.out)⟩⟩
                                      · rw [if_neg c60] at H
                                        have c60b0 : decide (a2 < 0) = false := decide_eq_false c60
                                        clear c60
                                        (first | rw [c60b0] | (simp only [i64_w, i32_w]; rw [c60b0]) | skip)
                                        replace H := Option.bind_eq_some_iff.mp H
                                        obtain ⟨t204, A610, H⟩ := H
                                        replace H : (pantilelaw01_ZbitsAddr.j4 kj54 l0 a1 a2 t191 t192 (decide (a2 ≥ (wrap64 (t204))))) = some r := H
                                        have A61 := Aside0.mk A610
                                        clear A610
                                        have H' := Aside0.mk H
                                        clear H
                                        go_wp2_with (first | (go_at_call 37; (with_reducible refine (pantileref01_Power.calls kj54 (l0.length : Int) t204 _ A61.out).mono ?_); rintro e w' ⟨rfl, ⟨nd, rfl⟩⟩))
                                        go_meet
                                        case rel => exact ⟨_, (decide (a2 ≥ (wrap64 (t204)))), (by first | rfl | (simp; done) | (simp [*]; done)), H', ⟨by have := HJ11.out; have := HJ26.out; have := HJ40.out; have := HJ54.out; first | omega | exact Nat.le_refl _⟩, ⟨by (with_reducible repeat (first | apply Kd.R_alloc | apply Kd.R_drewN | apply Kd.R_drew)); exact HO_12.out⟩, ⟨by repeat (first | (with_reducible first | exact HB.out | apply below_alloc | apply pw_below_drewN | apply below_drew1) | exact HB.out)⟩⟩
                                    case rest =>
                                      clear HC59
                                      try clear c1
                                      try clear c2
                                      try clear p2
                                      try clear c3
                                      try clear c4
                                      try clear c5
                                      try clear c6
                                      try clear c6b0
                                      try clear c6b1
                                      try clear p6
                                      try clear c7
                                      try clear c8
                                      try clear c17
                                      try clear c22
                                      try clear c22b0
                                      try clear c22b1
                                      try clear c22b2
                                      try clear c24
                                      try clear c26
                                      try clear c28
                                      try clear c28b0
                                      try clear c29
                                      try clear c30
                                      try clear c30b0
                                      try clear c30b1
                                      try clear c31
                                      try clear c31b0
                                      try clear c31b1
                                      try clear c32
                                      try clear c32b0
                                      try clear c32b1
                                      try clear c32b2
                                      try clear c33
                                      try clear c33b0
                                      try clear c33b1
                                      try clear c34
                                      try clear c34b0
                                      try clear c34b1
                                      try clear c34b2
                                      try clear c42
                                      try clear c42b0
                                      try clear c42b1
                                      try clear c43
                                      try clear c44
                                      try clear c45
                                      try clear c48
                                      try clear c49
                                      try clear c49b0
                                      try clear c49b1
                                      try clear c50
                                      try clear c50b0
                                      try clear c50b1
                                      try clear c51
                                      try clear c51b0
                                      try clear c51b1
                                      try clear c52
                                      try clear c52b0
                                      try clear c52b1
                                      try clear c52b2
                                      try clear c56
                                      try clear c56b0
                                      try clear c56b1
                                      try clear c58
                                      try clear c60
                                      try clear c60b0
                                      try clear p2
                                      obtain ⟨kq, x156_58, rfl, HA, HJ58, HO_12, HB⟩ := hcut
                                      cases kq with
                                      | zero => exact absurd HA.out (by simp [pantilelaw01_ZbitsAddr.j4])
                                      | succ kj58 =>
                                        have H := HA.out
                                        clear HA
                                        simp only [pantilelaw01_ZbitsAddr.j4] at H
                                        by_cases c62 : x156_58 = true
                                        · subst c62
                                          have H1 : (if (t191.length : Int) = 0 then (some (t192 == 3)) else (some false)) = some r := by rw [if_pos rfl] at H; exact H
                                          clear H
                                          have H := H1
                                          clear H1
                                          by_cases c63 : (t191.length : Int) = 0
                                          · rw [if_pos c63] at H
                                            have c63b0 : ((t191.length : Int) == 0) = true := beq_iff_eq.mpr c63
                                            have c63b1 : ((t191.length : Int) != 0) = false := bne_eq_false_iff_eq.mpr c63
                                            clear c63
                                            obtain rfl := Option.some.inj H
                                            obtain ⟨Ao64, co64, eo64⟩ := Kd.R_slice HO_12.out
                                            subst eo64
                                            go_wp2
                                            go_ret
                                            exact ⟨by first | rfl | (simp [errW_none, errW_some] <;> rfl) | (simp [*, errW_none, errW_some] <;> rfl), by repeat (first | (with_reducible first | exact HB.out | apply below_alloc | apply pw_below_drewN | apply below_drew1) | exact HB.out)⟩
                                          · rw [if_neg c63] at H
                                            have c63b0 : ((t191.length : Int) == 0) = false := beq_eq_false_iff_ne.mpr c63
                                            have c63b1 : ((t191.length : Int) != 0) = true := bne_iff_ne.mpr c63
                                            have c63b2 : ¬ (t191 = []) := fun h_ => c63 (by rw [h_]; rfl)
                                            obtain rfl := Option.some.inj H
                                            obtain ⟨Ao65, co65, eo65⟩ := Kd.R_slice HO_12.out
                                            subst eo65
                                            go_wp2
                                            go_ret
                                            exact ⟨by first | rfl | (simp [errW_none, errW_some] <;> rfl) | (simp [*, errW_none, errW_some] <;> rfl), by repeat (first | (with_reducible first | exact HB.out | apply below_alloc | apply pw_below_drewN | apply below_drew1) | exact HB.out)⟩
                                        · replace c62 := Bool.eq_false_iff.mpr c62
                                          subst c62
                                          have H1 : ((zbits_Addr.f kj58 t191 a1).bind fun bt205 => (if t192 = 0 then ((pantileref01_Place.f kj58 l0 a1 a2).bind fun t207 => ((pantileref01_Same.f kj58 t191 t207).bind fun t210 => (if t210 = true then (if bt205.1 = a2 then (some (bt205.2 == 0)) else (some false)) else (some false)))) else (some false))) = some r := by rw [if_neg (show ¬ (false = true) by decide)] at H; exact H
                                          clear H
                                          have H := H1
                                          clear H1
                                          replace H := Option.bind_eq_some_iff.mp H
                                          obtain ⟨⟨t205, t206⟩, A660, H⟩ := H
                                          replace H : (if t192 = 0 then ((pantileref01_Place.f kj58 l0 a1 a2).bind fun t207 => ((pantileref01_Same.f kj58 t191 t207).bind fun t210 => (if t210 = true then (if t205 = a2 then (some (t206 == 0)) else (some false)) else (some false)))) else (some false)) = some r := H
                                          have A66 := Aside0.mk A660
                                          clear A660
                                          by_cases c67 : t192 = 0
                                          · rw [if_pos c67] at H
                                            have c67b0 : (t192 == 0) = true := beq_iff_eq.mpr c67
                                            have c67b1 : (t192 != 0) = false := bne_eq_false_iff_eq.mpr c67
                                            clear c67
                                            replace H := Option.bind_eq_some_iff.mp H
                                            obtain ⟨t207, A680, H⟩ := H
                                            replace H : ((pantileref01_Same.f kj58 t191 t207).bind fun t210 => (if t210 = true then (if t205 = a2 then (some (t206 == 0)) else (some false)) else (some false))) = some r := H
                                            have A68 := Aside0.mk A680
                                            clear A680
                                            replace H := Option.bind_eq_some_iff.mp H
                                            obtain ⟨t210, A690, H⟩ := H
                                            replace H : (if t210 = true then (if t205 = a2 then (some (t206 == 0)) else (some false)) else (some false)) = some r := H
                                            have A69 := Aside0.mk A690
                                            clear A690
                                            by_cases c70 : t210 = true
                                            · subst c70
                                              have H1 : (if t205 = a2 then (some (t206 == 0)) else (some false)) = some r := by rw [if_pos rfl] at H; exact H
                                              clear H
                                              have H := H1
                                              clear H1
                                              by_cases c71 : t205 = a2
                                              · rw [if_pos c71] at H
                                                have c71b0 : (t205 == a2) = true := beq_iff_eq.mpr c71
                                                have c71b1 : (t205 != a2) = false := bne_eq_false_iff_eq.mpr c71
                                                clear c71
                                                obtain rfl := Option.some.inj H
                                                obtain ⟨Ao72, co72, eo72⟩ := Kd.R_slice HO_12.out
                                                subst eo72
                                                go_wp2_with (first | ((with_reducible refine gate_callee (f := 43) rfl ?_); refine goesL_ (some 167) rfl rfl Try.func43 (by kernel_rfl) rfl #[.slice Ao72 t191.length co72, .int .i64 a1] rfl (by (try simp only [List.map_toArray, List.map_cons, List.map_nil]); first | done | rfl | (simp only [List.length_drop, List.length_take]; rfl)) ?_; (with_reducible refine (zbits_Addr.calls kj58 _ _ t191 a1 t205 t206 _ ?side1 ?side2 A66.out).mono ?_); (case side1 => repeat (first | exact (Kd.R_reads' HO_12.out).2.2 | (with_reducible refine Kd.C_alloc ?_ _) | (with_reducible refine Kd.C_drewN ?_ _) | (with_reducible refine Kd.C_drew ?_))); (case side2 => exact (Kd.R_reads' HO_12.out).2.1); rintro e w' ⟨rfl, ⟨nd, rfl⟩⟩; refine ⟨_, rfl, ?_⟩) | (go_at_call 39; (with_reducible refine (pantileref01_Place.calls kj58 _ _ l0 a1 a2 t207 _ ?side1 ?side2 A68.out).mono ?_); (case side1 => repeat (first | exact (Kd.C_below HR0.out (by repeat (first | (with_reducible first | exact HB.out | apply below_alloc | apply pw_below_drewN | apply below_drew1) | exact HB.out))) | (with_reducible refine Kd.C_alloc ?_ _) | (with_reducible refine Kd.C_drewN ?_ _) | (with_reducible refine Kd.C_drew ?_))); (case side2 => exact HC0.out); rintro e w73 ⟨v208, rfl, ho0, hb⟩; have n0_ := Aside0.mk (Kd.R_elder' (by (with_reducible repeat (first | apply Kd.R_alloc | apply Kd.R_drewN | apply Kd.R_drew)); exact HO_12.out) (Kd.R_base ho0) hb); have n1_ := Aside0.mk (Kd.R_lower (Kd.R_new' ho0 (Kd.R_lt (by (with_reducible repeat (first | apply Kd.R_alloc | apply Kd.R_drewN | apply Kd.R_drew)); exact HO_12.out))) (below_size (by repeat (first | (with_reducible first | exact HB.out | apply below_alloc | apply pw_below_drewN | apply below_drew1) | exact HB.out)))); have n2_ := Aside0.mk (below_step (by repeat (first | (with_reducible first | exact HB.out | apply below_alloc | apply pw_below_drewN | apply below_drew1) | exact HB.out)) hb); clear HO_12; clear HB; have HO_12 := n0_; have HO209 := n1_; have HB := n2_; clear n0_ n1_ n2_; (try clear hb); (try clear hb2); (try clear hk); (try clear hi); (try clear ho0); obtain ⟨Ao74, co74, eo74⟩ := Kd.R_slice HO209.out; subst eo74) | (go_at_call 23; (with_reducible refine (pantileref01_Same.calls kj58 _ _ t191 _ _ t207 true _ ?side1 ?side2 ?side3 ?side4 A69.out).mono ?_); (case side1 => repeat (first | exact (Kd.R_reads' HO_12.out).2.2 | (with_reducible refine Kd.C_alloc ?_ _) | (with_reducible refine Kd.C_drewN ?_ _) | (with_reducible refine Kd.C_drew ?_))); (case side2 => exact (Kd.R_reads' HO_12.out).2.1); (case side3 => repeat (first | exact (Kd.R_reads' HO209.out).2.2 | (with_reducible refine Kd.C_alloc ?_ _) | (with_reducible refine Kd.C_drewN ?_ _) | (with_reducible refine Kd.C_drew ?_))); (case side4 => exact (Kd.R_reads' HO209.out).2.1); rintro e w' ⟨rfl, ⟨nd, rfl⟩⟩))
                                                go_ret
                                                exact ⟨by first | rfl | (simp [errW_none, errW_some] <;> rfl) | (simp [*, errW_none, errW_some] <;> rfl), by repeat (first | (with_reducible first | exact HB.out | apply below_alloc | apply pw_below_drewN | apply below_drew1) | exact HB.out)⟩
                                              · rw [if_neg c71] at H
                                                have c71b0 : (t205 == a2) = false := beq_eq_false_iff_ne.mpr c71
                                                have c71b1 : (t205 != a2) = true := bne_iff_ne.mpr c71
                                                obtain rfl := Option.some.inj H
                                                obtain ⟨Ao75, co75, eo75⟩ := Kd.R_slice HO_12.out
                                                subst eo75
                                                go_wp2_with (first | ((with_reducible refine gate_callee (f := 43) rfl ?_); refine goesL_ (some 167) rfl rfl Try.func43 (by kernel_rfl) rfl #[.slice Ao75 t191.length co75, .int .i64 a1] rfl (by (try simp only [List.map_toArray, List.map_cons, List.map_nil]); first | done | rfl | (simp only [List.length_drop, List.length_take]; rfl)) ?_; (with_reducible refine (zbits_Addr.calls kj58 _ _ t191 a1 t205 t206 _ ?side1 ?side2 A66.out).mono ?_); (case side1 => repeat (first | exact (Kd.R_reads' HO_12.out).2.2 | (with_reducible refine Kd.C_alloc ?_ _) | (with_reducible refine Kd.C_drewN ?_ _) | (with_reducible refine Kd.C_drew ?_))); (case side2 => exact (Kd.R_reads' HO_12.out).2.1); rintro e w' ⟨rfl, ⟨nd, rfl⟩⟩; refine ⟨_, rfl, ?_⟩) | (go_at_call 39; (with_reducible refine (pantileref01_Place.calls kj58 _ _ l0 a1 a2 t207 _ ?side1 ?side2 A68.out).mono ?_); (case side1 => repeat (first | exact (Kd.C_below HR0.out (by repeat (first | (with_reducible first | exact HB.out | apply below_alloc | apply pw_below_drewN | apply below_drew1) | exact HB.out))) | (with_reducible refine Kd.C_alloc ?_ _) | (with_reducible refine Kd.C_drewN ?_ _) | (with_reducible refine Kd.C_drew ?_))); (case side2 => exact HC0.out); rintro e w76 ⟨v208, rfl, ho0, hb⟩; have n0_ := Aside0.mk (Kd.R_elder' (by (with_reducible repeat (first | apply Kd.R_alloc | apply Kd.R_drewN | apply Kd.R_drew)); exact HO_12.out) (Kd.R_base ho0) hb); have n1_ := Aside0.mk (Kd.R_lower (Kd.R_new' ho0 (Kd.R_lt (by (with_reducible repeat (first | apply Kd.R_alloc | apply Kd.R_drewN | apply Kd.R_drew)); exact HO_12.out))) (below_size (by repeat (first | (with_reducible first | exact HB.out | apply below_alloc | apply pw_below_drewN | apply below_drew1) | exact HB.out)))); have n2_ := Aside0.mk (below_step (by repeat (first | (with_reducible first | exact HB.out | apply below_alloc | apply pw_below_drewN | apply below_drew1) | exact HB.out)) hb); clear HO_12; clear HB; have HO_12 := n0_; have HO209 := n1_; have HB := n2_; clear n0_ n1_ n2_; (try clear hb); (try clear hb2); (try clear hk); (try clear hi); (try clear ho0); obtain ⟨Ao77, co77, eo77⟩ := Kd.R_slice HO209.out; subst eo77) | (go_at_call 23; (with_reducible refine (pantileref01_Same.calls kj58 _ _ t191 _ _ t207 true _ ?side1 ?side2 ?side3 ?side4 A69.out).mono ?_); (case side1 => repeat (first | exact (Kd.R_reads' HO_12.out).2.2 | (with_reducible refine Kd.C_alloc ?_ _) | (with_reducible refine Kd.C_drewN ?_ _) | (with_reducible refine Kd.C_drew ?_))); (case side2 => exact (Kd.R_reads' HO_12.out).2.1); (case side3 => repeat (first | exact (Kd.R_reads' HO209.out).2.2 | (with_reducible refine Kd.C_alloc ?_ _) | (with_reducible refine Kd.C_drewN ?_ _) | (with_reducible refine Kd.C_drew ?_))); (case side4 => exact (Kd.R_reads' HO209.out).2.1); rintro e w' ⟨rfl, ⟨nd, rfl⟩⟩))
                                                go_ret
                                                exact ⟨by first | rfl | (simp [errW_none, errW_some] <;> rfl) | (simp [*, errW_none, errW_some] <;> rfl), by repeat (first | (with_reducible first | exact HB.out | apply below_alloc | apply pw_below_drewN | apply below_drew1) | exact HB.out)⟩
                                            · replace c70 := Bool.eq_false_iff.mpr c70
                                              subst c70
                                              have H1 : (some false) = some r := by rw [if_neg (show ¬ (false = true) by decide)] at H; exact H
                                              clear H
                                              have H := H1
                                              clear H1
                                              obtain rfl := Option.some.inj H
                                              obtain ⟨Ao78, co78, eo78⟩ := Kd.R_slice HO_12.out
                                              subst eo78
                                              go_wp2_with (first | ((with_reducible refine gate_callee (f := 43) rfl ?_); refine goesL_ (some 167) rfl rfl Try.func43 (by kernel_rfl) rfl #[.slice Ao78 t191.length co78, .int .i64 a1] rfl (by (try simp only [List.map_toArray, List.map_cons, List.map_nil]); first | done | rfl | (simp only [List.length_drop, List.length_take]; rfl)) ?_; (with_reducible refine (zbits_Addr.calls kj58 _ _ t191 a1 t205 t206 _ ?side1 ?side2 A66.out).mono ?_); (case side1 => repeat (first | exact (Kd.R_reads' HO_12.out).2.2 | (with_reducible refine Kd.C_alloc ?_ _) | (with_reducible refine Kd.C_drewN ?_ _) | (with_reducible refine Kd.C_drew ?_))); (case side2 => exact (Kd.R_reads' HO_12.out).2.1); rintro e w' ⟨rfl, ⟨nd, rfl⟩⟩; refine ⟨_, rfl, ?_⟩) | (go_at_call 39; (with_reducible refine (pantileref01_Place.calls kj58 _ _ l0 a1 a2 t207 _ ?side1 ?side2 A68.out).mono ?_); (case side1 => repeat (first | exact (Kd.C_below HR0.out (by repeat (first | (with_reducible first | exact HB.out | apply below_alloc | apply pw_below_drewN | apply below_drew1) | exact HB.out))) | (with_reducible refine Kd.C_alloc ?_ _) | (with_reducible refine Kd.C_drewN ?_ _) | (with_reducible refine Kd.C_drew ?_))); (case side2 => exact HC0.out); rintro e w79 ⟨v208, rfl, ho0, hb⟩; have n0_ := Aside0.mk (Kd.R_elder' (by (with_reducible repeat (first | apply Kd.R_alloc | apply Kd.R_drewN | apply Kd.R_drew)); exact HO_12.out) (Kd.R_base ho0) hb); have n1_ := Aside0.mk (Kd.R_lower (Kd.R_new' ho0 (Kd.R_lt (by (with_reducible repeat (first | apply Kd.R_alloc | apply Kd.R_drewN | apply Kd.R_drew)); exact HO_12.out))) (below_size (by repeat (first | (with_reducible first | exact HB.out | apply below_alloc | apply pw_below_drewN | apply below_drew1) | exact HB.out)))); have n2_ := Aside0.mk (below_step (by repeat (first | (with_reducible first | exact HB.out | apply below_alloc | apply pw_below_drewN | apply below_drew1) | exact HB.out)) hb); clear HO_12; clear HB; have HO_12 := n0_; have HO209 := n1_; have HB := n2_; clear n0_ n1_ n2_; (try clear hb); (try clear hb2); (try clear hk); (try clear hi); (try clear ho0); obtain ⟨Ao80, co80, eo80⟩ := Kd.R_slice HO209.out; subst eo80) | (go_at_call 23; (with_reducible refine (pantileref01_Same.calls kj58 _ _ t191 _ _ t207 false _ ?side1 ?side2 ?side3 ?side4 A69.out).mono ?_); (case side1 => repeat (first | exact (Kd.R_reads' HO_12.out).2.2 | (with_reducible refine Kd.C_alloc ?_ _) | (with_reducible refine Kd.C_drewN ?_ _) | (with_reducible refine Kd.C_drew ?_))); (case side2 => exact (Kd.R_reads' HO_12.out).2.1); (case side3 => repeat (first | exact (Kd.R_reads' HO209.out).2.2 | (with_reducible refine Kd.C_alloc ?_ _) | (with_reducible refine Kd.C_drewN ?_ _) | (with_reducible refine Kd.C_drew ?_))); (case side4 => exact (Kd.R_reads' HO209.out).2.1); rintro e w' ⟨rfl, ⟨nd, rfl⟩⟩))
                                              go_ret
                                              exact ⟨by first | rfl | (simp [errW_none, errW_some] <;> rfl) | (simp [*, errW_none, errW_some] <;> rfl), by repeat (first | (with_reducible first | exact HB.out | apply below_alloc | apply pw_below_drewN | apply below_drew1) | exact HB.out)⟩
                                          · rw [if_neg c67] at H
                                            have c67b0 : (t192 == 0) = false := beq_eq_false_iff_ne.mpr c67
                                            have c67b1 : (t192 != 0) = true := bne_iff_ne.mpr c67
                                            obtain rfl := Option.some.inj H
                                            obtain ⟨Ao81, co81, eo81⟩ := Kd.R_slice HO_12.out
                                            subst eo81
                                            go_wp2_with (first | ((with_reducible refine gate_callee (f := 43) rfl ?_); refine goesL_ (some 167) rfl rfl Try.func43 (by kernel_rfl) rfl #[.slice Ao81 t191.length co81, .int .i64 a1] rfl (by (try simp only [List.map_toArray, List.map_cons, List.map_nil]); first | done | rfl | (simp only [List.length_drop, List.length_take]; rfl)) ?_; (with_reducible refine (zbits_Addr.calls kj58 _ _ t191 a1 t205 t206 _ ?side1 ?side2 A66.out).mono ?_); (case side1 => repeat (first | exact (Kd.R_reads' HO_12.out).2.2 | (with_reducible refine Kd.C_alloc ?_ _) | (with_reducible refine Kd.C_drewN ?_ _) | (with_reducible refine Kd.C_drew ?_))); (case side2 => exact (Kd.R_reads' HO_12.out).2.1); rintro e w' ⟨rfl, ⟨nd, rfl⟩⟩; refine ⟨_, rfl, ?_⟩))
                                            go_ret
                                            exact ⟨by first | rfl | (simp [errW_none, errW_some] <;> rfl) | (simp [*, errW_none, errW_some] <;> rfl), by repeat (first | (with_reducible first | exact HB.out | apply below_alloc | apply pw_below_drewN | apply below_drew1) | exact HB.out)⟩
              · replace c26 := Bool.eq_false_iff.mpr c26
                subst c26
                have H1 : (if t185 = 0 then (if t186 = 2 then (if (t187.length : Int) = 0 then (if t188 = 2 then (if (t191.length : Int) = 0 then (some (t192 == 2)) else (some false)) else (some false)) else (some false)) else (some false)) else (some false)) = some r := by rw [if_neg (show ¬ (false = true) by decide)] at H; exact H
                clear H
                have H := H1
                clear H1
                by_cases c82 : t185 = 0
                · rw [if_pos c82] at H
                  have c82b0 : (t185 == 0) = true := beq_iff_eq.mpr c82
                  have c82b1 : (t185 != 0) = false := bne_eq_false_iff_eq.mpr c82
                  clear c82
                  by_cases c83 : t186 = 2
                  · rw [if_pos c83] at H
                    have c83b0 : (t186 == 2) = true := beq_iff_eq.mpr c83
                    have c83b1 : (t186 != 2) = false := bne_eq_false_iff_eq.mpr c83
                    clear c83
                    by_cases c84 : (t187.length : Int) = 0
                    · rw [if_pos c84] at H
                      have c84b0 : ((t187.length : Int) == 0) = true := beq_iff_eq.mpr c84
                      have c84b1 : ((t187.length : Int) != 0) = false := bne_eq_false_iff_eq.mpr c84
                      clear c84
                      by_cases c85 : t188 = 2
                      · rw [if_pos c85] at H
                        have c85b0 : (t188 == 2) = true := beq_iff_eq.mpr c85
                        have c85b1 : (t188 != 2) = false := bne_eq_false_iff_eq.mpr c85
                        clear c85
                        by_cases c86 : (t191.length : Int) = 0
                        · rw [if_pos c86] at H
                          have c86b0 : ((t191.length : Int) == 0) = true := beq_iff_eq.mpr c86
                          have c86b1 : ((t191.length : Int) != 0) = false := bne_eq_false_iff_eq.mpr c86
                          clear c86
                          obtain rfl := Option.some.inj H
                          go_wp2_with (first | ((with_reducible refine gate_callee (f := 28) rfl ?_); refine goesL_ (some 55) rfl rfl Try.func28 (by kernel_rfl) rfl #[.slice A0 l0.length c0] rfl (by (try simp only [List.map_toArray, List.map_cons, List.map_nil]); first | done | rfl | (simp only [List.length_drop, List.length_take]; rfl)) ?_; (with_reducible refine (pantileref01_Right.calls _ _ l0 false _ ?side1 ?side2 A25.out).mono ?_); (case side1 => repeat (first | exact (Kd.C_below HR0.out HB.out) | (with_reducible refine Kd.C_alloc ?_ _) | (with_reducible refine Kd.C_drewN ?_ _) | (with_reducible refine Kd.C_drew ?_))); (case side2 => exact HC0.out); rintro e w' ⟨rfl, ⟨nd, rfl⟩⟩; refine ⟨_, rfl, ?_⟩; obtain ⟨Ao87, co87, eo87⟩ := Kd.R_slice HO_10.out; subst eo87; obtain ⟨Ao88, co88, eo88⟩ := Kd.R_slice HO_12.out; subst eo88))
                          go_ret
                          exact ⟨by first | rfl | (simp [errW_none, errW_some] <;> rfl) | (simp [*, errW_none, errW_some] <;> rfl), by repeat (first | (with_reducible first | exact HB.out | apply below_alloc | apply pw_below_drewN | apply below_drew1) | exact HB.out)⟩
                        · rw [if_neg c86] at H
                          have c86b0 : ((t191.length : Int) == 0) = false := beq_eq_false_iff_ne.mpr c86
                          have c86b1 : ((t191.length : Int) != 0) = true := bne_iff_ne.mpr c86
                          have c86b2 : ¬ (t191 = []) := fun h_ => c86 (by rw [h_]; rfl)
                          obtain rfl := Option.some.inj H
                          go_wp2_with (first | ((with_reducible refine gate_callee (f := 28) rfl ?_); refine goesL_ (some 55) rfl rfl Try.func28 (by kernel_rfl) rfl #[.slice A0 l0.length c0] rfl (by (try simp only [List.map_toArray, List.map_cons, List.map_nil]); first | done | rfl | (simp only [List.length_drop, List.length_take]; rfl)) ?_; (with_reducible refine (pantileref01_Right.calls _ _ l0 false _ ?side1 ?side2 A25.out).mono ?_); (case side1 => repeat (first | exact (Kd.C_below HR0.out HB.out) | (with_reducible refine Kd.C_alloc ?_ _) | (with_reducible refine Kd.C_drewN ?_ _) | (with_reducible refine Kd.C_drew ?_))); (case side2 => exact HC0.out); rintro e w' ⟨rfl, ⟨nd, rfl⟩⟩; refine ⟨_, rfl, ?_⟩; obtain ⟨Ao89, co89, eo89⟩ := Kd.R_slice HO_10.out; subst eo89; obtain ⟨Ao90, co90, eo90⟩ := Kd.R_slice HO_12.out; subst eo90))
                          go_ret
                          exact ⟨by first | rfl | (simp [errW_none, errW_some] <;> rfl) | (simp [*, errW_none, errW_some] <;> rfl), by repeat (first | (with_reducible first | exact HB.out | apply below_alloc | apply pw_below_drewN | apply below_drew1) | exact HB.out)⟩
                      · rw [if_neg c85] at H
                        have c85b0 : (t188 == 2) = false := beq_eq_false_iff_ne.mpr c85
                        have c85b1 : (t188 != 2) = true := bne_iff_ne.mpr c85
                        obtain rfl := Option.some.inj H
                        go_wp2_with (first | ((with_reducible refine gate_callee (f := 28) rfl ?_); refine goesL_ (some 55) rfl rfl Try.func28 (by kernel_rfl) rfl #[.slice A0 l0.length c0] rfl (by (try simp only [List.map_toArray, List.map_cons, List.map_nil]); first | done | rfl | (simp only [List.length_drop, List.length_take]; rfl)) ?_; (with_reducible refine (pantileref01_Right.calls _ _ l0 false _ ?side1 ?side2 A25.out).mono ?_); (case side1 => repeat (first | exact (Kd.C_below HR0.out HB.out) | (with_reducible refine Kd.C_alloc ?_ _) | (with_reducible refine Kd.C_drewN ?_ _) | (with_reducible refine Kd.C_drew ?_))); (case side2 => exact HC0.out); rintro e w' ⟨rfl, ⟨nd, rfl⟩⟩; refine ⟨_, rfl, ?_⟩; obtain ⟨Ao91, co91, eo91⟩ := Kd.R_slice HO_10.out; subst eo91))
                        go_ret
                        exact ⟨by first | rfl | (simp [errW_none, errW_some] <;> rfl) | (simp [*, errW_none, errW_some] <;> rfl), by repeat (first | (with_reducible first | exact HB.out | apply below_alloc | apply pw_below_drewN | apply below_drew1) | exact HB.out)⟩
                    · rw [if_neg c84] at H
                      have c84b0 : ((t187.length : Int) == 0) = false := beq_eq_false_iff_ne.mpr c84
                      have c84b1 : ((t187.length : Int) != 0) = true := bne_iff_ne.mpr c84
                      have c84b2 : ¬ (t187 = []) := fun h_ => c84 (by rw [h_]; rfl)
                      obtain rfl := Option.some.inj H
                      go_wp2_with (first | ((with_reducible refine gate_callee (f := 28) rfl ?_); refine goesL_ (some 55) rfl rfl Try.func28 (by kernel_rfl) rfl #[.slice A0 l0.length c0] rfl (by (try simp only [List.map_toArray, List.map_cons, List.map_nil]); first | done | rfl | (simp only [List.length_drop, List.length_take]; rfl)) ?_; (with_reducible refine (pantileref01_Right.calls _ _ l0 false _ ?side1 ?side2 A25.out).mono ?_); (case side1 => repeat (first | exact (Kd.C_below HR0.out HB.out) | (with_reducible refine Kd.C_alloc ?_ _) | (with_reducible refine Kd.C_drewN ?_ _) | (with_reducible refine Kd.C_drew ?_))); (case side2 => exact HC0.out); rintro e w' ⟨rfl, ⟨nd, rfl⟩⟩; refine ⟨_, rfl, ?_⟩; obtain ⟨Ao92, co92, eo92⟩ := Kd.R_slice HO_10.out; subst eo92))
                      go_ret
                      exact ⟨by first | rfl | (simp [errW_none, errW_some] <;> rfl) | (simp [*, errW_none, errW_some] <;> rfl), by repeat (first | (with_reducible first | exact HB.out | apply below_alloc | apply pw_below_drewN | apply below_drew1) | exact HB.out)⟩
                  · rw [if_neg c83] at H
                    have c83b0 : (t186 == 2) = false := beq_eq_false_iff_ne.mpr c83
                    have c83b1 : (t186 != 2) = true := bne_iff_ne.mpr c83
                    obtain rfl := Option.some.inj H
                    go_wp2_with (first | ((with_reducible refine gate_callee (f := 28) rfl ?_); refine goesL_ (some 55) rfl rfl Try.func28 (by kernel_rfl) rfl #[.slice A0 l0.length c0] rfl (by (try simp only [List.map_toArray, List.map_cons, List.map_nil]); first | done | rfl | (simp only [List.length_drop, List.length_take]; rfl)) ?_; (with_reducible refine (pantileref01_Right.calls _ _ l0 false _ ?side1 ?side2 A25.out).mono ?_); (case side1 => repeat (first | exact (Kd.C_below HR0.out HB.out) | (with_reducible refine Kd.C_alloc ?_ _) | (with_reducible refine Kd.C_drewN ?_ _) | (with_reducible refine Kd.C_drew ?_))); (case side2 => exact HC0.out); rintro e w' ⟨rfl, ⟨nd, rfl⟩⟩; refine ⟨_, rfl, ?_⟩))
                    go_ret
                    exact ⟨by first | rfl | (simp [errW_none, errW_some] <;> rfl) | (simp [*, errW_none, errW_some] <;> rfl), by repeat (first | (with_reducible first | exact HB.out | apply below_alloc | apply pw_below_drewN | apply below_drew1) | exact HB.out)⟩
                · rw [if_neg c82] at H
                  have c82b0 : (t185 == 0) = false := beq_eq_false_iff_ne.mpr c82
                  have c82b1 : (t185 != 0) = true := bne_iff_ne.mpr c82
                  obtain rfl := Option.some.inj H
                  go_wp2_with (first | ((with_reducible refine gate_callee (f := 28) rfl ?_); refine goesL_ (some 55) rfl rfl Try.func28 (by kernel_rfl) rfl #[.slice A0 l0.length c0] rfl (by (try simp only [List.map_toArray, List.map_cons, List.map_nil]); first | done | rfl | (simp only [List.length_drop, List.length_take]; rfl)) ?_; (with_reducible refine (pantileref01_Right.calls _ _ l0 false _ ?side1 ?side2 A25.out).mono ?_); (case side1 => repeat (first | exact (Kd.C_below HR0.out HB.out) | (with_reducible refine Kd.C_alloc ?_ _) | (with_reducible refine Kd.C_drewN ?_ _) | (with_reducible refine Kd.C_drew ?_))); (case side2 => exact HC0.out); rintro e w' ⟨rfl, ⟨nd, rfl⟩⟩; refine ⟨_, rfl, ?_⟩))
                  go_ret
                  exact ⟨by first | rfl | (simp [errW_none, errW_some] <;> rfl) | (simp [*, errW_none, errW_some] <;> rfl), by repeat (first | (with_reducible first | exact HB.out | apply below_alloc | apply pw_below_drewN | apply below_drew1) | exact HB.out)⟩
      · rw [if_neg c8] at H
        exact absurd H (by simp)
  · replace c5 := Bool.eq_false_iff.mpr c5
    subst c5
    have H1 : (some false) = some r := by rw [if_neg (show ¬ (false = true) by decide)] at H; exact H
    clear H
    have H := H1
    clear H1
    obtain rfl := Option.some.inj H
    go_enter Try.func7, Try.ntmps7
    go_wp2_with (first | ((with_reducible refine gate_callee (f := 17) rfl ?_); refine goesL_ (some 16) rfl rfl Try.func17 (by kernel_rfl) rfl #[] rfl (by (try simp only [List.map_toArray, List.map_cons, List.map_nil]); first | done | rfl | (simp only [List.length_drop, List.length_take]; rfl)) ?_; (with_reducible refine (pantilelaw01_awake.calls k  false _ A4.out).mono ?_); rintro e w93 ⟨rfl, hb⟩; refine ⟨_, rfl, ?_⟩; have n0_ := Aside0.mk (below_step (by repeat (first | (with_reducible first | exact HB.out | apply below_alloc | apply pw_below_drewN | apply below_drew1) | exact HB.out)) hb); clear HB; have HB := n0_; clear n0_; (try clear hb); (try clear hb2); (try clear hk); (try clear hi)))
    go_ret
    exact ⟨by first | rfl | (simp [errW_none, errW_some] <;> rfl) | (simp [*, errW_none, errW_some] <;> rfl), by repeat (first | (with_reducible first | exact HB.out | apply below_alloc | apply pw_below_drewN | apply below_drew1) | exact HB.out)⟩

/-- THE ONE PURE STATEMENT of pantilelaw01_ZbitsAddr: yours. -/
def pantilelaw01_ZbitsAddr.Pure : Prop := ∀ (l0 : List Int) (a1 : Int) (a2 : Int), l0.length ≤ maxLen → l0.length * 8 ≤ 140737488351232 → (∀ x ∈ l0, (Lit.int .u64 x).wf = true) → (Lit.int .i64 a1).wf = true → (Lit.int .i64 a2).wf = true → ∃ k, pantilelaw01_ZbitsAddr.f k l0 a1 a2 = some true
theorem pantilelaw01_ZbitsAddr.walk (P : pantilelaw01_ZbitsAddr.Pure) (a0 : Option Addr) (len0 cap0 : Nat) (z0 : List Int) (a1 : Int) (a2 : Int) (w : World) (w0 : (a0 = none ∧ len0 = 0 ∧ cap0 = 0 ∧ z0 = []) ∨ ∃ x, a0 = some x ∧ len0 ≤ cap0 ∧ cap0 ≤ maxLen ∧ z0.length = cap0 ∧ (∀ i, i < z0.length → w.cell? (x.add i) = some (.int .u64 (z0.getD i 0))) ∧ ∀ n ∈ z0, (Lit.int .u64 n).wf = true) (y0 : len0 * 8 ≤ 140737488351232) (w1 : (Lit.int .i64 a1).wf = true) (w2 : (Lit.int .i64 a2).wf = true) :
    Calls Try.prog 7 #[.slice a0 len0 cap0, .int .i64 a1, .int .i64 a2] w fun e w' => e = .returned (.bool true) ∧ Below w.heap.size w w' := by
  obtain ⟨l0, rfl, hr0, hm0, hw0, hc0⟩ := ReadsInt.ofRowC w0
  obtain ⟨k, h⟩ := P l0 a1 a2 hm0 y0 hw0 w1 w2
  refine (pantilelaw01_ZbitsAddr.calls k _ _ l0 a1 a2 true w (Kd.C_of_reads (d := (0 : Int)) (h1 := fun _ => rfl) hr0) hc0 h).mono ?_
  rintro e w' ⟨rfl, hd⟩
  exact ⟨rfl, hd⟩

end Go.Proofs.Ythdphjbecibeaaa.PZbitsAddr
